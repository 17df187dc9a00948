/- Walks of the document's one, size, Check, Long. -/
import Derived.Test.YtnkpjmcgecdkfaaMl
namespace Go.Mt
instance (t : Tok) (n : Nat) : Decidable (t.ok n) := by unfold Tok.ok; infer_instance
theorem ok_zero {t : Tok} {n : Nat} (h : t.len = 0) : decide (t.ok n) = decide (t.dist = 0) := by
  refine decide_eq_decide.2 ?_
  unfold Tok.ok
  constructor
  · rintro (h1 | h1) <;> omega
  · intro h1; exact .inl ⟨h, h1⟩
end Go.Mt
namespace Go.Own
open Go.RowKit Go.Ord
section
variable {P : Program} {ops : Array Oper} {Q : Exit → Act → World → Prop} {a : Act} {w : World} {rest : List Oper}
variable {d : Option Tmp} {ty : TypeId} {pos : String} {aft : Array Edge}
theorem gMax {args : Array Operand} {ats : Array TypeId} (h : wpList P ops Q ({ dst := d, op := .call { callee := .builtin .max, args := args, argTypes := ats }, type := ty, pos := pos, after := aft, guard := none } :: rest) a w) :
    wpList P ops Q ({ dst := d, op := .call { callee := .builtin .max, args := args, argTypes := ats }, type := ty, pos := pos, after := aft, guard := none } :: rest) a w := h
/-- 'max(x, y)' of two numbers: what it is, is told -/
theorem maxV {x y : Operand} {ats : Array TypeId} {k k' : IntKind} {m n : Int} (r : Int) (hr : (if m < n then n else m) = r) (hx : a.eval x = .int k m) (hy : a.eval y = .int k' n)
    (h : wpList P ops Q rest (a.put d (.int k r)) w) :
    wpList P ops Q ({ dst := d, op := .call { callee := .builtin .max, args := #[x, y], argTypes := ats }, type := ty, pos := pos, after := aft, guard := none } :: rest) a w := by
  refine Go.Bva.step_val ?_ h
  subst hr
  simp [execOp, invoke, resolve, builtin, hx, hy, run_max_int2]
end
end Go.Own
namespace Go.Proofs.Ytnkpjmcgecdkfaa
open Go.RowKit Go.Own Go.Bv Go.Ord Go.Eq Go.Mt

set_option maxHeartbeats 1000000 in
theorem rsize_calls (t : Tok) (w : World) (h0 : 0 ≤ t.len) :
    Calls Try.prog 44 #[.agg t.C] w fun e w' => e = .returned (.int .i64 (t.size : Nat)) ∧ Below w.heap.size w w' := by
  have hO := Own.start w
  have HS : Hid ((if t.len < 1 then 1 else t.len) = (t.size : Int)) := by
    show _ = _
    unfold Tok.size
    by_cases h : t.len = 0
    · rw [if_pos h, if_pos (by omega)]; rfl
    · rw [if_neg h, if_neg (by omega)]; omega
  generalize t.size = sz at HS ⊢
  generalize hW : w = wn at hO ⊢
  clear hW w h0
  obtain ⟨lit, len, dist⟩ := t
  dsimp only at HS
  go_enter Try.func44, Try.ntmps44
  go_wp2_with (first
    | ((with_reducible refine gBox ?_); first | (refine bxA hO rfl ?_; clear hO; intro b ww hO) | (refine bx1 hO rfl rfl ?_; clear hO; intro b ww hO))
    | ((with_reducible refine gMax ?_); refine maxV _ HS.out rfl rfl ?_)
    | ((with_reducible refine gLoad ?_); first | refine ldX hO 0 rfl rfl (tA rfl) (tS rfl) ?_ | refine ldC hO 0 rfl rfl (tA rfl) rfl ?_))
  go_ret
  exact ⟨rfl, hO.below⟩

set_option maxHeartbeats 4000000 in
set_option maxRecDepth 100000 in
theorem rone_calls (t : Tok) (M : Nat) (w : World) :
    Calls Try.prog 43 #[.agg t.C, .int .i64 (M : Int)] w fun e w' => e = .returned (.bool (decide (t.ok M))) ∧ Below w.heap.size w w' := by
  have hO := Own.start w
  obtain ⟨B, hB⟩ : ∃ B, decide (t.ok M) = B := ⟨_, rfl⟩
  rw [hB]
  have hl2 := lit_zero (c := t.lit)
  by_cases hz : t.len = 0
  · rw [ok_zero hz] at hB
    obtain ⟨lit, len, dist⟩ := t
    dsimp only at hz hB
    subst hz
    have hb : (dist == 0) = B := by rw [← hB, Bool.eq_iff_iff]; simp
    clear hB hl2
    have HB := Lib.hid hb
    clear hb
    generalize hW : w = wn at hO ⊢
    clear hW w
    go_enter Try.func43, Try.ntmps43
    go_wp2_with (first | ((with_reducible refine gBox ?_); first | (refine bxA hO rfl ?_; clear hO; intro b ww hO) | (refine bx1 hO rfl rfl ?_; clear hO; intro b ww hO)) | ((with_reducible refine gLoad ?_); first | refine ldX hO 0 rfl rfl (tA rfl) (tS rfl) ?_ | refine ldC hO 0 rfl rfl (tA rfl) rfl ?_))
    go_ret
    exact ⟨by rw [← HB.out]; rfl, hO.below⟩
  have e0 : (t.len == 0) = false := by simpa using hz
  have hF : ¬ t.ok M → Hid (B = false) := fun h => by show _ = _; rw [← hB]; exact decide_eq_false h
  generalize hW : w = wn at hO ⊢
  clear hW w
  by_cases c1 : 3 ≤ t.len
  · have e1 : decide (3 ≤ t.len) = true := by simpa using c1
    by_cases c2 : t.len ≤ 18
    · have e2 : decide (t.len ≤ 18) = true := by simpa using c2
      by_cases c3 : 1 ≤ t.dist
      · have e3 : decide (1 ≤ t.dist) = true := by simpa using c3
        by_cases c4 : t.dist ≤ 256
        · have e4 : decide (t.dist ≤ 256) = true := by simpa using c4
          by_cases c5 : t.lit = 0
          · have e5 : ((t.lit.toNat : Int) == 0) = true := by rw [hl2]; exact decide_eq_true c5
            by_cases c6 : t.dist ≤ (M : Int)
            · have e6 : decide (t.dist ≤ (M : Int)) = true := by simpa using c6
              have HB : Hid (B = true) := by show _ = _; rw [← hB]; exact decide_eq_true (.inr ⟨c1, c2, c3, c4, c6, c5⟩)
              obtain ⟨lit, len, dist⟩ := t
              dsimp only at *
              subst c5
              clear hF hB hl2 hz c1 c2 c3 c4 c6
              go_enter Try.func43, Try.ntmps43
              go_wp2_with (first | ((with_reducible refine gBox ?_); first | (refine bxA hO rfl ?_; clear hO; intro b ww hO) | (refine bx1 hO rfl rfl ?_; clear hO; intro b ww hO)) | ((with_reducible refine gG ?_); refine wpList_want rfl ?_) | ((with_reducible refine gLoad ?_); first | refine ldX hO 0 rfl rfl (tA rfl) (tS rfl) ?_ | refine ldC hO 0 rfl rfl (tA rfl) rfl ?_))
              go_ret
              exact ⟨by rw [HB.out]; rfl, hO.below⟩
            · have e6 : decide (t.dist ≤ (M : Int)) = false := by simpa using c6
              have HB := hF (fun h => by rcases h with h | h <;> omega)
              obtain ⟨lit, len, dist⟩ := t
              dsimp only at *
              subst c5
              clear hF hB hl2 hz c1 c2 c3 c4 c6
              go_enter Try.func43, Try.ntmps43
              go_wp2_with (first | ((with_reducible refine gBox ?_); first | (refine bxA hO rfl ?_; clear hO; intro b ww hO) | (refine bx1 hO rfl rfl ?_; clear hO; intro b ww hO)) | ((with_reducible refine gG ?_); refine wpList_want rfl ?_) | ((with_reducible refine gLoad ?_); first | refine ldX hO 0 rfl rfl (tA rfl) (tS rfl) ?_ | refine ldC hO 0 rfl rfl (tA rfl) rfl ?_))
              go_ret
              exact ⟨by rw [HB.out]; rfl, hO.below⟩
          · have e5 : ((t.lit.toNat : Int) == 0) = false := by rw [hl2]; exact decide_eq_false c5
            have HB := hF (fun h => by rcases h with h | h; omega; exact c5 h.2.2.2.2.2)
            obtain ⟨lit, len, dist⟩ := t
            dsimp only at *
            clear hF hB hl2 hz c1 c2 c3 c4 c5
            go_enter Try.func43, Try.ntmps43
            go_wp2_with (first | ((with_reducible refine gBox ?_); first | (refine bxA hO rfl ?_; clear hO; intro b ww hO) | (refine bx1 hO rfl rfl ?_; clear hO; intro b ww hO)) | ((with_reducible refine gG ?_); refine wpList_want rfl ?_) | ((with_reducible refine gLoad ?_); first | refine ldX hO 0 rfl rfl (tA rfl) (tS rfl) ?_ | refine ldC hO 0 rfl rfl (tA rfl) rfl ?_))
            go_ret
            exact ⟨by rw [HB.out]; rfl, hO.below⟩
        · have e4 : decide (t.dist ≤ 256) = false := by simpa using c4
          have HB := hF (fun h => by rcases h with h | h <;> omega)
          obtain ⟨lit, len, dist⟩ := t
          dsimp only at *
          clear hF hB hl2 hz c1 c2 c3 c4
          go_enter Try.func43, Try.ntmps43
          go_wp2_with (first | ((with_reducible refine gBox ?_); first | (refine bxA hO rfl ?_; clear hO; intro b ww hO) | (refine bx1 hO rfl rfl ?_; clear hO; intro b ww hO)) | ((with_reducible refine gG ?_); refine wpList_want rfl ?_) | ((with_reducible refine gLoad ?_); first | refine ldX hO 0 rfl rfl (tA rfl) (tS rfl) ?_ | refine ldC hO 0 rfl rfl (tA rfl) rfl ?_))
          go_ret
          exact ⟨by rw [HB.out]; rfl, hO.below⟩
      · have e3 : decide (1 ≤ t.dist) = false := by simpa using c3
        have HB := hF (fun h => by rcases h with h | h <;> omega)
        obtain ⟨lit, len, dist⟩ := t
        dsimp only at *
        clear hF hB hl2 hz c1 c2 c3
        go_enter Try.func43, Try.ntmps43
        go_wp2_with (first | ((with_reducible refine gBox ?_); first | (refine bxA hO rfl ?_; clear hO; intro b ww hO) | (refine bx1 hO rfl rfl ?_; clear hO; intro b ww hO)) | ((with_reducible refine gG ?_); refine wpList_want rfl ?_) | ((with_reducible refine gLoad ?_); first | refine ldX hO 0 rfl rfl (tA rfl) (tS rfl) ?_ | refine ldC hO 0 rfl rfl (tA rfl) rfl ?_))
        go_ret
        exact ⟨by rw [HB.out]; rfl, hO.below⟩
    · have e2 : decide (t.len ≤ 18) = false := by simpa using c2
      have HB := hF (fun h => by rcases h with h | h <;> omega)
      obtain ⟨lit, len, dist⟩ := t
      dsimp only at *
      clear hF hB hl2 hz c1 c2
      go_enter Try.func43, Try.ntmps43
      go_wp2_with (first | ((with_reducible refine gBox ?_); first | (refine bxA hO rfl ?_; clear hO; intro b ww hO) | (refine bx1 hO rfl rfl ?_; clear hO; intro b ww hO)) | ((with_reducible refine gG ?_); refine wpList_want rfl ?_) | ((with_reducible refine gLoad ?_); first | refine ldX hO 0 rfl rfl (tA rfl) (tS rfl) ?_ | refine ldC hO 0 rfl rfl (tA rfl) rfl ?_))
      go_ret
      exact ⟨by rw [HB.out]; rfl, hO.below⟩
  · have e1 : decide (3 ≤ t.len) = false := by simpa using c1
    have HB := hF (fun h => by rcases h with h | h <;> omega)
    obtain ⟨lit, len, dist⟩ := t
    dsimp only at *
    clear hF hB hl2 hz c1
    go_enter Try.func43, Try.ntmps43
    go_wp2_with (first | ((with_reducible refine gBox ?_); first | (refine bxA hO rfl ?_; clear hO; intro b ww hO) | (refine bx1 hO rfl rfl ?_; clear hO; intro b ww hO)) | ((with_reducible refine gG ?_); refine wpList_want rfl ?_) | ((with_reducible refine gLoad ?_); first | refine ldX hO 0 rfl rfl (tA rfl) (tS rfl) ?_ | refine ldC hO 0 rfl rfl (tA rfl) rfl ?_))
    go_ret
    exact ⟨by rw [HB.out]; rfl, hO.below⟩

set_option maxHeartbeats 4000000 in
set_option maxRecDepth 100000 in
theorem rcheck_calls (a : Option Addr) (n c : Nat) (l : List Tok) (w : World) (hR : Rd w 3 a n c (tks l)) (E : Int) (hok : n ≤ 65536 → okFrom 0 l → E = 0) (hno : 65536 < n ∨ ¬ okFrom 0 l → E = 1) :
    Calls Try.prog 25 #[.slice a n c] w fun e w' => e = .returned (.int .i64 E) ∧ Below w.heap.size w w' := by
  have hO := Own.start w
  have hl : l.length = n := by have := hR.len; rw [tks_length] at this; omega
  have HR := Lib.hid hR
  clear hR
  by_cases hn : 65536 < n
  · have d1 : decide ((65536 : Int) < (n : Int)) = true := by simp; omega
    obtain rfl := hno (.inl hn)
    generalize hW : w = wn at hO ⊢
    clear hW w hok hno hl HR
    go_enter Try.func25, Try.ntmps25
    go_wp2
    go_ret
    exact ⟨rfl, hO.below⟩
  have d1 : decide ((65536 : Int) < (n : Int)) = false := by simp; omega
  have HL := Lib.hid hl
  have HOK := Lib.hid (hok (by omega))
  have HNO : Hid (¬ okFrom 0 l → E = 1) := fun h => hno (.inr h)
  generalize hW : w = wn at hO HR ⊢
  clear hW w hok hno hl
  go_enter Try.func25, Try.ntmps25
  go_wp2
  go_loopg [3, 11] n (fun m s3 s11 wr => ∃ (k : Nat) (M : Nat), m = n - k ∧ k ≤ n ∧ s11 = .int .i64 (k : Int) ∧ s3 = .int .i64 (M : Int) ∧ M = told (l.take k) ∧ okFrom 0 (l.take k) ∧ Own wn wr [])
  case atStart => exact ⟨0, 0, rfl, by omega, rfl, rfl, rfl, by simp [okFrom], hO⟩
  case round =>
    obtain ⟨k, M, rfl, hk, rfl, rfl, hM, hF, hO1⟩ := hrel
    clear hO
    have hO := hO1
    have HM := Lib.hid hM
    have HF := Lib.hid hF
    clear hO1 hM hF
    by_cases c1 : k < n
    · have d2 : decide ((k : Int) < (n : Int)) = true := by simp; omega
      have hMb : M ≤ 18 * k := by rw [HM.out]; exact told_bound HF.out
      have hkl : k < l.length := by rw [HL.out]; exact c1
      have ht := List.getElem?_eq_getElem (l := l) (i := k) hkl
      have hok1 := okFrom_next hkl
      have hto1 := told_next hkl
      have hnot : ¬ (l[k]).ok M → ¬ okFrom 0 l := fun h h0 => h (by
        have := okFrom_take (k + 1) h0
        rw [okFrom_next hkl, ← HM.out] at this
        exact this.2)
      rw [← HM.out] at hok1 hto1
      obtain ⟨t, hte⟩ : ∃ t, l[k] = t := ⟨_, rfl⟩
      rw [hte] at ht hok1 hto1 hnot
      have hone := fun w => rone_calls t M w
      have HT := Lib.hid ht
      clear ht hte hkl
      obtain ⟨b0, off, rfl⟩ := HR.out.place (by omega)
      by_cases h0 : t.ok M
      · rw [decide_eq_true h0] at hone
        have HON := Lib.hid hone
        have hz := Tok.ok_size h0
        have HOK1 := Lib.hid (hok1.2 ⟨HF.out, h0⟩)
        have HZ := Lib.hid (fun w => rsize_calls t w (Tok.ok_len h0).1)
        obtain ⟨sz, hs⟩ : ∃ sz, t.size = sz := ⟨_, rfl⟩
        rw [hs] at HZ hz hto1
        have HTO := Lib.hid hto1
        have hw : wrap64 ((M : Int) + (sz : Int)) = ((M + sz : Nat) : Int) := by unfold wrap64; omega
        clear hok1 hto1 hnot hone h0 hs
        go_wp2_with (first
          | ((with_reducible refine gAlloc (T := 30) ?_); refine own_alloc hO _ _ itz ?_; clear hO; intro bx ww hO)
          | ((with_reducible refine gLoad (T := 30) ?_); first | refine ldX hO 0 rfl rfl (tA rfl) (tS rfl) ?_ | refine ld_tok (hO.rd HR.out) HT.out rfl (by omega) (tA rfl) (tS rfl) ?_)
          | ((with_reducible refine gStore ?_); first | (refine stX hO 0 rfl rfl rfl rfl rfl (tS rfl) ?_; clear hO; intro ww hO) | (refine stC hO 0 rfl rfl rfl (ltb rfl) rfl (tS rfl) ?_; clear hO; intro ww hO))
          | (go_at_call 43; refine (HON.out _).mono ?_; rintro e ww ⟨rfl, hb⟩; replace hO := hO.call hb; clear hb)
          | (go_at_call 44; refine (HZ.out _).mono ?_; rintro e ww ⟨rfl, hb⟩; replace hO := hO.call hb; clear hb))
        go_roundg (n - (k + 1))
        case measure => omega
        case rel => exact ⟨k + 1, M + sz, rfl, by omega, by go_num, by go_num, by rw [HTO.out], HOK1.out, hO.sub (by repeat first | exact List.Sublist.refl _ | apply List.Sublist.cons)⟩
      · rw [decide_eq_false h0] at hone
        have HON := Lib.hid hone
        have HNE := Lib.hid (HNO.out (hnot h0))
        clear hok1 hto1 hnot hone h0
        go_wp2_with (first
          | ((with_reducible refine gAlloc (T := 30) ?_); refine own_alloc hO _ _ itz ?_; clear hO; intro bx ww hO)
          | ((with_reducible refine gLoad (T := 30) ?_); first | refine ldX hO 0 rfl rfl (tA rfl) (tS rfl) ?_ | refine ld_tok (hO.rd HR.out) HT.out rfl (by omega) (tA rfl) (tS rfl) ?_)
          | ((with_reducible refine gStore ?_); first | (refine stX hO 0 rfl rfl rfl rfl rfl (tS rfl) ?_; clear hO; intro ww hO) | (refine stC hO 0 rfl rfl rfl (ltb rfl) rfl (tS rfl) ?_; clear hO; intro ww hO))
          | (go_at_call 43; refine (HON.out _).mono ?_; rintro e ww ⟨rfl, hb⟩; replace hO := hO.call hb; clear hb))
        go_ret
        exact ⟨by rw [HNE.out]; rfl, hO.below⟩
    · obtain rfl : k = n := by omega
      have HA : Hid (l.take k = l) := List.take_of_length_le (by rw [HL.out]; exact Nat.le_refl _)
      have HNE := Lib.hid (HOK.out (by have := HF.out; rwa [HA.out] at this))
      go_wp2
      go_ret
      exact ⟨by rw [HNE.out]; rfl, hO.below⟩

set_option maxHeartbeats 4000000 in
set_option maxRecDepth 100000 in
theorem rlong_calls (a : Option Addr) (n c : Nat) (l : List Tok) (w : World) (hR : Rd w 3 a n c (tks l)) (N E : Int) (hok : n ≤ 65536 → okFrom 0 l → N = told l ∧ E = 0) (hno : 65536 < n ∨ ¬ okFrom 0 l → N = 0 ∧ E = 1) :
    Calls Try.prog 56 #[.slice a n c] w fun e w' => e = .returned (.tuple #[.int .i64 N, .int .i64 E]) ∧ Below w.heap.size w w' := by
  have hO := Own.start w
  have hl : l.length = n := by have := hR.len; rw [tks_length] at this; omega
  have HR := Lib.hid hR
  clear hR
  by_cases hb : 65536 < n ∨ ¬ okFrom 0 l
  · obtain ⟨rfl, rfl⟩ := hno hb
    have HC := Lib.hid (fun w h => rcheck_calls a n c l w h 1 (fun h1 h2 => by rcases hb with hb | hb; omega; exact absurd h2 hb) (fun _ => rfl))
    generalize hW : w = wn at hO HR ⊢
    clear hW w hok hno hl hb
    go_enter Try.func56, Try.ntmps56
    go_wp2_with (first
      | (go_at_call 25; refine (HC.out _ (hO.rd HR.out)).mono ?_; rintro e ww ⟨rfl, hb⟩; replace hO := hO.call hb; clear hb))
    go_ret2
    exact ⟨rfl, hO.below⟩
  have hn : n ≤ 65536 := by omega
  have hF : okFrom 0 l := by
    by_cases h : okFrom 0 l
    · exact h
    · exact absurd (.inr h) hb
  obtain ⟨rfl, rfl⟩ := hok hn hF
  have HC := Lib.hid (fun w h => rcheck_calls a n c l w h 0 (fun _ _ => rfl) (fun h1 => absurd h1 hb))
  have HL := Lib.hid hl
  have HF := Lib.hid hF
  obtain ⟨N, hN⟩ : ∃ N, told l = N := ⟨_, rfl⟩
  have HN := Lib.hid hN
  rw [hN]
  generalize hW : w = wn at hO HR ⊢
  clear hW w hok hno hl hb hF hN
  go_enter Try.func56, Try.ntmps56
  go_wp2_with (first
    | (go_at_call 25; refine (HC.out _ (hO.rd HR.out)).mono ?_; rintro e ww ⟨rfl, hb⟩; replace hO := hO.call hb; clear hb))
  go_loopg [4, 12] n (fun m s4 s12 wr => ∃ (k : Nat) (M : Nat), m = n - k ∧ k ≤ n ∧ s12 = .int .i64 (k : Int) ∧ s4 = .int .i64 (M : Int) ∧ M = told (l.take k) ∧ Own wn wr [])
  case atStart => exact ⟨0, 0, rfl, by omega, rfl, rfl, rfl, hO.sub (List.nil_sublist _)⟩
  case round =>
    obtain ⟨k, M, rfl, hk, rfl, rfl, hM, hO1⟩ := hrel
    clear hO
    have hO := hO1
    have HM := Lib.hid hM
    clear hO1 hM
    by_cases c1 : k < n
    · have d2 : decide ((k : Int) < (n : Int)) = true := by simp; omega
      have hMb : M ≤ 18 * k := by rw [HM.out]; exact told_bound (okFrom_take k HF.out)
      have hkl : k < l.length := by rw [HL.out]; exact c1
      have ht := List.getElem?_eq_getElem (l := l) (i := k) hkl
      have hto1 := told_next hkl
      have h0 := ((okFrom_next hkl).1 (okFrom_take (k + 1) HF.out)).2
      rw [← HM.out] at hto1 h0
      obtain ⟨t, hte⟩ : ∃ t, l[k] = t := ⟨_, rfl⟩
      rw [hte] at ht hto1 h0
      have HT := Lib.hid ht
      clear ht hte hkl
      obtain ⟨b0, off, rfl⟩ := HR.out.place (by omega)
      have hz := Tok.ok_size h0
      have HZ := Lib.hid (fun w => rsize_calls t w (Tok.ok_len h0).1)
      obtain ⟨sz, hs⟩ : ∃ sz, t.size = sz := ⟨_, rfl⟩
      rw [hs] at HZ hz hto1
      have HTO := Lib.hid hto1
      have hw : wrap64 ((M : Int) + (sz : Int)) = ((M + sz : Nat) : Int) := by unfold wrap64; omega
      clear hto1 h0 hs
      go_wp2_with (first
        | ((with_reducible refine gAlloc (T := 30) ?_); refine own_alloc hO _ _ itz ?_; clear hO; intro bx ww hO)
        | ((with_reducible refine gLoad (T := 30) ?_); first | refine ldX hO 0 rfl rfl (tA rfl) (tS rfl) ?_ | refine ld_tok (hO.rd HR.out) HT.out rfl (by omega) (tA rfl) (tS rfl) ?_)
        | ((with_reducible refine gStore ?_); first | (refine stX hO 0 rfl rfl rfl rfl rfl (tS rfl) ?_; clear hO; intro ww hO) | (refine stC hO 0 rfl rfl rfl (ltb rfl) rfl (tS rfl) ?_; clear hO; intro ww hO))
        | (go_at_call 44; refine (HZ.out _).mono ?_; rintro e ww ⟨rfl, hb⟩; replace hO := hO.call hb; clear hb))
      go_roundg (n - (k + 1))
      case measure => omega
      case rel => exact ⟨k + 1, M + sz, rfl, by omega, by go_num, by go_num, by rw [HTO.out], hO.sub (by repeat first | exact List.Sublist.refl _ | apply List.Sublist.cons)⟩
    · obtain rfl : k = n := by omega
      have HA : Hid (l.take k = l) := List.take_of_length_le (by rw [HL.out]; exact Nat.le_refl _)
      have HNE : Hid (M = N) := by show _ = _; rw [HM.out, HA.out, HN.out]
      go_wp2
      go_ret2
      exact ⟨by rw [← HNE.out]; rfl, hO.below⟩
end Go.Proofs.Ytnkpjmcgecdkfaa
