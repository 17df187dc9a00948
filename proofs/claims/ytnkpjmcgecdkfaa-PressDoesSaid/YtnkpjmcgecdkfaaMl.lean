/- Walks: match.Long, Check. -/
import Derived.Test.YtnkpjmcgecdkfaaMs
namespace Go.Mt
theorem Tok.kinds (t : Tok) (M : Nat) : (t.ok M ∧ 3 ≤ t.len ∧ t.len ≤ 18 ∧ 0 < t.dist ∧ t.dist ≤ 256 ∧ t.dist ≤ (M : Int) ∧ t.lit = 0) ∨ (t.ok M ∧ t.len = 0 ∧ t.dist = 0 ∧ t = ⟨t.lit, 0, 0⟩) ∨
    (¬ t.ok M ∧ t ≠ ⟨t.lit, 0, 0⟩ ∧ (t.len < 3 ∨ (3 ≤ t.len ∧ 18 < t.len) ∨ (3 ≤ t.len ∧ t.len ≤ 18 ∧ t.dist ≤ 0) ∨ (3 ≤ t.len ∧ t.len ≤ 18 ∧ 0 < t.dist ∧ (256 < t.dist ∨ (M : Int) < t.dist)) ∨
      (3 ≤ t.len ∧ t.len ≤ 18 ∧ 0 < t.dist ∧ t.dist ≤ 256 ∧ t.dist ≤ (M : Int) ∧ t.lit ≠ 0))) := by
  by_cases h : t.ok M
  · rcases h with ⟨h1, h2⟩ | ⟨h1, h2, h3, h4, h5, h6⟩
    · exact .inr (.inl ⟨.inl ⟨h1, h2⟩, h1, h2, by cases t; simp_all⟩)
    · exact .inl ⟨.inr ⟨h1, h2, h3, h4, h5, h6⟩, h1, h2, by omega, h4, h5, h6⟩
  · refine .inr (.inr ⟨h, fun he => h (.inl ⟨by rw [he], by rw [he]⟩), ?_⟩)
    by_cases h1 : t.len < 3
    · exact .inl h1
    by_cases h2 : 18 < t.len
    · exact .inr (.inl ⟨by omega, h2⟩)
    by_cases h3 : t.dist ≤ 0
    · exact .inr (.inr (.inl ⟨by omega, by omega, h3⟩))
    by_cases h4 : 256 < t.dist ∨ (M : Int) < t.dist
    · exact .inr (.inr (.inr (.inl ⟨by omega, by omega, by omega, h4⟩)))
    · refine .inr (.inr (.inr (.inr ⟨by omega, by omega, by omega, by omega, by omega, fun h6 => h (.inr ⟨by omega, by omega, by omega, by omega, by omega, h6⟩)⟩)))
theorem lit_zero {c : BitVec 8} : ((c.toNat : Int) == 0) = decide (c = 0) := by
  rw [Bool.eq_iff_iff]
  simp only [beq_iff_eq, decide_eq_true_eq]
  constructor
  · intro h; exact BitVec.eq_of_toNat_eq (by simpa using h)
  · rintro rfl; rfl
theorem told_bound {l : List Tok} {k : Nat} (h : okFrom 0 (l.take k)) : told (l.take k) ≤ 18 * k := by
  have := (told_bounds 0 _ h).2
  rw [List.length_take] at this; omega
end Go.Mt
namespace Go.Proofs.Ytnkpjmcgecdkfaa
open Go.RowKit Go.Own Go.Bv Go.Ord Go.Eq Go.Mt

set_option maxHeartbeats 8000000 in
set_option maxRecDepth 100000 in
theorem long_calls (a : Option Addr) (n c : Nat) (l : List Tok) (w : World) (hR : Rd w 3 a n c (tks l)) (N E : Int) (hok : n ≤ 65536 → okFrom 0 l → N = told l ∧ E = 0) (hno : 65536 < n ∨ ¬ okFrom 0 l → N = 0 ∧ E = 1) :
    Calls Try.prog 22 #[.slice a n c] w fun e w' => e = .returned (.tuple #[.int .i64 N, .int .i64 E]) ∧ Below w.heap.size w w' := by
  have hO := Own.start w
  have hl : l.length = n := by have := hR.len; rw [tks_length] at this; omega
  have HR := Lib.hid hR
  clear hR
  by_cases hn : 65536 < n
  · have d1 : decide ((65536 : Int) < (n : Int)) = true := by simp; omega
    obtain ⟨rfl, rfl⟩ := hno (.inl hn)
    generalize hW : w = wn at hO ⊢
    clear hW w hok hno hl HR
    go_enter Try.func22, Try.ntmps22
    go_wp2
    go_ret2
    exact ⟨rfl, hO.below⟩
  have d1 : decide ((65536 : Int) < (n : Int)) = false := by simp; omega
  have HL := Lib.hid hl
  have HOK := Lib.hid (hok (by omega))
  have HNO : Hid (¬ okFrom 0 l → N = 0 ∧ E = 1) := fun h => hno (.inr h)
  generalize hW : w = wn at hO HR ⊢
  clear hW w hok hno hl
  go_enter Try.func22, Try.ntmps22
  go_wp2
  go_loopg [2, 12] n (fun m s2 s12 wr => ∃ (k : Nat) (M : Nat), m = n - k ∧ k ≤ n ∧ s12 = .int .i64 (k : Int) ∧ s2 = .int .i64 (M : Int) ∧ M = told (l.take k) ∧ okFrom 0 (l.take k) ∧ Own wn wr [])
  case atStart => exact ⟨0, 0, rfl, by omega, rfl, rfl, rfl, by simp [okFrom], hO⟩
  case round =>
    obtain ⟨k, M, rfl, hk, rfl, rfl, hM, hF, hO1⟩ := hrel
    clear hO
    have hO := hO1
    have HM := Lib.hid hM
    have HF := Lib.hid hF
    clear hO1 hM hF
    by_cases c1 : k < n
    · have d2 : decide ((k : Int) < (n : Int)) = true := by simp; omega
      have hMb : M ≤ 18 * k := by rw [HM.out]; exact told_bound HF.out
      have hkl : k < l.length := by rw [HL.out]; exact c1
      have ht := List.getElem?_eq_getElem (l := l) (i := k) hkl
      have hok1 := okFrom_next hkl
      have hto1 := told_next hkl
      have hnot : ¬ (l[k]).ok M → ¬ okFrom 0 l := fun h h0 => h (by
        have := okFrom_take (k + 1) h0
        rw [okFrom_next hkl, ← HM.out] at this
        exact this.2)
      rw [← HM.out] at hok1 hto1
      obtain ⟨t, hte⟩ : ∃ t, l[k] = t := ⟨_, rfl⟩
      rw [hte] at ht hok1 hto1 hnot
      have hsz := fun w h => size_calls t w h
      have HT := Lib.hid ht
      clear ht hte hkl
      obtain ⟨b0, off, rfl⟩ := HR.out.place (by omega)
      have hl2 := lit_zero (c := t.lit)
      have HMN : Hid ((if (M : Int) < 256 then (M : Int) else 256) = min 256 (M : Int)) := by show _ = _; split <;> omega
      rcases Tok.kinds t M with ⟨h0, h1, h2, h3, h4, h5, h6⟩ | ⟨h0, h1, h2, h3⟩ | ⟨h0, h1, hc⟩
      · have hz := Tok.ok_size h0
        have HOK1 := Lib.hid (hok1.2 ⟨HF.out, h0⟩)
        have HZ := Lib.hid (fun w => hsz w (by omega))
        obtain ⟨sz, hs⟩ : ∃ sz, t.size = sz := ⟨_, rfl⟩
        rw [hs] at HZ hz hto1
        have HTO := Lib.hid hto1
        have hw : wrap64 ((M : Int) + (sz : Int)) = ((M + sz : Nat) : Int) := by unfold wrap64; omega
        obtain ⟨lit, len, dist⟩ := t
        dsimp only at h1 h2 h3 h4 h5 h6 hl2
        subst h6
        have e1 : decide ((3 : Int) ≤ len) = true := by simp; omega
        have e2 : decide (len ≤ (18 : Int)) = true := by simp; omega
        have e3 : decide ((0 : Int) < dist) = true := by simp; omega
        have e4 : decide (dist ≤ min 256 (M : Int)) = true := by simp; omega
        clear hok1 hto1 hnot hsz h0 h1 h2 h3 h4 h5 hs
        go_wp2_with (first
          | ((with_reducible refine gAlloc (T := 30) ?_); refine own_alloc hO _ _ itz ?_; clear hO; intro bx ww hO)
          | ((with_reducible refine gG ?_); refine wpList_want rfl ?_)
          | ((with_reducible refine gMin ?_); refine minV _ HMN.out rfl rfl ?_)
          | ((with_reducible refine gLoad (T := 30) ?_); first | refine ldX hO 0 rfl rfl (tA rfl) (tS rfl) ?_ | refine ld_tok (hO.rd HR.out) HT.out rfl (by omega) (tA rfl) (tS rfl) ?_)
          | ((with_reducible refine gLoad ?_); first | refine ldX hO 0 rfl rfl (tA rfl) (tS rfl) ?_ | refine ldC hO 0 rfl rfl (tA rfl) rfl ?_)
          | ((with_reducible refine gStore ?_); first | (refine stX hO 0 rfl rfl rfl rfl rfl (tS rfl) ?_; clear hO; intro ww hO) | (refine stC hO 0 rfl rfl rfl (ltb rfl) rfl (tS rfl) ?_; clear hO; intro ww hO))
          | (go_at_call 35; refine (HZ.out _).mono ?_; rintro e ww ⟨rfl, hb⟩; replace hO := hO.call hb; clear hb))
        go_roundg (n - (k + 1))
        case measure => omega
        case rel => exact ⟨k + 1, M + sz, rfl, by omega, by go_num, by go_num, by rw [HTO.out], HOK1.out, hO.sub (by repeat first | exact List.Sublist.refl _ | apply List.Sublist.cons)⟩
      · have hz := Tok.ok_size h0
        have HOK1 := Lib.hid (hok1.2 ⟨HF.out, h0⟩)
        have HZ := Lib.hid (fun w => hsz w (by omega))
        obtain ⟨sz, hs⟩ : ∃ sz, t.size = sz := ⟨_, rfl⟩
        rw [hs] at HZ hz hto1
        have HTO := Lib.hid hto1
        have hw : wrap64 ((M : Int) + (sz : Int)) = ((M + sz : Nat) : Int) := by unfold wrap64; omega
        clear hok1 hto1 hnot hsz h0 hs h3
        obtain ⟨lit, len, dist⟩ := t
        dsimp only at h1 h2 hl2
        subst h1 h2
        have HN : Hid (∀ w, (binOp .neq 30 (.agg (Tok.C ⟨lit, 0, 0⟩)) (.agg (Tok.C ⟨lit, 0, 0⟩))).run Try.prog w = .ok (.bool false) w) := fun w => by rw [neTok, decide_eq_true rfl]; rfl
        go_wp2_with (first
          | ((with_reducible refine gAlloc (T := 30) ?_); refine own_alloc hO _ _ itz ?_; clear hO; intro bx ww hO)
          | ((with_reducible refine gG ?_); refine wpList_want rfl ?_)
          | ((with_reducible refine gMin ?_); refine minV _ HMN.out rfl rfl ?_)
          | ((with_reducible refine gLoad (T := 30) ?_); first | refine ldX hO 0 rfl rfl (tA rfl) (tS rfl) ?_ | refine ld_tok (hO.rd HR.out) HT.out rfl (by omega) (tA rfl) (tS rfl) ?_)
          | ((with_reducible refine gLoad ?_); first | refine ldX hO 0 rfl rfl (tA rfl) (tS rfl) ?_ | refine ldC hO 0 rfl rfl (tA rfl) rfl ?_)
          | ((with_reducible refine gStore ?_); first | (refine stX hO 0 rfl rfl rfl rfl rfl (tS rfl) ?_; clear hO; intro ww hO) | (refine stC hO 0 rfl rfl rfl (ltb rfl) rfl (tS rfl) ?_; clear hO; intro ww hO))
          | (go_at_call 35; refine (HZ.out _).mono ?_; rintro e ww ⟨rfl, hb⟩; replace hO := hO.call hb; clear hb)
          | ((with_reducible refine gBld (T := 30) ?_); refine own_bld (Tok.C ⟨lit, 0, 0⟩) (by kernel_rfl) ?_)
          | ((with_reducible refine gNeq (t := 30) ?_); refine neD t_egT rfl rfl ?_; (with_reducible refine ⟨_, HN.out, ?_⟩)))
        go_roundg (n - (k + 1))
        case measure => omega
        case rel => exact ⟨k + 1, M + sz, rfl, by omega, by go_num, by go_num, by rw [HTO.out], HOK1.out, hO.sub (by repeat first | exact List.Sublist.refl _ | apply List.Sublist.cons)⟩
      · obtain ⟨hN0, hE1⟩ := HNO.out (hnot h0)
        clear hok1 hto1 hnot hsz h0
        obtain ⟨lit, len, dist⟩ := t
        dsimp only at h1 hc hl2
        have HN : Hid (∀ w, (binOp .neq 30 (.agg (Tok.C ⟨lit, len, dist⟩)) (.agg (Tok.C ⟨lit, 0, 0⟩))).run Try.prog w = .ok (.bool true) w) := fun w => by rw [neTok, decide_eq_false h1]; rfl
        have HNE := Lib.hid (And.intro hN0 hE1)
        clear h1 hN0 hE1
        rcases hc with h1 | ⟨h1, h2⟩ | ⟨h1, h2, h3⟩ | ⟨h1, h2, h3, h4⟩ | ⟨h1, h2, h3, h4, h5, h6⟩
        · have e1 : decide ((3 : Int) ≤ len) = false := by simp; omega
          clear h1
          have HX := Lib.hid e1
          go_wp2_with (first
            | ((with_reducible refine gAlloc (T := 30) ?_); refine own_alloc hO _ _ itz ?_; clear hO; intro bx ww hO)
            | ((with_reducible refine gG ?_); refine wpList_want rfl ?_)
            | ((with_reducible refine gMin ?_); refine minV _ HMN.out rfl rfl ?_)
            | ((with_reducible refine gLoad (T := 30) ?_); first | refine ldX hO 0 rfl rfl (tA rfl) (tS rfl) ?_ | refine ld_tok (hO.rd HR.out) HT.out rfl (by omega) (tA rfl) (tS rfl) ?_)
            | ((with_reducible refine gLoad ?_); first | refine ldX hO 0 rfl rfl (tA rfl) (tS rfl) ?_ | refine ldC hO 0 rfl rfl (tA rfl) rfl ?_)
            | ((with_reducible refine gStore ?_); first | (refine stX hO 0 rfl rfl rfl rfl rfl (tS rfl) ?_; clear hO; intro ww hO) | (refine stC hO 0 rfl rfl rfl (ltb rfl) rfl (tS rfl) ?_; clear hO; intro ww hO))
            | ((with_reducible refine gBld (T := 30) ?_); refine own_bld (Tok.C ⟨lit, 0, 0⟩) (by kernel_rfl) ?_)
            | ((with_reducible refine gNeq (t := 30) ?_); refine neD t_egT rfl rfl ?_; (with_reducible refine ⟨_, HN.out, ?_⟩)))
          go_ret2
          exact ⟨by rw [HNE.out.1, HNE.out.2]; rfl, hO.below⟩
        · have e1 : decide ((3 : Int) ≤ len) = true := by simp; omega
          have e2 : decide (len ≤ (18 : Int)) = false := by simp; omega
          clear h1 h2
          go_wp2_with (first
            | ((with_reducible refine gAlloc (T := 30) ?_); refine own_alloc hO _ _ itz ?_; clear hO; intro bx ww hO)
            | ((with_reducible refine gG ?_); refine wpList_want rfl ?_)
            | ((with_reducible refine gMin ?_); refine minV _ HMN.out rfl rfl ?_)
            | ((with_reducible refine gLoad (T := 30) ?_); first | refine ldX hO 0 rfl rfl (tA rfl) (tS rfl) ?_ | refine ld_tok (hO.rd HR.out) HT.out rfl (by omega) (tA rfl) (tS rfl) ?_)
            | ((with_reducible refine gLoad ?_); first | refine ldX hO 0 rfl rfl (tA rfl) (tS rfl) ?_ | refine ldC hO 0 rfl rfl (tA rfl) rfl ?_)
            | ((with_reducible refine gStore ?_); first | (refine stX hO 0 rfl rfl rfl rfl rfl (tS rfl) ?_; clear hO; intro ww hO) | (refine stC hO 0 rfl rfl rfl (ltb rfl) rfl (tS rfl) ?_; clear hO; intro ww hO))
            | ((with_reducible refine gBld (T := 30) ?_); refine own_bld (Tok.C ⟨lit, 0, 0⟩) (by kernel_rfl) ?_)
            | ((with_reducible refine gNeq (t := 30) ?_); refine neD t_egT rfl rfl ?_; (with_reducible refine ⟨_, HN.out, ?_⟩)))
          go_ret2
          exact ⟨by rw [HNE.out.1, HNE.out.2]; rfl, hO.below⟩
        · have e1 : decide ((3 : Int) ≤ len) = true := by simp; omega
          have e2 : decide (len ≤ (18 : Int)) = true := by simp; omega
          have e3 : decide ((0 : Int) < dist) = false := by simp; omega
          clear h1 h2 h3
          go_wp2_with (first
            | ((with_reducible refine gAlloc (T := 30) ?_); refine own_alloc hO _ _ itz ?_; clear hO; intro bx ww hO)
            | ((with_reducible refine gG ?_); refine wpList_want rfl ?_)
            | ((with_reducible refine gMin ?_); refine minV _ HMN.out rfl rfl ?_)
            | ((with_reducible refine gLoad (T := 30) ?_); first | refine ldX hO 0 rfl rfl (tA rfl) (tS rfl) ?_ | refine ld_tok (hO.rd HR.out) HT.out rfl (by omega) (tA rfl) (tS rfl) ?_)
            | ((with_reducible refine gLoad ?_); first | refine ldX hO 0 rfl rfl (tA rfl) (tS rfl) ?_ | refine ldC hO 0 rfl rfl (tA rfl) rfl ?_)
            | ((with_reducible refine gStore ?_); first | (refine stX hO 0 rfl rfl rfl rfl rfl (tS rfl) ?_; clear hO; intro ww hO) | (refine stC hO 0 rfl rfl rfl (ltb rfl) rfl (tS rfl) ?_; clear hO; intro ww hO))
            | ((with_reducible refine gBld (T := 30) ?_); refine own_bld (Tok.C ⟨lit, 0, 0⟩) (by kernel_rfl) ?_)
            | ((with_reducible refine gNeq (t := 30) ?_); refine neD t_egT rfl rfl ?_; (with_reducible refine ⟨_, HN.out, ?_⟩)))
          go_ret2
          exact ⟨by rw [HNE.out.1, HNE.out.2]; rfl, hO.below⟩
        · have e1 : decide ((3 : Int) ≤ len) = true := by simp; omega
          have e2 : decide (len ≤ (18 : Int)) = true := by simp; omega
          have e3 : decide ((0 : Int) < dist) = true := by simp; omega
          have e4 : decide (dist ≤ min 256 (M : Int)) = false := by simp; omega
          clear h1 h2 h3 h4
          go_wp2_with (first
            | ((with_reducible refine gAlloc (T := 30) ?_); refine own_alloc hO _ _ itz ?_; clear hO; intro bx ww hO)
            | ((with_reducible refine gG ?_); refine wpList_want rfl ?_)
            | ((with_reducible refine gMin ?_); refine minV _ HMN.out rfl rfl ?_)
            | ((with_reducible refine gLoad (T := 30) ?_); first | refine ldX hO 0 rfl rfl (tA rfl) (tS rfl) ?_ | refine ld_tok (hO.rd HR.out) HT.out rfl (by omega) (tA rfl) (tS rfl) ?_)
            | ((with_reducible refine gLoad ?_); first | refine ldX hO 0 rfl rfl (tA rfl) (tS rfl) ?_ | refine ldC hO 0 rfl rfl (tA rfl) rfl ?_)
            | ((with_reducible refine gStore ?_); first | (refine stX hO 0 rfl rfl rfl rfl rfl (tS rfl) ?_; clear hO; intro ww hO) | (refine stC hO 0 rfl rfl rfl (ltb rfl) rfl (tS rfl) ?_; clear hO; intro ww hO))
            | ((with_reducible refine gBld (T := 30) ?_); refine own_bld (Tok.C ⟨lit, 0, 0⟩) (by kernel_rfl) ?_)
            | ((with_reducible refine gNeq (t := 30) ?_); refine neD t_egT rfl rfl ?_; (with_reducible refine ⟨_, HN.out, ?_⟩)))
          go_ret2
          exact ⟨by rw [HNE.out.1, HNE.out.2]; rfl, hO.below⟩
        · have e1 : decide ((3 : Int) ≤ len) = true := by simp; omega
          have e2 : decide (len ≤ (18 : Int)) = true := by simp; omega
          have e3 : decide ((0 : Int) < dist) = true := by simp; omega
          have e4 : decide (dist ≤ min 256 (M : Int)) = true := by simp; omega
          have e5 : ((lit.toNat : Int) == 0) = false := by rw [hl2]; exact decide_eq_false h6
          clear h1 h2 h3 h4 h5 h6 hl2
          go_wp2_with (first
            | ((with_reducible refine gAlloc (T := 30) ?_); refine own_alloc hO _ _ itz ?_; clear hO; intro bx ww hO)
            | ((with_reducible refine gG ?_); refine wpList_want rfl ?_)
            | ((with_reducible refine gMin ?_); refine minV _ HMN.out rfl rfl ?_)
            | ((with_reducible refine gLoad (T := 30) ?_); first | refine ldX hO 0 rfl rfl (tA rfl) (tS rfl) ?_ | refine ld_tok (hO.rd HR.out) HT.out rfl (by omega) (tA rfl) (tS rfl) ?_)
            | ((with_reducible refine gLoad ?_); first | refine ldX hO 0 rfl rfl (tA rfl) (tS rfl) ?_ | refine ldC hO 0 rfl rfl (tA rfl) rfl ?_)
            | ((with_reducible refine gStore ?_); first | (refine stX hO 0 rfl rfl rfl rfl rfl (tS rfl) ?_; clear hO; intro ww hO) | (refine stC hO 0 rfl rfl rfl (ltb rfl) rfl (tS rfl) ?_; clear hO; intro ww hO))
            | ((with_reducible refine gBld (T := 30) ?_); refine own_bld (Tok.C ⟨lit, 0, 0⟩) (by kernel_rfl) ?_)
            | ((with_reducible refine gNeq (t := 30) ?_); refine neD t_egT rfl rfl ?_; (with_reducible refine ⟨_, HN.out, ?_⟩)))
          go_ret2
          exact ⟨by rw [HNE.out.1, HNE.out.2]; rfl, hO.below⟩
    · obtain rfl : k = n := by omega
      have HA : Hid (l.take k = l) := List.take_of_length_le (by rw [HL.out]; exact Nat.le_refl _)
      have hNE := HOK.out (by have := HF.out; rwa [HA.out] at this)
      have HNE : Hid (N = (M : Int) ∧ E = 0) := ⟨by rw [hNE.1, HM.out, HA.out], hNE.2⟩
      clear hNE
      go_wp2
      go_ret2
      exact ⟨by rw [HNE.out.1, HNE.out.2]; rfl, hO.below⟩
end Go.Proofs.Ytnkpjmcgecdkfaa
