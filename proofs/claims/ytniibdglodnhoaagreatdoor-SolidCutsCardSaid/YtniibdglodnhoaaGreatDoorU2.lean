/- Of several texts of this claim, one behind the other: Ml Mx Km Kt Ke Qm Q Sf Qb Qa Cp2 Qc QS Qr Kw. -/
import Derived.Test.YtniibdglodnhoaaGreatDoorU1
import Derived.Test.YtniibdglodnhoaaGreatDoorB
import Derived.Test.YtniibdglodnhoaaGreatDoorI
import Derived.Test.YtniibdglodnhoaaGreatDoorA
import Derived.Test.YtniibdglodnhoaaGreatDoorRows
import Derived.Test.YtniibdglodnhoaaGreatDoorE
import Derived.WalkKit
import Derived.ProofKit
import Derived.OpenShut
import Derived.ChangeOld
import Derived.Deep.Slices
import Derived.Deep.Fields
import Derived.ChangeSame
import Derived.Lib.AppendZeros
import Derived.Lib.LazyBuf
import Derived.Laws.CopyRow
import Derived.Laws.Bits64b

/- Walks: match.Long, Check. -/
namespace Go.Mt
theorem Tok.kinds (t : Tok) (M : Nat) : (t.ok M ∧ 3 ≤ t.len ∧ t.len ≤ 18 ∧ 0 < t.dist ∧ t.dist ≤ 256 ∧ t.dist ≤ (M : Int) ∧ t.lit = 0) ∨ (t.ok M ∧ t.len = 0 ∧ t.dist = 0 ∧ t = ⟨t.lit, 0, 0⟩) ∨
    (¬ t.ok M ∧ t ≠ ⟨t.lit, 0, 0⟩ ∧ (t.len < 3 ∨ (3 ≤ t.len ∧ 18 < t.len) ∨ (3 ≤ t.len ∧ t.len ≤ 18 ∧ t.dist ≤ 0) ∨ (3 ≤ t.len ∧ t.len ≤ 18 ∧ 0 < t.dist ∧ (256 < t.dist ∨ (M : Int) < t.dist)) ∨
      (3 ≤ t.len ∧ t.len ≤ 18 ∧ 0 < t.dist ∧ t.dist ≤ 256 ∧ t.dist ≤ (M : Int) ∧ t.lit ≠ 0))) := by
  by_cases h : t.ok M
  · rcases h with ⟨h1, h2⟩ | ⟨h1, h2, h3, h4, h5, h6⟩
    · exact .inr (.inl ⟨.inl ⟨h1, h2⟩, h1, h2, by cases t; simp_all⟩)
    · exact .inl ⟨.inr ⟨h1, h2, h3, h4, h5, h6⟩, h1, h2, by omega, h4, h5, h6⟩
  · refine .inr (.inr ⟨h, fun he => h (.inl ⟨by rw [he], by rw [he]⟩), ?_⟩)
    by_cases h1 : t.len < 3
    · exact .inl h1
    by_cases h2 : 18 < t.len
    · exact .inr (.inl ⟨by omega, h2⟩)
    by_cases h3 : t.dist ≤ 0
    · exact .inr (.inr (.inl ⟨by omega, by omega, h3⟩))
    by_cases h4 : 256 < t.dist ∨ (M : Int) < t.dist
    · exact .inr (.inr (.inr (.inl ⟨by omega, by omega, by omega, h4⟩)))
    · refine .inr (.inr (.inr (.inr ⟨by omega, by omega, by omega, by omega, by omega, fun h6 => h (.inr ⟨by omega, by omega, by omega, by omega, by omega, h6⟩)⟩)))
theorem lit_zero {c : BitVec 8} : ((c.toNat : Int) == 0) = decide (c = 0) := by
  rw [Bool.eq_iff_iff]
  simp only [beq_iff_eq, decide_eq_true_eq]
  constructor
  · intro h; exact BitVec.eq_of_toNat_eq (by simpa using h)
  · rintro rfl; rfl
theorem told_bound {l : List Tok} {k : Nat} (h : okFrom 0 (l.take k)) : told (l.take k) ≤ 18 * k := by
  have := (told_bounds 0 _ h).2
  rw [List.length_take] at this; omega
end Go.Mt
namespace Go.Proofs.YtniibdglodnhoaaGreatDoor
open Go.RowKit Go.Own Go.Bv Go.Ord Go.Eq Go.Mt

set_option maxHeartbeats 8000000 in
set_option maxRecDepth 100000 in
theorem long_calls (a : Option Addr) (n c : Nat) (l : List Tok) (w : World) (hR : Rd w 3 a n c (tks l)) (N E : Int) (hok : n ≤ 65536 → okFrom 0 l → N = told l ∧ E = 0) (hno : 65536 < n ∨ ¬ okFrom 0 l → N = 0 ∧ E = 1) :
    Calls Tryz.prog 108 #[.slice a n c] w fun e w' => e = .returned (.tuple #[.int .i64 N, .int .i64 E]) ∧ Below w.heap.size w w' := by
  have hO := Own.start w
  have hl : l.length = n := by have := hR.len; rw [tks_length] at this; omega
  have HR := Lib.hid hR
  clear hR
  by_cases hn : 65536 < n
  · have d1 : decide ((65536 : Int) < (n : Int)) = true := by simp; omega
    obtain ⟨rfl, rfl⟩ := hno (.inl hn)
    generalize hW : w = wn at hO ⊢
    clear hW w hok hno hl HR
    go_enter Tryz.func108, Tryz.ntmps108
    go_wp2
    go_ret2
    exact ⟨rfl, hO.below⟩
  have d1 : decide ((65536 : Int) < (n : Int)) = false := by simp; omega
  have HL := Lib.hid hl
  have HOK := Lib.hid (hok (by omega))
  have HNO : Hid (¬ okFrom 0 l → N = 0 ∧ E = 1) := fun h => hno (.inr h)
  generalize hW : w = wn at hO HR ⊢
  clear hW w hok hno hl
  go_enter Tryz.func108, Tryz.ntmps108
  go_wp2
  go_loopg [2, 12] n (fun m s2 s12 wr => ∃ (k : Nat) (M : Nat), m = n - k ∧ k ≤ n ∧ s12 = .int .i64 (k : Int) ∧ s2 = .int .i64 (M : Int) ∧ M = told (l.take k) ∧ okFrom 0 (l.take k) ∧ Own wn wr [])
  case atStart => exact ⟨0, 0, rfl, by omega, rfl, rfl, rfl, by simp [okFrom], hO⟩
  case round =>
    obtain ⟨k, M, rfl, hk, rfl, rfl, hM, hF, hO1⟩ := hrel
    clear hO
    have hO := hO1
    have HM := Lib.hid hM
    have HF := Lib.hid hF
    clear hO1 hM hF
    by_cases c1 : k < n
    · have d2 : decide ((k : Int) < (n : Int)) = true := by simp; omega
      have hMb : M ≤ 18 * k := by rw [HM.out]; exact told_bound HF.out
      have hkl : k < l.length := by rw [HL.out]; exact c1
      have ht := List.getElem?_eq_getElem (l := l) (i := k) hkl
      have hok1 := okFrom_next hkl
      have hto1 := told_next hkl
      have hnot : ¬ (l[k]).ok M → ¬ okFrom 0 l := fun h h0 => h (by
        have := okFrom_take (k + 1) h0
        rw [okFrom_next hkl, ← HM.out] at this
        exact this.2)
      rw [← HM.out] at hok1 hto1
      obtain ⟨t, hte⟩ : ∃ t, l[k] = t := ⟨_, rfl⟩
      rw [hte] at ht hok1 hto1 hnot
      have hsz := fun w h => size_calls t w h
      have HT := Lib.hid ht
      clear ht hte hkl
      obtain ⟨b0, off, rfl⟩ := HR.out.place (by omega)
      have hl2 := lit_zero (c := t.lit)
      have HMN : Hid ((if (M : Int) < 256 then (M : Int) else 256) = min 256 (M : Int)) := by show _ = _; split <;> omega
      rcases Tok.kinds t M with ⟨h0, h1, h2, h3, h4, h5, h6⟩ | ⟨h0, h1, h2, h3⟩ | ⟨h0, h1, hc⟩
      · have hz := Tok.ok_size h0
        have HOK1 := Lib.hid (hok1.2 ⟨HF.out, h0⟩)
        have HZ := Lib.hid (fun w => hsz w (by omega))
        obtain ⟨sz, hs⟩ : ∃ sz, t.size = sz := ⟨_, rfl⟩
        rw [hs] at HZ hz hto1
        have HTO := Lib.hid hto1
        have hw : wrap64 ((M : Int) + (sz : Int)) = ((M + sz : Nat) : Int) := by unfold wrap64; omega
        obtain ⟨lit, len, dist⟩ := t
        dsimp only at h1 h2 h3 h4 h5 h6 hl2
        subst h6
        have e1 : decide ((3 : Int) ≤ len) = true := by simp; omega
        have e2 : decide (len ≤ (18 : Int)) = true := by simp; omega
        have e3 : decide ((0 : Int) < dist) = true := by simp; omega
        have e4 : decide (dist ≤ min 256 (M : Int)) = true := by simp; omega
        clear hok1 hto1 hnot hsz h0 h1 h2 h3 h4 h5 hs
        go_wp2_with (first
          | ((with_reducible refine gAlloc (T := 78) ?_); refine own_alloc hO _ _ itz ?_; clear hO; intro bx ww hO)
          | ((with_reducible refine gG ?_); refine wpList_want rfl ?_)
          | ((with_reducible refine gMin ?_); refine minV _ HMN.out rfl rfl ?_)
          | ((with_reducible refine gLoad (T := 78) ?_); first | refine ldX hO 0 rfl rfl (tA rfl) (tS rfl) ?_ | refine ld_tok (hO.rd HR.out) HT.out rfl (by omega) (tA rfl) (tS rfl) ?_)
          | ((with_reducible refine gLoad ?_); first | refine ldX hO 0 rfl rfl (tA rfl) (tS rfl) ?_ | refine ldC hO 0 rfl rfl (tA rfl) rfl ?_)
          | ((with_reducible refine gStore ?_); first | (refine stX hO 0 rfl rfl rfl rfl rfl (tS rfl) ?_; clear hO; intro ww hO) | (refine stC hO 0 rfl rfl rfl (ltb rfl) rfl (tS rfl) ?_; clear hO; intro ww hO))
          | (go_at_call 83; refine (HZ.out _).mono ?_; rintro e ww ⟨rfl, hb⟩; replace hO := hO.call hb; clear hb))
        go_roundg (n - (k + 1))
        case measure => omega
        case rel => exact ⟨k + 1, M + sz, rfl, by omega, by go_num, by go_num, by rw [HTO.out], HOK1.out, hO.sub (by repeat first | exact List.Sublist.refl _ | apply List.Sublist.cons)⟩
      · have hz := Tok.ok_size h0
        have HOK1 := Lib.hid (hok1.2 ⟨HF.out, h0⟩)
        have HZ := Lib.hid (fun w => hsz w (by omega))
        obtain ⟨sz, hs⟩ : ∃ sz, t.size = sz := ⟨_, rfl⟩
        rw [hs] at HZ hz hto1
        have HTO := Lib.hid hto1
        have hw : wrap64 ((M : Int) + (sz : Int)) = ((M + sz : Nat) : Int) := by unfold wrap64; omega
        clear hok1 hto1 hnot hsz h0 hs h3
        obtain ⟨lit, len, dist⟩ := t
        dsimp only at h1 h2 hl2
        subst h1 h2
        have HN : Hid (∀ w, (binOp .neq 78 (.agg (Tok.C ⟨lit, 0, 0⟩)) (.agg (Tok.C ⟨lit, 0, 0⟩))).run Tryz.prog w = .ok (.bool false) w) := fun w => by rw [neTok, decide_eq_true rfl]; rfl
        go_wp2_with (first
          | ((with_reducible refine gAlloc (T := 78) ?_); refine own_alloc hO _ _ itz ?_; clear hO; intro bx ww hO)
          | ((with_reducible refine gG ?_); refine wpList_want rfl ?_)
          | ((with_reducible refine gMin ?_); refine minV _ HMN.out rfl rfl ?_)
          | ((with_reducible refine gLoad (T := 78) ?_); first | refine ldX hO 0 rfl rfl (tA rfl) (tS rfl) ?_ | refine ld_tok (hO.rd HR.out) HT.out rfl (by omega) (tA rfl) (tS rfl) ?_)
          | ((with_reducible refine gLoad ?_); first | refine ldX hO 0 rfl rfl (tA rfl) (tS rfl) ?_ | refine ldC hO 0 rfl rfl (tA rfl) rfl ?_)
          | ((with_reducible refine gStore ?_); first | (refine stX hO 0 rfl rfl rfl rfl rfl (tS rfl) ?_; clear hO; intro ww hO) | (refine stC hO 0 rfl rfl rfl (ltb rfl) rfl (tS rfl) ?_; clear hO; intro ww hO))
          | (go_at_call 83; refine (HZ.out _).mono ?_; rintro e ww ⟨rfl, hb⟩; replace hO := hO.call hb; clear hb)
          | ((with_reducible refine gBld (T := 78) ?_); refine own_bld (Tok.C ⟨lit, 0, 0⟩) (by kernel_rfl) ?_)
          | ((with_reducible refine gNeq (t := 78) ?_); refine neD t_egT rfl rfl ?_; (with_reducible refine ⟨_, HN.out, ?_⟩)))
        go_roundg (n - (k + 1))
        case measure => omega
        case rel => exact ⟨k + 1, M + sz, rfl, by omega, by go_num, by go_num, by rw [HTO.out], HOK1.out, hO.sub (by repeat first | exact List.Sublist.refl _ | apply List.Sublist.cons)⟩
      · obtain ⟨hN0, hE1⟩ := HNO.out (hnot h0)
        clear hok1 hto1 hnot hsz h0
        obtain ⟨lit, len, dist⟩ := t
        dsimp only at h1 hc hl2
        have HN : Hid (∀ w, (binOp .neq 78 (.agg (Tok.C ⟨lit, len, dist⟩)) (.agg (Tok.C ⟨lit, 0, 0⟩))).run Tryz.prog w = .ok (.bool true) w) := fun w => by rw [neTok, decide_eq_false h1]; rfl
        have HNE := Lib.hid (And.intro hN0 hE1)
        clear h1 hN0 hE1
        rcases hc with h1 | ⟨h1, h2⟩ | ⟨h1, h2, h3⟩ | ⟨h1, h2, h3, h4⟩ | ⟨h1, h2, h3, h4, h5, h6⟩
        · have e1 : decide ((3 : Int) ≤ len) = false := by simp; omega
          clear h1
          have HX := Lib.hid e1
          go_wp2_with (first
            | ((with_reducible refine gAlloc (T := 78) ?_); refine own_alloc hO _ _ itz ?_; clear hO; intro bx ww hO)
            | ((with_reducible refine gG ?_); refine wpList_want rfl ?_)
            | ((with_reducible refine gMin ?_); refine minV _ HMN.out rfl rfl ?_)
            | ((with_reducible refine gLoad (T := 78) ?_); first | refine ldX hO 0 rfl rfl (tA rfl) (tS rfl) ?_ | refine ld_tok (hO.rd HR.out) HT.out rfl (by omega) (tA rfl) (tS rfl) ?_)
            | ((with_reducible refine gLoad ?_); first | refine ldX hO 0 rfl rfl (tA rfl) (tS rfl) ?_ | refine ldC hO 0 rfl rfl (tA rfl) rfl ?_)
            | ((with_reducible refine gStore ?_); first | (refine stX hO 0 rfl rfl rfl rfl rfl (tS rfl) ?_; clear hO; intro ww hO) | (refine stC hO 0 rfl rfl rfl (ltb rfl) rfl (tS rfl) ?_; clear hO; intro ww hO))
            | ((with_reducible refine gBld (T := 78) ?_); refine own_bld (Tok.C ⟨lit, 0, 0⟩) (by kernel_rfl) ?_)
            | ((with_reducible refine gNeq (t := 78) ?_); refine neD t_egT rfl rfl ?_; (with_reducible refine ⟨_, HN.out, ?_⟩)))
          go_ret2
          exact ⟨by rw [HNE.out.1, HNE.out.2]; rfl, hO.below⟩
        · have e1 : decide ((3 : Int) ≤ len) = true := by simp; omega
          have e2 : decide (len ≤ (18 : Int)) = false := by simp; omega
          clear h1 h2
          go_wp2_with (first
            | ((with_reducible refine gAlloc (T := 78) ?_); refine own_alloc hO _ _ itz ?_; clear hO; intro bx ww hO)
            | ((with_reducible refine gG ?_); refine wpList_want rfl ?_)
            | ((with_reducible refine gMin ?_); refine minV _ HMN.out rfl rfl ?_)
            | ((with_reducible refine gLoad (T := 78) ?_); first | refine ldX hO 0 rfl rfl (tA rfl) (tS rfl) ?_ | refine ld_tok (hO.rd HR.out) HT.out rfl (by omega) (tA rfl) (tS rfl) ?_)
            | ((with_reducible refine gLoad ?_); first | refine ldX hO 0 rfl rfl (tA rfl) (tS rfl) ?_ | refine ldC hO 0 rfl rfl (tA rfl) rfl ?_)
            | ((with_reducible refine gStore ?_); first | (refine stX hO 0 rfl rfl rfl rfl rfl (tS rfl) ?_; clear hO; intro ww hO) | (refine stC hO 0 rfl rfl rfl (ltb rfl) rfl (tS rfl) ?_; clear hO; intro ww hO))
            | ((with_reducible refine gBld (T := 78) ?_); refine own_bld (Tok.C ⟨lit, 0, 0⟩) (by kernel_rfl) ?_)
            | ((with_reducible refine gNeq (t := 78) ?_); refine neD t_egT rfl rfl ?_; (with_reducible refine ⟨_, HN.out, ?_⟩)))
          go_ret2
          exact ⟨by rw [HNE.out.1, HNE.out.2]; rfl, hO.below⟩
        · have e1 : decide ((3 : Int) ≤ len) = true := by simp; omega
          have e2 : decide (len ≤ (18 : Int)) = true := by simp; omega
          have e3 : decide ((0 : Int) < dist) = false := by simp; omega
          clear h1 h2 h3
          go_wp2_with (first
            | ((with_reducible refine gAlloc (T := 78) ?_); refine own_alloc hO _ _ itz ?_; clear hO; intro bx ww hO)
            | ((with_reducible refine gG ?_); refine wpList_want rfl ?_)
            | ((with_reducible refine gMin ?_); refine minV _ HMN.out rfl rfl ?_)
            | ((with_reducible refine gLoad (T := 78) ?_); first | refine ldX hO 0 rfl rfl (tA rfl) (tS rfl) ?_ | refine ld_tok (hO.rd HR.out) HT.out rfl (by omega) (tA rfl) (tS rfl) ?_)
            | ((with_reducible refine gLoad ?_); first | refine ldX hO 0 rfl rfl (tA rfl) (tS rfl) ?_ | refine ldC hO 0 rfl rfl (tA rfl) rfl ?_)
            | ((with_reducible refine gStore ?_); first | (refine stX hO 0 rfl rfl rfl rfl rfl (tS rfl) ?_; clear hO; intro ww hO) | (refine stC hO 0 rfl rfl rfl (ltb rfl) rfl (tS rfl) ?_; clear hO; intro ww hO))
            | ((with_reducible refine gBld (T := 78) ?_); refine own_bld (Tok.C ⟨lit, 0, 0⟩) (by kernel_rfl) ?_)
            | ((with_reducible refine gNeq (t := 78) ?_); refine neD t_egT rfl rfl ?_; (with_reducible refine ⟨_, HN.out, ?_⟩)))
          go_ret2
          exact ⟨by rw [HNE.out.1, HNE.out.2]; rfl, hO.below⟩
        · have e1 : decide ((3 : Int) ≤ len) = true := by simp; omega
          have e2 : decide (len ≤ (18 : Int)) = true := by simp; omega
          have e3 : decide ((0 : Int) < dist) = true := by simp; omega
          have e4 : decide (dist ≤ min 256 (M : Int)) = false := by simp; omega
          clear h1 h2 h3 h4
          go_wp2_with (first
            | ((with_reducible refine gAlloc (T := 78) ?_); refine own_alloc hO _ _ itz ?_; clear hO; intro bx ww hO)
            | ((with_reducible refine gG ?_); refine wpList_want rfl ?_)
            | ((with_reducible refine gMin ?_); refine minV _ HMN.out rfl rfl ?_)
            | ((with_reducible refine gLoad (T := 78) ?_); first | refine ldX hO 0 rfl rfl (tA rfl) (tS rfl) ?_ | refine ld_tok (hO.rd HR.out) HT.out rfl (by omega) (tA rfl) (tS rfl) ?_)
            | ((with_reducible refine gLoad ?_); first | refine ldX hO 0 rfl rfl (tA rfl) (tS rfl) ?_ | refine ldC hO 0 rfl rfl (tA rfl) rfl ?_)
            | ((with_reducible refine gStore ?_); first | (refine stX hO 0 rfl rfl rfl rfl rfl (tS rfl) ?_; clear hO; intro ww hO) | (refine stC hO 0 rfl rfl rfl (ltb rfl) rfl (tS rfl) ?_; clear hO; intro ww hO))
            | ((with_reducible refine gBld (T := 78) ?_); refine own_bld (Tok.C ⟨lit, 0, 0⟩) (by kernel_rfl) ?_)
            | ((with_reducible refine gNeq (t := 78) ?_); refine neD t_egT rfl rfl ?_; (with_reducible refine ⟨_, HN.out, ?_⟩)))
          go_ret2
          exact ⟨by rw [HNE.out.1, HNE.out.2]; rfl, hO.below⟩
        · have e1 : decide ((3 : Int) ≤ len) = true := by simp; omega
          have e2 : decide (len ≤ (18 : Int)) = true := by simp; omega
          have e3 : decide ((0 : Int) < dist) = true := by simp; omega
          have e4 : decide (dist ≤ min 256 (M : Int)) = true := by simp; omega
          have e5 : ((lit.toNat : Int) == 0) = false := by rw [hl2]; exact decide_eq_false h6
          clear h1 h2 h3 h4 h5 h6 hl2
          go_wp2_with (first
            | ((with_reducible refine gAlloc (T := 78) ?_); refine own_alloc hO _ _ itz ?_; clear hO; intro bx ww hO)
            | ((with_reducible refine gG ?_); refine wpList_want rfl ?_)
            | ((with_reducible refine gMin ?_); refine minV _ HMN.out rfl rfl ?_)
            | ((with_reducible refine gLoad (T := 78) ?_); first | refine ldX hO 0 rfl rfl (tA rfl) (tS rfl) ?_ | refine ld_tok (hO.rd HR.out) HT.out rfl (by omega) (tA rfl) (tS rfl) ?_)
            | ((with_reducible refine gLoad ?_); first | refine ldX hO 0 rfl rfl (tA rfl) (tS rfl) ?_ | refine ldC hO 0 rfl rfl (tA rfl) rfl ?_)
            | ((with_reducible refine gStore ?_); first | (refine stX hO 0 rfl rfl rfl rfl rfl (tS rfl) ?_; clear hO; intro ww hO) | (refine stC hO 0 rfl rfl rfl (ltb rfl) rfl (tS rfl) ?_; clear hO; intro ww hO))
            | ((with_reducible refine gBld (T := 78) ?_); refine own_bld (Tok.C ⟨lit, 0, 0⟩) (by kernel_rfl) ?_)
            | ((with_reducible refine gNeq (t := 78) ?_); refine neD t_egT rfl rfl ?_; (with_reducible refine ⟨_, HN.out, ?_⟩)))
          go_ret2
          exact ⟨by rw [HNE.out.1, HNE.out.2]; rfl, hO.below⟩
    · obtain rfl : k = n := by omega
      have HA : Hid (l.take k = l) := List.take_of_length_le (by rw [HL.out]; exact Nat.le_refl _)
      have hNE := HOK.out (by have := HF.out; rwa [HA.out] at this)
      have HNE : Hid (N = (M : Int) ∧ E = 0) := ⟨by rw [hNE.1, HM.out, HA.out], hNE.2⟩
      clear hNE
      go_wp2
      go_ret2
      exact ⟨by rw [HNE.out.1, HNE.out.2]; rfl, hO.below⟩
end Go.Proofs.YtniibdglodnhoaaGreatDoor

/- Walks: SameBytes, match.Check, Text. -/
namespace Go.Mt
theorem again_next (d j : Nat) (b : List (BitVec 8)) (M : Nat) (hb : b.length = M) (hd : 1 ≤ d) (hdM : d ≤ M) : ∃ x, (again d j b)[M - d + j]? = some x ∧ again d (j + 1) b = again d j b ++ [x] := by
  have hl := again_length d j b
  have h : M - d + j < (again d j b).length := by rw [hl, hb]; omega
  refine ⟨(again d j b)[M - d + j], List.getElem?_eq_getElem h, ?_⟩
  rw [again_succ, hl, hb, show M + j - d = M - d + j by omega, List.getD_eq_getElem?_getD, List.getElem?_eq_getElem h]
  rfl
end Go.Mt
namespace Go.Proofs.YtniibdglodnhoaaGreatDoor
open Go.RowKit Go.Own Go.Bv Go.Ord Go.Eq Go.Mt

set_option maxHeartbeats 1000000 in
theorem check_calls (a : Option Addr) (n c : Nat) (l : List Tok) (w : World) (hR : Rd w 3 a n c (tks l)) (E : Int) (hok : n ≤ 65536 → okFrom 0 l → E = 0) (hno : 65536 < n ∨ ¬ okFrom 0 l → E = 1) :
    Calls Tryz.prog 84 #[.slice a n c] w fun e w' => e = .returned (.int .i64 E) ∧ Below w.heap.size w w' := by
  have hO := Own.start w
  obtain ⟨N, hN⟩ : ∃ N : Int, (n ≤ 65536 → okFrom 0 l → N = told l ∧ E = 0) ∧ (65536 < n ∨ ¬ okFrom 0 l → N = 0 ∧ E = 1) := by
    by_cases h : n ≤ 65536 ∧ okFrom 0 l
    · exact ⟨told l, fun h1 h2 => ⟨rfl, hok h1 h2⟩, fun h1 => by rcases h1 with h1 | h1; omega; exact absurd h.2 h1⟩
    · exact ⟨0, fun h1 h2 => absurd ⟨h1, h2⟩ h, fun h1 => ⟨rfl, hno h1⟩⟩
  have HC := Lib.hid (fun w h => long_calls a n c l w h N E hN.1 hN.2)
  have HR := Lib.hid hR
  clear hN hok hno hR
  generalize hW : w = wn at hO HR ⊢
  clear hW w
  go_enter Tryz.func84, Tryz.ntmps84
  go_wp2_with (first
    | (go_at_call 108; refine (HC.out _ (hO.rd HR.out)).mono ?_; rintro e ww ⟨rfl, hb⟩; replace hO := hO.call hb; clear hb))
  go_ret
  exact ⟨rfl, hO.below⟩

end Go.Proofs.YtniibdglodnhoaaGreatDoor

/- A text of bits by chances: one number, one octet more whenever the span is small. No program in sight. -/
namespace Go.Kc

def mayB (p : Int) : Bool := decide (31 ≤ p) && decide (p ≤ 2017)
theorem mayB_iff (p : Int) : mayB p = true ↔ 31 ≤ p ∧ p ≤ 2017 := by simp [mayB]
def learnI (p : Int) (b : Bool) : Int := if b then p - p / 32 else p + (2048 - p) / 32
theorem may_learn {p : Int} (b : Bool) (h : mayB p = true) : mayB (learnI p b) = true := by
  rw [mayB_iff] at *
  unfold learnI
  cases b <;> simp <;> omega

/-! ### octets and numbers, the highest octet first -/
def val (l : List (BitVec 8)) : Nat := l.foldl (fun v c => 256 * v + c.toNat) 0
def be : Nat → Nat → List (BitVec 8)
  | 0, _ => []
  | n + 1, v => be n (v / 256) ++ [BitVec.ofNat 8 v]
theorem val_snoc (l : List (BitVec 8)) (c : BitVec 8) : val (l ++ [c]) = 256 * val l + c.toNat := by simp [val]
theorem be_length : ∀ (n v : Nat), (be n v).length = n
  | 0, _ => rfl
  | n + 1, v => by simp [be, be_length n]
theorem val_be : ∀ (n v : Nat), v < 256 ^ n → val (be n v) = v
  | 0, v, h => by
    have : v = 0 := by simpa using h
    subst this; rfl
  | n + 1, v, h => by
    have h1 : v / 256 < 256 ^ n := by rw [Nat.div_lt_iff_lt_mul (by decide), ← Nat.pow_succ]; exact h
    rw [be, val_snoc, val_be n _ h1, BitVec.toNat_ofNat]
    omega
theorem be_mod : ∀ (n v : Nat), be n (v % 256 ^ n) = be n v
  | 0, _ => rfl
  | n + 1, v => by
    show be n (v % 256 ^ (n + 1) / 256) ++ [BitVec.ofNat 8 (v % 256 ^ (n + 1))] = be n (v / 256) ++ [BitVec.ofNat 8 v]
    have h1 : v % 256 ^ (n + 1) / 256 = v / 256 % 256 ^ n := by rw [Nat.pow_succ, Nat.mul_comm, Nat.mod_mul_right_div_self]
    have h2 : v % 256 ^ (n + 1) % 256 = v % 256 := by rw [Nat.pow_succ, Nat.mul_comm]; exact Nat.mod_mul_right_mod _ _ _
    rw [h1, be_mod n]
    congr 2
    apply BitVec.eq_of_toNat_eq
    rw [BitVec.toNat_ofNat, BitVec.toNat_ofNat, show 2 ^ 8 = 256 from rfl, h2]
theorem be_val : ∀ (l : List (BitVec 8)), be l.length (val l) = l := by
  intro l
  induction h : l.length generalizing l with
  | zero => rw [List.length_eq_zero_iff] at h; subst h; rfl
  | succ n ih =>
    obtain ⟨m, c, rfl⟩ : ∃ m c, l = m ++ [c] := ⟨l.dropLast, l.getLast (by intro e; subst e; cases h), (List.dropLast_concat_getLast _).symm⟩
    have hm : m.length = n := by simpa using h
    rw [be, val_snoc]
    have e1 : (256 * val m + c.toNat) / 256 = val m := by have := c.isLt; omega
    have e2 : BitVec.ofNat 8 (256 * val m + c.toNat) = c := by
      apply BitVec.eq_of_toNat_eq
      rw [BitVec.toNat_ofNat]; have := c.isLt; omega
    rw [e1, e2, ih m hm]
theorem val_lt (l : List (BitVec 8)) : val l < 256 ^ l.length := by
  induction h : l.length generalizing l with
  | zero => rw [List.length_eq_zero_iff] at h; subst h; decide
  | succ n ih =>
    obtain ⟨m, c, rfl⟩ : ∃ m c, l = m ++ [c] := ⟨l.dropLast, l.getLast (by intro e; subst e; cases h), (List.dropLast_concat_getLast _).symm⟩
    have hm : m.length = n := by simpa using h
    have := ih m hm
    have hc := c.isLt
    rw [val_snoc, Nat.pow_succ]
    omega

/-! ### bits, one by one -/
structure Rc where
  p : List Int
  V : Nat
  span : Nat
  k : Nat
def Rc.part (s : Rc) (a : Nat) : Nat := s.span / 2048 * (s.p.getD a 0).toNat
/-- ahead of what makes the span great again -/
def Rc.mid (s : Rc) (a : Nat) (b : Bool) : Rc := ⟨s.p.set a (learnI (s.p.getD a 0) b), if b then s.V + s.part a else s.V, if b then s.span - s.part a else s.part a, s.k⟩
def Rc.norm (s : Rc) : Rc := if s.span < 16777216 then ⟨s.p, s.V * 256, s.span * 256, s.k + 1⟩ else s
def Rc.step (s : Rc) (a : Nat) (b : Bool) : Rc := (s.mid a b).norm
structure Rc.Good (s : Rc) : Prop where
  may : s.p.all mayB = true
  lo : 16777216 ≤ s.span
  hi : s.span < 4294967296
theorem all_get {p : List Int} {a : Nat} (h : p.all mayB = true) (ha : a < p.length) : mayB (p.getD a 0) = true := by
  rw [List.getD_eq_getElem?_getD, List.getElem?_eq_getElem ha]
  exact List.all_eq_true.1 h _ (List.getElem_mem ha)
theorem all_set {p : List Int} {a : Nat} {v : Int} (h : p.all mayB = true) (hv : mayB v = true) : (p.set a v).all mayB = true := by
  rw [List.all_eq_true] at *
  intro x hx
  rcases List.mem_or_eq_of_mem_set hx with hx | rfl
  · exact h x hx
  · exact hv
theorem part_bounds {s : Rc} (h : s.Good) {a : Nat} (ha : a < s.p.length) : 253952 ≤ s.part a ∧ s.part a + 253952 ≤ s.span ∧ s.span ≤ 128 * s.part a ∧ s.span ≤ 128 * (s.span - s.part a) := by
  obtain ⟨h1, h2⟩ := (mayB_iff _).1 (all_get h.may ha)
  unfold Rc.part
  generalize hp : (s.p.getD a 0).toNat = p
  have p1 : 31 ≤ p := by omega
  have p2 : p ≤ 2017 := by omega
  have hl := h.lo
  generalize s.span = x at *
  have hq : 8192 ≤ x / 2048 := by omega
  have hq2 : x / 2048 * 2048 ≤ x := by omega
  have hq3 : x < x / 2048 * 2048 + 2048 := by omega
  generalize x / 2048 = q at *
  have l1 : 8192 * 31 ≤ q * p := Nat.mul_le_mul hq p1
  have l2 : q * p ≤ q * 2017 := Nat.mul_le_mul_left _ p2
  have l3 : q * 31 ≤ q * p := Nat.mul_le_mul_left _ p1
  omega
theorem mid_span {s : Rc} (h : s.Good) {a : Nat} (b : Bool) (ha : a < s.p.length) : 253952 ≤ (s.mid a b).span ∧ (s.mid a b).span < 4294967296 ∧ s.span ≤ 128 * (s.mid a b).span := by
  obtain ⟨h1, h2, h3, h4⟩ := part_bounds h ha
  have := h.hi
  cases b <;> simp only [Rc.mid, if_true, Bool.false_eq_true, if_false] <;> omega
theorem mid_len (s : Rc) (a : Nat) (b : Bool) : (s.mid a b).p.length = s.p.length := by simp [Rc.mid]
theorem norm_p (s : Rc) : s.norm.p = s.p := by unfold Rc.norm; split <;> rfl
theorem step_len (s : Rc) (a : Nat) (b : Bool) : (s.step a b).p.length = s.p.length := by unfold Rc.step; rw [norm_p, mid_len]
theorem step_good {s : Rc} (h : s.Good) {a : Nat} (b : Bool) (ha : a < s.p.length) : (s.step a b).Good := by
  obtain ⟨h1, h2, h3⟩ := mid_span h b ha
  have hm : (s.mid a b).p.all mayB = true := all_set h.may (may_learn b (all_get h.may ha))
  unfold Rc.step Rc.norm
  split
  · exact ⟨hm, by dsimp only; omega, by dsimp only; omega⟩
  · exact ⟨hm, by omega, by omega⟩
/-- what is known of a state that comes later -/
structure Later (s t : Rc) : Prop where
  k : s.k ≤ t.k
  lo : s.V * 256 ^ (t.k - s.k) ≤ t.V
  hi : t.V + t.span ≤ (s.V + s.span) * 256 ^ (t.k - s.k)
theorem Later.refl (s : Rc) : Later s s := ⟨Nat.le_refl _, by simp, by simp⟩
theorem Later.trans {s t u : Rc} (h : Later s t) (g : Later t u) : Later s u := by
  have e : u.k - s.k = (t.k - s.k) + (u.k - t.k) := by have := h.k; have := g.k; omega
  refine ⟨Nat.le_trans h.k g.k, ?_, ?_⟩
  · rw [e, Nat.pow_add, ← Nat.mul_assoc]
    exact Nat.le_trans (Nat.mul_le_mul_right _ h.lo) g.lo
  · rw [e, Nat.pow_add, ← Nat.mul_assoc]
    exact Nat.le_trans g.hi (Nat.mul_le_mul_right _ h.hi)
theorem later_norm (s : Rc) : Later s s.norm := by
  unfold Rc.norm
  split
  · refine ⟨by dsimp only; omega, ?_, ?_⟩ <;> dsimp only <;> rw [show s.k + 1 - s.k = 1 by omega, Nat.pow_one] <;> omega
  · exact .refl s
theorem later_mid {s : Rc} (h : s.Good) {a : Nat} (b : Bool) (ha : a < s.p.length) : Later s (s.mid a b) := by
  obtain ⟨h1, h2, _⟩ := part_bounds h ha
  refine ⟨Nat.le_refl _, ?_, ?_⟩ <;> cases b <;> simp only [Rc.mid, if_true, Bool.false_eq_true, if_false, Nat.sub_self, Nat.pow_zero, Nat.mul_one] <;> omega
theorem later_step {s : Rc} (h : s.Good) {a : Nat} (b : Bool) (ha : a < s.p.length) : Later s (s.step a b) := (later_mid h b ha).trans (later_norm _)

def Rc.run (s : Rc) (l : List (Nat × Bool)) : Rc := l.foldl (fun s x => s.step x.1 x.2) s
theorem run_append (s : Rc) (l r : List (Nat × Bool)) : s.run (l ++ r) = (s.run l).run r := by simp [Rc.run]
def within (n : Nat) (l : List (Nat × Bool)) : Prop := ∀ x ∈ l, x.1 < n
theorem run_facts : ∀ {l : List (Nat × Bool)} {s : Rc}, s.Good → within s.p.length l → (s.run l).Good ∧ Later s (s.run l) ∧ (s.run l).p.length = s.p.length ∧ 256 ^ ((s.run l).k - s.k) * s.span ≤ 128 ^ l.length * (s.run l).span
  | [], s, h, _ => ⟨h, .refl s, rfl, by simp [Rc.run]⟩
  | x :: l, s, h, hw => by
    have hx : x.1 < s.p.length := hw x List.mem_cons_self
    have g := step_good h x.2 hx
    have hl := later_step h x.2 hx
    obtain ⟨i1, i2, i3, i4⟩ := run_facts (l := l) g (fun y hy => by rw [step_len]; exact hw y (List.mem_cons_of_mem _ hy))
    refine ⟨i1, hl.trans i2, i3.trans (step_len _ _ _), ?_⟩
    show 256 ^ (((s.step x.1 x.2).run l).k - s.k) * s.span ≤ 128 ^ (l.length + 1) * ((s.step x.1 x.2).run l).span
    have k1 := hl.k
    have k2 := i2.k
    rw [show ((s.step x.1 x.2).run l).k - s.k = (((s.step x.1 x.2).run l).k - (s.step x.1 x.2).k) + ((s.step x.1 x.2).k - s.k) by omega, Nat.pow_add, Nat.pow_succ]
    have hs : 256 ^ ((s.step x.1 x.2).k - s.k) * s.span ≤ 128 * (s.step x.1 x.2).span := by
      obtain ⟨_, _, m3⟩ := mid_span h x.2 hx
      unfold Rc.step Rc.norm
      split
      · dsimp only
        rw [show (s.mid x.1 x.2).k + 1 - s.k = 1 by show s.k + 1 - s.k = 1; omega, Nat.pow_one]
        omega
      · rw [show (s.mid x.1 x.2).k - s.k = 0 by show s.k - s.k = 0; omega, Nat.pow_zero, Nat.one_mul]
        exact m3
    generalize ((s.step x.1 x.2).run l).span = z at *
    generalize 256 ^ (((s.step x.1 x.2).run l).k - (s.step x.1 x.2).k) = A at *
    generalize 256 ^ ((s.step x.1 x.2).k - s.k) = B at *
    generalize (s.step x.1 x.2).span = y at *
    generalize 128 ^ l.length = C at *
    calc A * B * s.span = A * (B * s.span) := Nat.mul_assoc _ _ _
      _ ≤ A * (128 * y) := Nat.mul_le_mul_left _ hs
      _ = 128 * (A * y) := by rw [Nat.mul_left_comm]
      _ ≤ 128 * (C * z) := Nat.mul_le_mul_left _ i4
      _ = C * 128 * z := by rw [← Nat.mul_assoc, Nat.mul_comm 128 C]
def start (n : Nat) : Rc := ⟨List.replicate n 1024, 0, 4294967295, 0⟩
theorem start_good (n : Nat) : (start n).Good := ⟨by simp only [start]; rw [List.all_replicate]; simp [mayB], (by decide : 16777216 ≤ 4294967295), (by decide : 4294967295 < 4294967296)⟩
def enc (n : Nat) (l : List (Nat × Bool)) : Rc := (start n).run l
theorem start_len (n : Nat) : (start n).p.length = n := by simp [start]
theorem enc_facts {n : Nat} {l : List (Nat × Bool)} (h : within n l) : (enc n l).Good ∧ (enc n l).V < 256 ^ (4 + (enc n l).k) ∧ (enc n l).p.length = n ∧ 8 * (enc n l).k ≤ 7 * l.length := by
  obtain ⟨h1, h2, h3, h4⟩ := run_facts (l := l) (start_good n) (by rw [start_len]; exact h)
  refine ⟨h1, ?_, by rw [start_len] at h3; exact h3, ?_⟩
  · have hh := h2.hi
    have h0 : (start n).V + (start n).span = 4294967295 := by simp [start]
    have hk : (start n).k = 0 := rfl
    rw [h0, hk, Nat.sub_zero] at hh
    have hs := h1.lo
    show ((start n).run l).V < 256 ^ (4 + ((start n).run l).k)
    rw [Nat.pow_add]
    generalize 256 ^ ((start n).run l).k = A at *
    have : 4294967295 * A ≤ 256 ^ 4 * A := Nat.mul_le_mul_right _ (by decide)
    omega
  · have hk : (start n).k = 0 := rfl
    have h0 : (start n).span = 4294967295 := by simp only [start]
    have hz := h1.hi
    rw [hk, h0, Nat.sub_zero] at h4
    show 8 * ((start n).run l).k ≤ _
    generalize ((start n).run l).span = z at *
    generalize ((start n).run l).k = K at *
    have h5 : 256 ^ K * 4294967295 ≤ 128 ^ l.length * 4294967295 := Nat.le_trans h4 (Nat.mul_le_mul_left _ (by omega))
    have h6 : 256 ^ K ≤ 128 ^ l.length := Nat.le_of_mul_le_mul_right h5 (by decide)
    rw [show 256 = 2 ^ 8 from rfl, show 128 = 2 ^ 7 from rfl, ← Nat.pow_mul, ← Nat.pow_mul] at h6
    exact (Nat.pow_le_pow_iff_right (by decide)).1 h6
/-- the text -/
def encT (n : Nat) (l : List (Nat × Bool)) : List (BitVec 8) := be (5 + (enc n l).k) (enc n l).V
theorem encT_length (n : Nat) (l : List (Nat × Bool)) : (encT n l).length = 5 + (enc n l).k := be_length _ _
/-! ### read again -/
structure Rr where
  p : List Int
  code : Nat
  span : Nat
  used : Nat
def Rr.part (r : Rr) (a : Nat) : Nat := r.span / 2048 * (r.p.getD a 0).toNat
def Rr.set (r : Rr) (a : Nat) : Bool := decide (r.part a ≤ r.code)
def Rr.mid (r : Rr) (a : Nat) : Rr := ⟨r.p.set a (learnI (r.p.getD a 0) (r.set a)), if r.set a then r.code - r.part a else r.code, if r.set a then r.span - r.part a else r.part a, r.used⟩
/-- is there an octet, where one is wanted -/
def Rr.may (r : Rr) (b : List (BitVec 8)) (a : Nat) : Prop := (r.mid a).span < 16777216 → r.used < b.length
def Rr.norm (r : Rr) (b : List (BitVec 8)) : Rr := if r.span < 16777216 then ⟨r.p, r.code * 256 + (b.getD r.used 0).toNat, r.span * 256, r.used + 1⟩ else r
def Rr.next (r : Rr) (b : List (BitVec 8)) (a : Nat) : Rr := (r.mid a).norm b
def open_ (n : Nat) (b : List (BitVec 8)) : Rr := ⟨List.replicate n 1024, val ((b.drop 1).take 4), 4294967295, 5⟩
/-- may a text be begun to be read -/
def mayOpen (b : List (BitVec 8)) : Prop := 5 ≤ b.length ∧ b.getD 0 0 = 0 ∧ val ((b.drop 1).take 4) ≠ 4294967295
/-- the reader is where the writer was -/
structure Met (b : List (BitVec 8)) (s : Rc) (r : Rr) : Prop where
  p : r.p = s.p
  span : r.span = s.span
  used : r.used = 5 + s.k
  code : r.code + s.V = val (b.take (5 + s.k))
def rdN (b : List (BitVec 8)) (r : Rr) (l : List Nat) : Rr := l.foldl (fun r a => r.next b a) r
/-- a text that begins with what was written -/
structure Begins (n : Nat) (l : List (Nat × Bool)) (b : List (BitVec 8)) : Prop where
  len : 5 + (enc n l).k ≤ b.length
  pre : b.take (5 + (enc n l).k) = encT n l
end Go.Kc

/- Arithmetic of the writer of bits. -/
namespace Go.Kc
theorem ar1 (A K F low V : Nat) (hv : F + 1 = K) (h4 : (A + (K - 1)) * 4294967296 + low = V) (hl : low < 4278190080) : ((A + F) * 256 + (low / 16777216 % 256 + 1 - 1)) * 4294967296 + low % 16777216 * 256 = V * 256 := by
  have hq := Nat.div_add_mod low 16777216
  have hr := Nat.mod_lt low (show 16777216 > 0 by decide)
  generalize low / 16777216 = q at *
  generalize low % 16777216 = r at *
  have e : q % 256 = q := Nat.mod_eq_of_lt (by omega)
  rw [e]
  subst hq
  subst h4
  obtain rfl : K = F + 1 := by omega
  rw [Nat.add_sub_cancel, Nat.add_sub_cancel]
  generalize A + F = G
  omega
theorem ar2 (A K F low V z : Nat) (hv : F + 1 = K) (h4 : (A + (K - 1)) * 4294967296 + low = V) (hl : low < 4278190080) (hz : z ≤ 16777216) : V * 256 + z * 256 ≤ (A + F + 1) * 256 * 4294967296 := by omega
theorem ar3 (A K low V : Nat) (hK : 1 ≤ K) (h4 : (A + (K - 1)) * 4294967296 + low = V) (hl : 4294967296 ≤ low) (hl2 : low < 8589934592) : ((A + K) * 256 + (low / 16777216 % 256 + 1 - 1)) * 4294967296 + low % 16777216 * 256 = V * 256 := by
  have hq := Nat.div_add_mod low 16777216
  have hr := Nat.mod_lt low (show 16777216 > 0 by decide)
  generalize low / 16777216 = q at *
  generalize low % 16777216 = r at *
  have e : q % 256 = q - 256 := by omega
  rw [e]
  obtain ⟨s, rfl⟩ : ∃ s, q = s + 256 := ⟨q - 256, by omega⟩
  subst hq
  subst h4
  obtain ⟨F, rfl⟩ : ∃ F, K = F + 1 := ⟨K - 1, by omega⟩
  rw [Nat.add_sub_cancel, Nat.add_sub_cancel, Nat.add_sub_cancel, ← Nat.add_assoc]
  generalize A + F = G
  omega
theorem ar4 (A K low V z : Nat) (hK : 1 ≤ K) (h4 : (A + (K - 1)) * 4294967296 + low = V) (hl : 4294967296 ≤ low) (hz : low + z ≤ 8589934592) : V * 256 + z * 256 ≤ (A + K + 1) * 256 * 4294967296 := by omega
theorem ar5 (A K low V : Nat) (hK : 1 ≤ K) (h4 : (A + (K - 1)) * 4294967296 + low = V) (hl : 4278190080 ≤ low) (hl2 : low < 4294967296) : (256 * A + (256 * K - 1)) * 4294967296 + low % 16777216 * 256 = V * 256 := by
  have hq := Nat.div_add_mod low 16777216
  have hr := Nat.mod_lt low (show 16777216 > 0 by decide)
  generalize low / 16777216 = q at *
  generalize low % 16777216 = r at *
  obtain rfl : q = 255 := by omega
  subst hq
  subst h4
  obtain ⟨F, rfl⟩ : ∃ F, K = F + 1 := ⟨K - 1, by omega⟩
  rw [show 256 * (F + 1) - 1 = 256 * F + 255 by omega, Nat.add_sub_cancel]
  omega
theorem ar6 (A V z : Nat) (h5 : V + z ≤ A) : V * 256 + z * 256 ≤ 256 * A := by omega
theorem ar7 (A B low V z : Nat) (hB : 0 < B) (h4 : (A + (256 * B - 1)) * 4294967296 + low = V) (h5 : V + z ≤ (A + B * 256) * 4294967296) (hz : 0 < z) (hl : 4294967296 ≤ low) : False := by omega
end Go.Kc

/- The writer of bits: what it keeps back, and that it writes the number. No program in sight. -/
namespace Go.Kc

/-- the octets that are let go: the one that was kept, and the greatest ones behind it, each with the carry -/
def fl (kept carry : Nat) : Nat → List (BitVec 8)
  | 0 => []
  | j + 1 => fl kept carry j ++ [BitVec.ofNat 8 ((if j = 0 then kept else 255) + carry)]
theorem fl_length (kept carry : Nat) : ∀ j, (fl kept carry j).length = j
  | 0 => rfl
  | j + 1 => by simp [fl, fl_length kept carry j]
theorem val_append (l r : List (BitVec 8)) : val (l ++ r) = val l * 256 ^ r.length + val r := by
  induction h : r.length generalizing r with
  | zero => rw [List.length_eq_zero_iff] at h; subst h; simp [val]
  | succ n ih =>
    obtain ⟨m, c, rfl⟩ : ∃ m c, r = m ++ [c] := ⟨r.dropLast, r.getLast (by intro e; subst e; cases h), (List.dropLast_concat_getLast _).symm⟩
    have hm : m.length = n := by simpa using h
    rw [← List.append_assoc, val_snoc, val_snoc, ih m hm, Nat.pow_succ, Nat.mul_add]
    have : 256 * (val l * 256 ^ n) = val l * (256 ^ n * 256) := by rw [Nat.mul_left_comm, Nat.mul_comm 256 (256 ^ n)]
    omega
/-- their number, where no carry goes past the first -/
theorem val_fl (kept : Nat) (hk : kept < 256) : ∀ j, val (fl kept 0 (j + 1)) + 1 = (kept + 1) * 256 ^ j
  | 0 => by simp [fl, val, Nat.mod_eq_of_lt hk]
  | j + 1 => by
    have ih := val_fl kept hk j
    show val (fl kept 0 (j + 1) ++ [_]) + 1 = _
    have e : (kept + 1) * 256 ^ (j + 1) = (kept + 1) * 256 ^ j * 256 := by rw [Nat.pow_succ, Nat.mul_assoc]
    rw [val_snoc, if_neg (by omega), BitVec.toNat_ofNat, e]
    simp only [Nat.add_zero, Nat.reducePow, Nat.reduceMod]
    omega
theorem val_fl1 (kept : Nat) (hk : kept < 255) : ∀ j, val (fl kept 1 (j + 1)) = (kept + 1) * 256 ^ j
  | 0 => by simp [fl, val]; omega
  | j + 1 => by
    have ih := val_fl1 kept hk j
    show val (fl kept 1 (j + 1) ++ [_]) = _
    have e : (kept + 1) * 256 ^ (j + 1) = (kept + 1) * 256 ^ j * 256 := by rw [Nat.pow_succ, Nat.mul_assoc]
    rw [val_snoc, if_neg (by omega), BitVec.toNat_ofNat, e]
    simp only [Nat.reducePow, Nat.reduceMod, Nat.reduceAdd]
    omega

structure Ws where
  p : List Int
  low : Nat
  span : Nat
  kept : Nat
  many : Nat
  out : List (BitVec 8)
def Ws.move (s : Ws) : Ws :=
  if s.low < 4278190080 ∨ 4294967296 ≤ s.low then { s with out := s.out ++ fl s.kept (s.low / 4294967296) s.many, kept := s.low / 16777216 % 256, many := 1, low := s.low % 16777216 * 256 }
  else { s with many := s.many + 1, low := s.low % 16777216 * 256 }
def Ws.part (s : Ws) (a : Nat) : Nat := s.span / 2048 * (s.p.getD a 0).toNat
def Ws.mid (s : Ws) (a : Nat) (b : Bool) : Ws := { s with p := s.p.set a (learnI (s.p.getD a 0) b), low := if b then s.low + s.part a else s.low, span := if b then s.span - s.part a else s.part a }
def Ws.norm (s : Ws) : Ws := if s.span < 16777216 then { s.move with span := s.span * 256 } else s
def Ws.step (s : Ws) (a : Nat) (b : Bool) : Ws := (s.mid a b).norm
def Ws.run (s : Ws) (l : List (Nat × Bool)) : Ws := l.foldl (fun s x => s.step x.1 x.2) s
def Ws.start (n : Nat) : Ws := ⟨List.replicate n 1024, 0, 4294967295, 0, 1, []⟩

/-- the number that stands there: what is out, what is kept, the greatest ones behind it -/
def Ws.num (s : Ws) : Nat := val s.out * 256 ^ s.many + ((s.kept + 1) * 256 ^ (s.many - 1) - 1)
/-- what the writer holds is the number V, k octets of it more than the first; the span is z -/
structure Holds (s : Ws) (V k z : Nat) : Prop where
  many : 1 ≤ s.many
  kept : s.kept < 256
  len : s.out.length + s.many = k + 1
  num : s.num * 4294967296 + s.low = V
  top : V + z ≤ (val s.out + 1) * 256 ^ s.many * 4294967296
  low : s.low + z ≤ 8589934592
theorem pow_pos' (n : Nat) : 0 < 256 ^ n := Nat.pow_pos (by decide)
theorem move_holds {s : Ws} {V k z : Nat} (h : Holds s V k z) (hz : 0 < z) (hz2 : z ≤ 16777216) : Holds s.move (V * 256) (k + 1) (z * 256) := by
  obtain ⟨h1, h2, h3, h4, h5, h6⟩ := h
  obtain ⟨m, hm⟩ : ∃ m, s.many = m + 1 := ⟨s.many - 1, by omega⟩
  have hP := pow_pos' m
  unfold Ws.num at h4
  rw [hm, Nat.add_sub_cancel, Nat.pow_succ] at h4
  rw [hm, Nat.pow_succ] at h5
  rw [hm] at h3
  have hkp : 1 ≤ (s.kept + 1) * 256 ^ m := Nat.one_le_iff_ne_zero.2 (Nat.mul_ne_zero (by omega) (by omega))
  unfold Ws.move
  by_cases hc : s.low < 4278190080 ∨ 4294967296 ≤ s.low
  · rw [if_pos hc]
    by_cases hq : s.low < 4294967296
    · have hlow : s.low < 4278190080 := by omega
      have hcar : s.low / 4294967296 = 0 := by omega
      have hv := val_fl s.kept h2 m
      rw [hcar, hm]
      refine ⟨Nat.le_refl _, Nat.mod_lt _ (by decide), ?_, ?_, ?_, ?_⟩
      · show (s.out ++ fl s.kept 0 (m + 1)).length + 1 = k + 1 + 1
        rw [List.length_append, fl_length]; omega
      · show (val (s.out ++ fl s.kept 0 (m + 1)) * 256 ^ 1 + ((s.low / 16777216 % 256 + 1) * 256 ^ (1 - 1) - 1)) * 4294967296 + s.low % 16777216 * 256 = V * 256
        rw [val_append, fl_length, Nat.pow_one, Nat.sub_self, Nat.pow_zero, Nat.mul_one, Nat.pow_succ]
        exact ar1 _ _ _ _ _ hv h4 hlow
      · show V * 256 + z * 256 ≤ (val (s.out ++ fl s.kept 0 (m + 1)) + 1) * 256 ^ 1 * 4294967296
        rw [val_append, fl_length, Nat.pow_one, Nat.pow_succ]
        exact ar2 _ _ _ _ _ _ hv h4 hlow hz2
      · show s.low % 16777216 * 256 + z * 256 ≤ 8589934592
        clear h4 h5; omega
    · have hcar : s.low / 4294967296 = 1 := by omega
      have hk255 : s.kept < 255 := by
        rcases Nat.lt_or_ge s.kept 255 with h | h
        · exact h
        · exfalso
          have hk : s.kept = 255 := by omega
          have e255 : (s.kept + 1) * 256 ^ m = 256 * 256 ^ m := by rw [hk]
          rw [e255] at h4
          rw [Nat.add_mul, Nat.one_mul] at h5
          exact ar7 _ _ _ _ _ hP h4 h5 hz (by omega)
      have hv := val_fl1 s.kept hk255 m
      rw [hcar, hm]
      refine ⟨Nat.le_refl _, Nat.mod_lt _ (by decide), ?_, ?_, ?_, ?_⟩
      · show (s.out ++ fl s.kept 1 (m + 1)).length + 1 = k + 1 + 1
        rw [List.length_append, fl_length]; omega
      · show (val (s.out ++ fl s.kept 1 (m + 1)) * 256 ^ 1 + ((s.low / 16777216 % 256 + 1) * 256 ^ (1 - 1) - 1)) * 4294967296 + s.low % 16777216 * 256 = V * 256
        rw [val_append, fl_length, Nat.pow_one, Nat.sub_self, Nat.pow_zero, Nat.mul_one, Nat.pow_succ, hv]
        exact ar3 _ _ _ _ hkp h4 (by omega) (by omega)
      · show V * 256 + z * 256 ≤ (val (s.out ++ fl s.kept 1 (m + 1)) + 1) * 256 ^ 1 * 4294967296
        rw [val_append, fl_length, Nat.pow_one, Nat.pow_succ, hv]
        exact ar4 _ _ _ _ _ hkp h4 (by omega) h6
      · show s.low % 16777216 * 256 + z * 256 ≤ 8589934592
        clear h4 h5; omega
  · rw [if_neg hc]
    refine ⟨Nat.le_succ_of_le h1, h2, ?_, ?_, ?_, ?_⟩
    · show s.out.length + (s.many + 1) = k + 1 + 1
      omega
    · show (val s.out * 256 ^ (s.many + 1) + ((s.kept + 1) * 256 ^ (s.many + 1 - 1) - 1)) * 4294967296 + s.low % 16777216 * 256 = V * 256
      rw [Nat.add_sub_cancel, hm, Nat.pow_succ, Nat.pow_succ]
      have e1 : val s.out * (256 ^ m * 256 * 256) = 256 * (val s.out * (256 ^ m * 256)) := by rw [← Nat.mul_assoc, Nat.mul_comm]
      have e2 : (s.kept + 1) * (256 ^ m * 256) = 256 * ((s.kept + 1) * 256 ^ m) := by rw [← Nat.mul_assoc, Nat.mul_comm]
      rw [e1, e2]
      exact ar5 _ _ _ _ hkp h4 (by omega) (by omega)
    · show V * 256 + z * 256 ≤ (val s.out + 1) * 256 ^ (s.many + 1) * 4294967296
      rw [hm, Nat.pow_succ, Nat.pow_succ]
      have e1 : (val s.out + 1) * (256 ^ m * 256 * 256) * 4294967296 = 256 * ((val s.out + 1) * (256 ^ m * 256) * 4294967296) := by
        rw [← Nat.mul_assoc (val s.out + 1), Nat.mul_comm _ 256, Nat.mul_assoc 256]
      rw [e1]
      exact ar6 _ _ _ h5
    · show s.low % 16777216 * 256 + z * 256 ≤ 8589934592
      clear h4 h5; omega

/-- the writer writes what the number is -/
structure Sim (s : Ws) (r : Rc) : Prop where
  p : s.p = r.p
  span : s.span = r.span
  holds : Holds s r.V r.k r.span
set_option maxRecDepth 100000 in
theorem sim_start (n : Nat) : Sim (Ws.start n) (Kc.start n) :=
  ⟨rfl, rfl, ⟨Nat.le_refl _, by simp [Ws.start], rfl, by simp [Ws.start, Ws.num, Kc.start, val], by simp [Ws.start, Kc.start, val], by simp [Ws.start, Kc.start]⟩⟩
set_option maxRecDepth 100000 in
theorem sim_mid {s : Ws} {r : Rc} (h : Sim s r) (g : r.Good) {a : Nat} (b : Bool) (ha : a < r.p.length) : Sim (s.mid a b) (r.mid a b) := by
  obtain ⟨b1, b2, _⟩ := part_bounds g ha
  have hpart : s.part a = r.part a := by unfold Ws.part Rc.part; rw [h.p, h.span]
  obtain ⟨h1, h2, h3, h4, h5, h6⟩ := h.holds
  refine ⟨by unfold Ws.mid Rc.mid; rw [h.p], by unfold Ws.mid Rc.mid; rw [hpart, h.span], ?_⟩
  unfold Ws.mid Rc.mid
  rw [hpart]
  refine ⟨h1, h2, h3, ?_, ?_, ?_⟩
  · cases b
    · exact h4
    · show s.num * 4294967296 + (s.low + r.part a) = r.V + r.part a
      omega
  · cases b
    · show r.V + r.part a ≤ (val s.out + 1) * 256 ^ s.many * 4294967296
      omega
    · show r.V + r.part a + (r.span - r.part a) ≤ (val s.out + 1) * 256 ^ s.many * 4294967296
      omega
  · cases b
    · show s.low + r.part a ≤ _
      omega
    · show s.low + r.part a + (r.span - r.part a) ≤ _
      omega
theorem sim_norm {s : Ws} {r : Rc} (h : Sim s r) (hz : 0 < r.span) : Sim s.norm r.norm := by
  unfold Ws.norm Rc.norm
  rw [h.span]
  split
  · have hm := move_holds h.holds hz (by omega)
    refine ⟨?_, rfl, ?_⟩
    · show s.move.p = r.p
      unfold Ws.move
      split
      · exact h.p
      · exact h.p
    · exact ⟨hm.many, hm.kept, hm.len, hm.num, hm.top, hm.low⟩
  · exact h
theorem sim_step {s : Ws} {r : Rc} (h : Sim s r) (g : r.Good) {a : Nat} (b : Bool) (ha : a < r.p.length) : Sim (s.step a b) (r.step a b) := by
  obtain ⟨m1, _, _⟩ := mid_span g b ha
  exact sim_norm (sim_mid h g b ha) (by omega)
theorem sim_run : ∀ {l : List (Nat × Bool)} {s : Ws} {r : Rc}, Sim s r → r.Good → within r.p.length l → Sim (s.run l) (r.run l)
  | [], _, _, h, _, _ => h
  | x :: l, s, r, h, g, hw => by
    have hx : x.1 < r.p.length := hw x List.mem_cons_self
    exact sim_run (l := l) (sim_step h g x.2 hx) (step_good g x.2 hx) (fun y hy => by rw [step_len]; exact hw y (List.mem_cons_of_mem _ hy))
def Ws.moves : Nat → Ws → Ws
  | 0, s => s
  | j + 1, s => (Ws.moves j s).move
set_option maxRecDepth 100000 in
theorem moves_low (s : Ws) : ∀ j, j ≤ 4 → (Ws.moves j s).low % 256 ^ j = 0 ∨ j = 0
  | 0, _ => .inr rfl
  | j + 1, h => by
    left
    have ih := moves_low s j (by omega)
    have hl : (Ws.moves (j + 1) s).low = (Ws.moves j s).low % 16777216 * 256 := by
      show (Ws.moves j s).move.low = _
      unfold Ws.move
      split <;> rfl
    rw [hl, Nat.pow_succ]
    generalize (Ws.moves j s).low = x at *
    obtain rfl | rfl | rfl | rfl : j = 0 ∨ j = 1 ∨ j = 2 ∨ j = 3 := by omega
    · omega
    · simp at ih ⊢; omega
    · simp at ih ⊢; omega
    · simp at ih ⊢; omega
set_option maxRecDepth 100000 in
theorem moves_holds {s : Ws} {V k : Nat} (h : Holds s V k 1) : ∀ j, Holds (Ws.moves j s) (V * 256 ^ j) (k + j) 1
  | 0 => by rw [Nat.pow_zero, Nat.mul_one]; exact h
  | j + 1 => by
    have ih := moves_holds h j
    have hm := move_holds ih (by decide) (by decide)
    refine ⟨hm.many, hm.kept, hm.len, ?_, ?_, ?_⟩
    · show (Ws.moves j s).move.num * 4294967296 + (Ws.moves j s).move.low = V * 256 ^ (j + 1)
      rw [hm.num, Nat.pow_succ, Nat.mul_assoc]
    · have := hm.top
      have e : V * 256 ^ (j + 1) = V * 256 ^ j * 256 := by rw [Nat.pow_succ, Nat.mul_assoc]
      rw [e]
      exact Nat.le_trans (by omega) this
    · have := hm.low
      show (Ws.moves j s).move.low + 1 ≤ _
      omega
set_option maxRecDepth 100000 in
/-- behind five moves the text is out -/
theorem moves_out {s : Ws} {V k : Nat} (h : Holds s V k 1) : (Ws.moves 5 s).out.length = 5 + k ∧ val (Ws.moves 5 s).out = V := by
  have h4 := moves_holds h 4
  have hl := (moves_low s 4 (by decide)).resolve_right (by decide)
  obtain ⟨g1, g2, g3, g4, g5, g6⟩ := h4
  generalize hs : Ws.moves 4 s = t at *
  have hlow : t.low = 0 := by
    have h3 := moves_holds h 3
    have e : t.low = (Ws.moves 3 s).low % 16777216 * 256 := by
      rw [← hs]
      show (Ws.moves 3 s).move.low = _
      unfold Ws.move
      split <;> rfl
    have hb : t.low < 4294967296 := by omega
    simp at hl
    omega
  have e5 : (Ws.moves 5 s).out = t.out ++ fl t.kept 0 t.many := by
    show (Ws.moves 4 s).move.out = _
    rw [hs]
    unfold Ws.move
    rw [if_pos (.inl (by rw [hlow]; decide)), hlow]
  obtain ⟨m, hm⟩ : ∃ m, t.many = m + 1 := ⟨t.many - 1, by omega⟩
  have hv := val_fl t.kept g2 m
  unfold Ws.num at g4
  rw [hm] at g3 g4
  rw [Nat.add_sub_cancel] at g4
  rw [e5, hm, List.length_append, fl_length, val_append, fl_length]
  refine ⟨by omega, ?_⟩
  rw [hlow] at g4
  simp only [Nat.reducePow] at g4
  generalize val t.out * 256 ^ (m + 1) = A at *
  generalize val (fl t.kept 0 (m + 1)) = F at *
  generalize (t.kept + 1) * 256 ^ m = K at *
  omega
set_option maxRecDepth 100000 in
/-- the writer writes the text -/
theorem writes {n : Nat} {l : List (Nat × Bool)} (hw : within n l) : (Ws.moves 5 ((Ws.start n).run l)).out = encT n l := by
  have hw' : within (start n).p.length l := by rw [start_len]; exact hw
  have hsim := sim_run (sim_start n) (start_good n) hw'
  obtain ⟨f1, f2, f3, _⟩ := run_facts (start_good n) hw'
  obtain ⟨h1, h2, h3, h4, h5, h6⟩ := hsim.holds
  have hlo := f1.lo
  have hh : Holds ((Ws.start n).run l) (enc n l).V (enc n l).k 1 := by
    refine ⟨h1, h2, h3, h4, ?_, ?_⟩
    · exact Nat.le_trans (Nat.add_le_add_left (by omega) _) h5
    · omega
  obtain ⟨o1, o2⟩ := moves_out hh
  unfold encT
  rw [← o1, ← o2]
  exact (be_val _).symm
end Go.Kc

/- Chances: what they learn. No program in sight. -/
namespace Go.Proofs.YtniibdglodnhoaaGreatDoor
open Go.RowKit Go.Own Go.Bv Go.Eq Go.Opn

def mayB (p : Int) : Bool := decide (31 ≤ p) && decide (p ≤ 2017)
theorem mayB_iff (p : Int) : mayB p = true ↔ 31 ≤ p ∧ p ≤ 2017 := by simp [mayB]
def learnI (p : Int) (b : Bool) : Int := if b then p - p / 32 else p + (2048 - p) / 32
theorem may_learn {p : Int} (b : Bool) (h : mayB p = true) : mayB (learnI p b) = true := by
  rw [mayB_iff] at *
  unfold learnI
  cases b <;> simp <;> omega
def steps (p : Int) (bs : List Bool) : Int := bs.foldl learnI p
end Go.Proofs.YtniibdglodnhoaaGreatDoor

/- Walks: prob.may, learn, Learn, Check, the law's live. -/
namespace Go.Proofs.YtniibdglodnhoaaGreatDoor
open Go.RowKit Go.Own Go.Bv Go.Ord Go.Eq Go.Opn

theorem ei64 : Elem Tryz.prog 71 3 (.int .i64 0) 1 8 := ⟨Tryz.underlying71, by kernel_rfl, rfl, by decide⟩

set_option maxHeartbeats 400000 in
theorem may_calls (p : Int) (w : World) :
    Calls Tryz.prog 120 #[.int .i64 p] w fun e w' => e = .returned (.bool (mayB p)) ∧ w = w' := by
  by_cases h1 : 31 ≤ p
  · have e : mayB p = decide (p ≤ 2017) := by simp [mayB, h1]
    rw [e]
    go_enter Tryz.func120, Tryz.ntmps120
    go_wp2
    go_ret
    exact ⟨rfl, rfl⟩
  · have e : mayB p = false := by simp [mayB, h1]
    rw [e]
    go_enter Tryz.func120, Tryz.ntmps120
    go_wp2
    go_ret
    exact ⟨rfl, rfl⟩


set_option maxHeartbeats 400000 in
theorem learn_calls (p : Int) (b : Bool) (w : World) (h : mayB p = true) :
    Calls Tryz.prog 121 #[.int .i64 p, .bool b] w fun e w' => e = .returned (.int .i64 (learnI p b)) ∧ w = w' := by
  rw [mayB_iff] at h
  obtain ⟨h1, h2⟩ := h
  cases b
  all_goals
    go_enter Tryz.func121, Tryz.ntmps121
    go_wp2
    go_ret
    exact ⟨rfl, rfl⟩

set_option maxHeartbeats 400000 in
theorem Learn_calls (p : Int) (b : Bool) (w : World) :
    Calls Tryz.prog 112 #[.int .i64 p, .bool b] w fun e w' => e = .returned (.tuple #[.int .i64 (if mayB p then learnI p b else 0), .int .i64 (if mayB p then 0 else 1)]) ∧ w = w' := by
  cases h : mayB p
  all_goals
    have HM := Lib.hid h
    clear h
    go_enter Tryz.func112, Tryz.ntmps112
    go_wp2_with (first
      | (go_at_call 120; refine (may_calls _ _).mono ?_; rw [HM.out]; rintro e w1 ⟨rfl, rfl⟩)
      | (go_at_call 121; refine (learn_calls _ _ _ HM.out).mono ?_; rintro e w1 ⟨rfl, rfl⟩))
    go_ret2
    exact ⟨rfl, rfl⟩

end Go.Proofs.YtniibdglodnhoaaGreatDoor

/- Slices of structs of one-cell fields, opened. -/
namespace Go.Opn
open Go.ChangeShapes Go.WideShapes Go.ChangeAt Go.RowKit Go.Own Go.Deep

section
variable {H : Type} {enc : TypeId × Value → H} {P : Program} {w : World} {base : Nat} {spare : Nat → Bool} {held : Bool}
theorem open_slice_fields {t e : TypeId} {fs : Array Field} {fuel : Nat} {cs : List Value} {x : DataW H × List MemPlace} (ht : P.underlying t = some (.slice e)) (he : P.underlying e = some (.struct fs))
    (hone : oneCellFields P fs = true) (hC : P.cellsOf e = fs.size) (h : DataW.trod enc P w base spare held fuel t cs = some x) :
    (cs = [.slice none 0 0] ∧ x = (.nil, [])) ∨
    ∃ (a : Addr) (len cap m : Nat) (D : Nat → DataW H) (Pl : Nat → List MemPlace), cs = [.slice (some a) len cap] ∧ base ≤ a.block ∧ len ≤ cap ∧ cap ≤ maxLen ∧ m = (if spare a.block then cap else len) ∧
      x = (.slice ((List.range len).map D) ((List.range (m - len)).map fun j => D (len + j)), MemPlace.row a (m * fs.size) ++ (List.range m).flatMap Pl) ∧
      ∀ i, i < m → ∃ (ys : List (DataW H × List MemPlace)) (n : Nat), D i = .agg (ys.map (·.1)) ∧ Pl i = ys.flatMap (·.2) ∧ ys.length = fs.size ∧
        ∀ (j : Nat) (f : Field), fs[j]? = some f → ∃ (v : Value) (y : DataW H × List MemPlace), w.cell? (a.add (i * fs.size + j)) = some v ∧ ys[j]? = some y ∧ DataW.trod enc P w base spare held n f.type [v] = some y := by
  rcases open_slice ht h with h0 | ⟨a, len, cap, m, n, D, Pl, hcs, hb, hl, hm, hmm, hx, hi⟩
  · exact .inl h0
  · refine .inr ⟨a, len, cap, m, D, Pl, hcs, hb, hl, hm, hmm, by rw [hC] at hx; exact hx, fun i him => ?_⟩
    obtain ⟨cs', hc, ht'⟩ := hi i him
    rw [hC] at hc
    obtain ⟨ys, n', hn', hy, hlen, hyl, hf⟩ := DataW.trod_struct he ht'
    obtain ⟨_, hcl, hat⟩ := World.cells?_some hc
    simp only [Prod.mk.injEq] at hy
    refine ⟨ys, n', hy.1, hy.2, hyl, fun j f hj => ?_⟩
    obtain ⟨ho, hk⟩ := hone_of hone j f hj
    have hjl : j < fs.size := (Array.getElem?_eq_some_iff.1 hj).1
    have hcell := hat j hjl
    have hv : cs'[j]? = some (cs'[j]'(by omega)) := List.getElem?_eq_getElem (by omega)
    have h1 := hf j f hj
    rw [ho, hk] at h1
    have hone' : (cs'.drop j).take 1 = [cs'[j]'(by omega)] := by
      rw [List.drop_eq_getElem_cons (by omega)]
      rfl
    rw [hone'] at h1
    have hys : ys[j]? = some (ys[j]'(by omega)) := List.getElem?_eq_getElem (by omega)
    refine ⟨_, _, ?_, hys, h1.trans hys⟩
    rw [← Go.Deep.add_add, hcell, hv]
end

end Go.Opn

/- Bits and where their chances are: in memory, opened; what many chances learn of many bits. -/
namespace Go.Pb
open Go.RowKit

structure Bt where
  at_ : Int
  b : Bool
def Bt.C (x : Bt) : Array Value := #[.int .i64 x.at_, .bool x.b]
def bts : List Bt → List Value
  | [] => []
  | x :: r => .int .i64 x.at_ :: .bool x.b :: bts r
theorem bts_cons (x : Bt) (r : List Bt) : bts (x :: r) = x.C.toList ++ bts r := rfl
theorem bts_length : ∀ l : List Bt, (bts l).length = l.length * 2
  | [] => rfl
  | x :: r => by simp only [bts, List.length_cons, bts_length r]; omega
theorem bts_append : ∀ l r : List Bt, bts (l ++ r) = bts l ++ bts r
  | [], r => rfl
  | x :: l, r => by simp only [bts, List.cons_append, bts_append l r]
theorem bts_get : ∀ (l : List Bt) (k : Nat) (h : k < l.length) (j : Nat) (v : Value), l[k].C.toList[j]? = some v → (bts l)[k * 2 + j]? = some v
  | x :: r, 0, _, j, v, hv => by
    have hj : j < 2 := (List.getElem?_eq_some_iff.1 hv).1
    rw [bts_cons, Nat.zero_mul, Nat.zero_add, List.getElem?_append_left (by exact hj)]
    exact hv
  | x :: r, k + 1, h, j, v, hv => by
    rw [bts_cons, List.getElem?_append_right (by show 2 ≤ _; omega)]
    have := bts_get r k (by simpa using h) j v (by simpa using hv)
    rw [← this]
    congr 1
    show (k + 1) * 2 + j - 2 = _
    omega
theorem bts_one (l : List Bt) : ∀ u ∈ bts l, u.oneCell' = true := by
  induction l with
  | nil => simp [bts]
  | cons t r ih =>
    intro u hu
    simp only [bts, List.mem_cons] at hu
    rcases hu with rfl | rfl | hu
    · rfl
    · rfl
    · exact ih u hu
def zB : Bt := ⟨0, false⟩
instance : Inhabited Bt := ⟨zB⟩
end Go.Pb
namespace Go.Own
open Go.RowKit Go.Ord Go.Pb
section
variable {P : Program} {ops : Array Oper} {Q : Exit → Act → World → Prop} {a : Act} {w : World} {rest : List Oper}
variable {d : Option Tmp} {ty : TypeId} {pos : String} {aft : Array Edge}
/-- a bit out of a row of them -/
theorem ld_bt {T : TypeId} {x : Operand} {b off j k n cap : Nat} {l : List Bt} {t : Bt} (hR : Rd w 2 (some ⟨b, off, none⟩) n cap (bts l)) (ht : l[k]? = some t)
    (hx : a.eval x = .pointer (some ⟨b, j, none⟩)) (hj : j = off + k * 2) (hT : aggT P T = some true) (hs : (P.info? T).map (·.size) = some 2)
    (h : wpList P ops Q rest (a.put d (.agg t.C)) w) :
    wpList P ops Q ({ dst := d, op := .load T x, type := ty, pos := pos, after := aft, guard := none } :: rest) a w := by
  obtain ⟨hk, he⟩ := List.getElem?_eq_some_iff.1 ht
  subst hj
  exact ld_rds t.C.toList hR hx (fun i v hv => bts_get l k hk i v (by rw [he]; exact hv)) hT hs (by show 0 < 2; omega) h
end
section
variable {P : Program} {ops : Array Oper} {S : World → Prop} {st : Op → Bool} {Q : Exit → Act → World → Prop} {a : Act} {w : World} {rest : List Oper}
variable {d : Option Tmp} {ty : TypeId} {pos : String} {aft : Array Edge}
/-- in a region that draws: a load of a cell that stands in every world of S -/
theorem wpI_ld1S {T : TypeId} {x : Operand} {ad : Addr} {v : Value} (hS : ∀ w', S w' → w'.cell? ad = some v)
    (hx : a.eval x = .pointer (some ad)) (hst : st (.load T x) = true) (hT : aggT P T = some false)
    (h : wpI P ops S st Q rest (a.put d v) w) : wpI P ops S st Q ({ dst := d, op := .load T x, type := ty, pos := pos, after := aft, guard := none } :: rest) a w := by
  refine wpI_steady v rfl hst rfl (fun w' hw => ?_) h
  exact run_load_one (P := P) (d := d) (ty := ty) (pos := pos) (aft := aft) (gd := none) hx hT (hS w' hw)
end
end Go.Own
namespace Go.Opn
open Go.ChangeShapes Go.WideShapes Go.ChangeAt Go.RowKit Go.Own Go.Pb Go.Deep
end Go.Opn
namespace Go.Proofs.YtniibdglodnhoaaGreatDoor
open Go.RowKit Go.Bv Go.Opn Go.Pb

/-! ### what many chances learn of many bits -/
def okAt (n : Nat) (x : Bt) : Prop := 0 ≤ x.at_ ∧ x.at_ < (n : Int)
instance (n : Nat) (x : Bt) : Decidable (okAt n x) := by unfold okAt; infer_instance
end Go.Proofs.YtniibdglodnhoaaGreatDoor

/- Walks: SameInts, slices.Clone of integers, prob.All. -/
namespace Go.Proofs.YtniibdglodnhoaaGreatDoor
open Go.RowKit Go.Own Go.Bv Go.Ord Go.Eq Go.Opn Go.Pb

theorem ii64s : (Tryz.prog.info? 3).map (·.size) = some 1 := by kernel_rfl
theorem ibtz : (Tryz.prog.info? 122).bind (·.zero) = some (.agg zB.C) := by kernel_rfl
theorem i64s_one (l : List Int) : ∀ u ∈ i64s l, u.oneCell' = true := by
  intro u hu
  simp only [i64s, List.mem_map] at hu
  obtain ⟨x, _, rfl⟩ := hu
  rfl
end Go.Proofs.YtniibdglodnhoaaGreatDoor

/- 'copy' into a row of the call's own. -/
namespace Go.Own
open Go.RowKit Go.Ord
section
variable {P : Program} {ops : Array Oper} {Q : Exit → Act → World → Prop} {a : Act} {w w0 : World} {L : List Res} {rest : List Oper}
variable {d : Option Tmp} {ty : TypeId} {pos : String} {aft : Array Edge}
theorem gCopy {args : Array Operand} {ats : Array TypeId} (h : wpList P ops Q ({ dst := d, op := .call { callee := .builtin .copy, args := args, argTypes := ats }, type := ty, pos := pos, after := aft, guard := none } :: rest) a w) :
    wpList P ops Q ({ dst := d, op := .call { callee := .builtin .copy, args := args, argTypes := ats }, type := ty, pos := pos, after := aft, guard := none } :: rest) a w := h
/-- 'copy(s[o:], x)', s of the call's own: m cells come in -/
theorem own_copy (hO : Own w0 w L) (i : Nat) (s x : Operand) (t t2 : TypeId) {e : TypeId} {z : Value} {bytes : Nat} (hE : Elem P t e z 1 bytes) {g o n cap dLen dCap sLen sCap : Nat} {sa : Addr} {xs ys : List Value}
    (hi : L[i]? = some (.sl e 1 (.slice (some ⟨g, 0, none⟩) n cap) n xs)) (hs : a.eval s = .slice (some ⟨g, o, none⟩) dLen dCap) (hx : a.eval x = .slice (some sa) sLen sCap) (m : Nat) (hm : Nat.min sLen dLen = m) (hfit : o + dLen ≤ n)
    (hy : ys.length = m) (hsrc : ∀ j v, ys[j]? = some v → w.cell? (sa.add j) = some v) (h1 : ∀ v ∈ ys, v.oneCell' = true) (zs : List Value) (hz : xs.take o ++ ys ++ xs.drop (o + m) = zs)
    (h : ∀ w', Own w0 w' (L.set i (.sl e 1 (.slice (some ⟨g, 0, none⟩) n cap) n zs)) → wpList P ops Q rest (a.put d (.int .i64 (m : Int))) w') :
    wpList P ops Q ({ dst := d, op := .call { callee := .builtin .copy, args := #[s, x], argTypes := #[t, t2] }, type := ty, pos := pos, after := aft, guard := none } :: rest) a w := by
  refine wpList_plain rfl fun K hK => ?_
  subst hz
  obtain ⟨inf, hinf, hzz, hsz, hby⟩ := info_parts hE.info
  obtain ⟨hlen, h2⟩ := hO.row i hi
  rcases h2 with ⟨hb, _⟩ | ⟨g', cap', cur, he, hb, hg, hnc, hcm, hcs, htake⟩
  · simp at hb
  simp only [Value.slice.injEq, Option.some.injEq, Addr.mk.injEq, and_true, true_and] at he
  obtain ⟨rfl, rfl⟩ := he
  rw [Nat.mul_one] at htake hlen hcs
  have hml : m ≤ dLen := by rw [← hm]; exact Nat.min_le_right _ _
  have hrun := run_copy_row (P := P) w t t2 ty e g o dLen dCap sa sLen sCap cur e ys hE.slice (by rw [hinf]; simpa using hsz) hg (by rw [hy, hm]) hsrc (by rw [hy]; omega) h1
  have hxs : xs = cur.toList.take n := htake.symm
  have hnew : (cur.toList.take o ++ ys ++ cur.toList.drop (o + ys.length)).take n = xs.take o ++ ys ++ xs.drop (o + m) := by
    rw [hy, hxs, List.take_take, Nat.min_eq_left (by omega), List.drop_take]
    have hl1 : (cur.toList.take o ++ ys).length = o + m := by rw [List.length_append, List.length_take, Array.length_toList, hy]; omega
    rw [show n = (cur.toList.take o ++ ys).length + (n - (o + m)) by rw [hl1]; omega, List.take_length_add_append, hl1]
    congr 2
    omega
  have hsize : (cur.toList.take o ++ ys ++ cur.toList.drop (o + ys.length)).toArray.size = cap := by
    simp only [List.size_toArray, List.length_append, List.length_take, List.length_drop, Array.length_toList, hy]; omega
  have hrow : (w.setRow g (cur.toList.take o ++ ys ++ cur.toList.drop (o + ys.length)).toArray).ownsRow w0.heap.size e 1 (.slice (some ⟨g, 0, none⟩) n cap) n (xs.take o ++ ys ++ xs.drop (o + m)) :=
    ⟨by rw [← hnew, List.length_take, ← List.size_toArray, hsize]; omega, .inr ⟨g, cap, _, rfl, hb, setRow_heap w g cur _ e _ hg, hnc, hcm, by rw [hsize, Nat.mul_one], by rw [Nat.mul_one]; exact hnew⟩⟩
  have hO' : Own w0 (w.setRow g (cur.toList.take o ++ ys ++ cur.toList.drop (o + ys.length)).toArray) (L.set i (.sl e 1 (.slice (some ⟨g, 0, none⟩) n cap) n (xs.take o ++ ys ++ xs.drop (o + m)))) :=
    hO.set i hi rfl rfl rfl (by simp) (fun k _ hk => setRow_other _ _ _ _ (fun h => hk (by simp [Res.foot, Value.ownBlock, h]))) hrow (fun k hk => .inl hk)
  unfold Oper.wp execOp
  simp only [resolve, invoke, builtin, Sem.run_bind, Sem.run_pure, Result.andThen_ok, List.map_toArray, List.map_cons, List.map_nil, hs, hx, hrun]
  rw [show goInt (ys.length : Int) = .int .i64 (m : Int) by rw [hy]; rfl]
  exact hK _ _ (h _ hO')
end
end Go.Own

/- Walks: math/bits.Mul64 of one and a number, slices.Repeat of one number, prob.New. -/
namespace Go.Proofs.YtniibdglodnhoaaGreatDoor
open Go.RowKit Go.Own Go.Bv Go.Ord Go.Eq Go.Opn Go.Pb

set_option maxHeartbeats 1000000 in
theorem mul64_one (n : Nat) (hn : n ≤ 1024) (w : World) :
    Calls Tryz.prog 125 #[.int .u64 1, .int .u64 (n : Int)] w fun e w' => e = .returned (.tuple #[.int .u64 0, .int .u64 (n : Int)]) ∧ w = w' := by
  have b1 : bits .and .u64 1 4294967295 = 1 := by decide +kernel
  have b2 : bits .and .u64 (n : Int) 4294967295 = (n : Int) := by
    have h := Go.bits_and_u64_nat n 4294967295 (by omega) (by decide)
    rw [show (4294967295 : Int) = ((4294967295 : Nat) : Int) from rfl, h, show (4294967295 : Nat) = 2 ^ 32 - 1 from rfl, Nat.and_two_pow_sub_one_eq_mod, Nat.mod_eq_of_lt (by omega)]
  have b3 : (n : Int) / 4294967296 = 0 := by omega
  have b4 : bits .and .u64 0 4294967295 = 0 := by decide +kernel
  have w1 : IntKind.u64.wrap (n : Int) = (n : Int) := by simp [IntKind.wrap, IntKind.bits, IntKind.signed]; omega
  have w0 : IntKind.u64.wrap 0 = 0 := by decide +kernel
  go_enter Tryz.func125, Tryz.ntmps125
  go_wp2
  go_ret2
  exact ⟨rfl, rfl⟩

set_option maxHeartbeats 1000000 in
theorem mul_one (n : Nat) (hn : n ≤ 1024) (w : World) :
    Calls Tryz.prog 119 #[.int .u64 1, .int .u64 (n : Int)] w fun e w' => e = .returned (.tuple #[.int .u64 0, .int .u64 (n : Int)]) ∧ w = w' := by
  go_enter Tryz.func119, Tryz.ntmps119
  go_wp2_with (first
    | (go_at_call 125; refine (mul64_one n hn _).mono ?_; rintro e ww ⟨rfl, rfl⟩))
  go_ret2
  exact ⟨rfl, rfl⟩

/-- k numbers are there, the others are not yet -/
def filled (n k : Nat) : List Value := List.replicate k (.int .i64 1024) ++ List.replicate (n - k) (.int .i64 0)
theorem filled_all (n : Nat) : filled n n = i64s (List.replicate n 1024) := by simp [filled, i64s]
theorem filled_zero (n : Nat) : filled n 0 = (madeCells (Value.int .i64 0).cells (n * 1)).toList := by
  rw [Nat.mul_one, show (Value.int .i64 0).cells = #[Value.int .i64 0] from rfl, toList_madeCells_one]
  simp [filled]
theorem filled_copy (n k m : Nat) (hm : k + m ≤ n) : (filled n k).take k ++ List.replicate m (.int .i64 1024) ++ (filled n k).drop (k + m) = filled n (k + m) := by
  unfold filled
  have hl : (List.replicate k (Value.int .i64 1024)).length = k := List.length_replicate
  rw [List.take_left' hl, List.drop_append, hl, List.drop_of_length_le (by rw [hl]; omega), List.nil_append, List.drop_replicate, List.replicate_append_replicate]
  congr 2
  omega

set_option maxHeartbeats 4000000 in
set_option maxRecDepth 100000 in
theorem repeat_calls (g : Nat) (n : Nat) (hn : n ≤ 1024) (w : World) (hR : Rd w 1 (some ⟨g, 0, none⟩) 1 1 (i64s [1024])) :
    Calls Tryz.prog 109 #[.slice (some ⟨g, 0, none⟩) 1 1, .int .i64 (n : Int)] w fun e w' => ∃ a' c', e = .returned (.slice a' n c') ∧ Below w.heap.size w w' ∧ w'.ownsRow w.heap.size 3 1 (.slice a' n c') n (i64s (List.replicate n 1024)) := by
  have hO := Own.start w
  have HR := Lib.hid hR
  clear hR
  have d1 : decide ((n : Int) < 0) = false := by simp
  have d2 : decide ((9223372036854775807 : Int) < (n : Int)) = false := by simp; omega
  have w1 : IntKind.u64.wrap (n : Int) = (n : Int) := by simp [IntKind.wrap, IntKind.bits, IntKind.signed]; omega
  generalize hW : w = wn at hO HR ⊢
  clear hW w
  by_cases hn0 : n = 0
  · have hmin : Nat.min 1 n = 0 := by show min 1 n = 0; omega
    have e0 : decide ((0 : Int) < (n : Int)) = false := by simp; omega
    have e0' : decide (0 < n) = false := by simp; omega
    have HZ : Hid (i64s (List.replicate n 1024) = filled n 0) := by show _ = _; subst hn0; rfl
    rw [HZ.out]
    clear hn0
    go_enter Tryz.func109, Tryz.ntmps109
    go_wp2_with (first
      | ((with_reducible refine gG ?_); refine wpList_want rfl ?_)
      | (go_at_call 119; refine (mul_one n hn _).mono ?_; rintro e ww ⟨rfl, rfl⟩)
      | ((with_reducible refine gMake ?_); refine own_make hO _ _ 71 ei64 n rfl rfl rfl rfl (by omega) (by simp [maxLen]; omega) ?_; clear hO; intro g2 ww hO)
      | ((with_reducible refine gCopy ?_); refine own_copy hO 0 _ _ 71 71 ei64 (sa := ⟨g, 0, none⟩) (ys := []) rfl rfl rfl 0 hmin (by omega) rfl (fun j v hj => by simp at hj) (fun v hv => by simp at hv) (filled n 0) (by rw [← filled_zero]; simp) ?_; clear hO; intro ww hO))
    go_loopg [8] 0 (fun m s8 wr => s8 = .int .i64 ((0 : Nat) : Int) ∧ Own wn wr [.sl 3 1 (.slice (some ⟨g2, 0, none⟩) n n) n (filled n 0)])
    case atStart => exact ⟨rfl, hO⟩
    case round =>
      obtain ⟨rfl, hO1⟩ := hrel
      clear hO
      have hO := hO1
      clear hO1
      go_wp2
      go_ret
      exact ⟨_, _, rfl, hO.below, hO.row 0 rfl⟩
  · have hmin : Nat.min 1 n = 1 := by show min 1 n = 1; omega
    go_enter Tryz.func109, Tryz.ntmps109
    go_wp2_with (first
      | ((with_reducible refine gG ?_); refine wpList_want rfl ?_)
      | (go_at_call 119; refine (mul_one n hn _).mono ?_; rintro e ww ⟨rfl, rfl⟩)
      | ((with_reducible refine gMake ?_); refine own_make hO _ _ 71 ei64 n rfl rfl rfl rfl (by omega) (by simp [maxLen]; omega) ?_; clear hO; intro g2 ww hO)
      | ((with_reducible refine gCopy ?_); refine own_copy hO 0 _ _ 71 71 ei64 (sa := ⟨g, 0, none⟩) (ys := [.int .i64 1024]) rfl rfl rfl 1 hmin (by omega) rfl ((hO.rd HR.out).cells rfl) (fun v hv => by simp at hv; subst hv; rfl) (filled n 1) (by rw [← filled_zero]; exact filled_copy n 0 1 (by omega)) ?_; clear hO; intro ww hO))
    clear d1 d2 w1
    clear hmin
    replace hO : Own wn _ [.sl 3 1 (.slice (some ⟨g2, 0, none⟩) n n) n (filled n 1)] := hO
    go_loopg [8] (n - 1) (fun m s8 wr => ∃ k : Nat, m = n - k ∧ 1 ≤ k ∧ k ≤ n ∧ s8 = .int .i64 (k : Int) ∧ Own wn wr [.sl 3 1 (.slice (some ⟨g2, 0, none⟩) n n) n (filled n k)])
    case atStart => exact ⟨1, rfl, by omega, by omega, rfl, hO⟩
    case round =>
      obtain ⟨k, rfl, hk1, hkn, rfl, hO1⟩ := hrel
      clear hO
      have hO := hO1
      clear hO1
      by_cases c1 : k < n
      · have e1 : decide ((k : Int) < (n : Int)) = true := by simp; omega
        obtain ⟨m, hm⟩ : ∃ m, Nat.min k (n - k) = m := ⟨_, rfl⟩
        have hm2 : min k (n - k) = m := hm
        have hkm : k + m ≤ n ∧ 1 ≤ m ∧ m ≤ k := by omega
        have hNk : ¬ (n = k) := by omega
        have HM := Lib.hid hm
        clear hm hm2
        go_wp2
        refine wp_region_text (by kernel_rfl) (by kernel_rfl) ?_
        replace hO := hO.drew
        generalize World.drew _ = wd at hO ⊢
        go_wp2_with (first
          | ((with_reducible refine gCopy ?_); refine own_copy hO 0 _ _ 71 71 ei64 (sa := ⟨g2, 0, none⟩) (ys := List.replicate m (.int .i64 1024)) rfl rfl rfl m HM.out (by omega) List.length_replicate (fun j v hj => by
              have hj2 : j < m := by have := (List.getElem?_eq_some_iff.1 hj).1; rwa [List.length_replicate] at this
              rw [List.getElem?_replicate, if_pos hj2] at hj
              rw [Addr.add_lit, Nat.zero_add, hO.slCell 0 rfl (by omega)]
              unfold filled
              rw [List.getElem?_append_left (by rw [List.length_replicate]; omega), List.getElem?_replicate, if_pos (by omega)]
              exact hj) (fun v hv => by rw [List.eq_of_mem_replicate hv]; rfl) (filled n (k + m)) (filled_copy n k m hkm.1) ?_; clear hO; intro ww hO)
          | ((with_reducible refine gI ?_); refine wpI_step rfl rfl (by kernel_rfl) ?_; intro K hK; have HK := Lib.hid hK; clear hK) | ((with_reducible refine gI ?_); first | refine wpI_skip rfl ?_ | refine wpI_want rfl ?_) | ((with_reducible refine gOnlyK0 HK.out ?_); clear HK K; first | (refine wpI_act (by simp only [Act.put, List.setIfInBounds_toArray, List.set_cons_succ, List.set_cons_zero]; rfl) ?_) | skip) | (with_reducible refine wpI_nil ?_))
        go_roundg (n - (k + m))
        case measure => omega
        case rel => exact ⟨k + m, rfl, by omega, by omega, by go_num, hO⟩
      · obtain rfl : k = n := by omega
        rw [filled_all] at hO
        go_wp2
        go_ret
        exact ⟨_, _, rfl, hO.below, hO.row 0 rfl⟩

/-- what 'New' hands back -/
def newT (n : Int) : List Int := if 0 ≤ n ∧ n ≤ 1024 then List.replicate n.toNat 1024 else []
def newE (n : Int) : Int := if 0 ≤ n ∧ n ≤ 1024 then 0 else 1
set_option maxHeartbeats 1000000 in
set_option maxRecDepth 100000 in
theorem new_calls (x : Int) (w : World) (N : Nat) (T : List Int) (E : Int) (hN : (newT x).length = N) (hT : newT x = T) (hE : newE x = E) :
    Calls Tryz.prog 86 #[.int .i64 x] w fun e w' => ∃ a' c', e = .returned (.tuple #[.slice a' N c', .int .i64 E]) ∧ Below w.heap.size w w' ∧ w'.ownsRow w.heap.size 3 1 (.slice a' N c') N (i64s T) := by
  have hO := Own.start w
  by_cases h1 : x < 0
  · have e1 : T = [] := by rw [← hT]; unfold newT; rw [if_neg (by omega)]
    have e2 : E = 1 := by rw [← hE]; unfold newE; rw [if_neg (by omega)]
    have e3 : N = 0 := by rw [← hN, hT, e1]; rfl
    have d1 : decide (x < 0) = true := by simpa using h1
    subst e1 e2 e3
    clear hN hT hE
    generalize hW : w = wn at hO ⊢
    clear hW w
    go_enter Tryz.func86, Tryz.ntmps86
    go_wp2_with (first | ((with_reducible refine gG ?_); refine wpList_want rfl ?_))
    go_ret2
    exact ⟨none, 0, rfl, hO.below, World.ownsRow_nil _ _ _ _⟩
  have d1 : decide (x < 0) = false := by simpa using h1
  by_cases h2 : 1024 < x
  · have e1 : T = [] := by rw [← hT]; unfold newT; rw [if_neg (by omega)]
    have e2 : E = 1 := by rw [← hE]; unfold newE; rw [if_neg (by omega)]
    have e3 : N = 0 := by rw [← hN, hT, e1]; rfl
    have d2 : decide (1024 < x) = true := by simpa using h2
    subst e1 e2 e3
    clear hN hT hE
    generalize hW : w = wn at hO ⊢
    clear hW w
    go_enter Tryz.func86, Tryz.ntmps86
    go_wp2_with (first | ((with_reducible refine gG ?_); refine wpList_want rfl ?_))
    go_ret2
    exact ⟨none, 0, rfl, hO.below, World.ownsRow_nil _ _ _ _⟩
  have d2 : decide (1024 < x) = false := by simpa using h2
  obtain ⟨n, rfl⟩ : ∃ n : Nat, x = (n : Int) := ⟨x.toNat, by omega⟩
  have e1 : T = List.replicate n 1024 := by rw [← hT]; unfold newT; rw [if_pos (by omega), Int.toNat_natCast]
  have e2 : E = 0 := by rw [← hE]; unfold newE; rw [if_pos (by omega)]
  have e3 : N = n := by rw [← hN, hT, e1, List.length_replicate]
  subst e1 e2 e3
  have HP := Lib.hid (fun g w h => repeat_calls g N (by omega) w h)
  clear hN hT hE
  generalize hW : w = wn at hO ⊢
  clear hW w
  go_enter Tryz.func86, Tryz.ntmps86
  go_wp2_with (first
    | ((with_reducible refine gG ?_); refine wpList_want rfl ?_)
    | ((with_reducible refine gBuild ?_); refine own_build hO 71 1 _ ei64 (i64s [1024]).toArray (by omega) (by omega) (by kernel_rfl) rfl ?_; clear hO; intro g ww hO)
    | (go_at_call 109; refine (HP.out _ _ (hO.rdAt 0 rfl)).mono ?_; rintro e ww ⟨a2, c2, rfl, hb, hr⟩; replace hO := hO.addRow hb hr; clear hb hr))
  go_ret2
  exact ⟨a2, c2, rfl, hO.below, hO.row 0 rfl⟩
end Go.Proofs.YtniibdglodnhoaaGreatDoor

/- The walk of prob.Split, and of ProbSplits. -/
namespace Go.Proofs.YtniibdglodnhoaaGreatDoor
open Go.RowKit Go.Own Go.Bv Go.Ord Go.Eq Go.Opn

def splitOk (s : Int) (p : Int) : Bool := decide (16777216 ≤ s) && mayB p
def splitI (s p : Int) : Int := s / 2048 * p

theorem split_bounds {s p : Int} (h0 : s < 4294967296) (h1 : 16777216 ≤ s) (h2 : mayB p = true) : 253952 ≤ splitI s p ∧ splitI s p + 253952 ≤ s ∧ splitI s p < 4294967296 := by
  obtain ⟨a, b⟩ := (mayB_iff p).1 h2
  unfold splitI
  have hq : 8192 ≤ s / 2048 := by omega
  have hq2 : s / 2048 * 2048 ≤ s := by omega
  generalize s / 2048 = q at *
  have l1 : 8192 * 31 ≤ q * p := by
    have := Int.mul_le_mul hq a (by omega) (by omega)
    simpa using this
  have l2 : q * p ≤ q * 2017 := Int.mul_le_mul_of_nonneg_left b (by omega)
  refine ⟨by omega, by omega, by omega⟩

set_option maxHeartbeats 1000000 in
theorem split_calls (s p : Int) (w : World) (h0 : 0 ≤ s) (h1 : s < 4294967296) :
    Calls Tryz.prog 111 #[.int .u32 s, .int .i64 p] w fun e w' => e = .returned (.tuple #[.int .u32 (if splitOk s p then splitI s p else 0), .int .i64 (if splitOk s p then 0 else 1)]) ∧ w = w' := by
  by_cases h2 : 16777216 ≤ s
  · cases hm : mayB p
    · have e : splitOk s p = false := by simp [splitOk, hm]
      rw [e]
      have HM := Lib.hid hm
      clear hm e
      have hb : decide (s < 16777216) = false := by simp; omega
      simp only [Bool.false_eq_true, if_false]
      go_enter Tryz.func111, Tryz.ntmps111
      go_wp2_with (go_at_call 120; refine (may_calls _ _).mono ?_; rw [HM.out]; rintro e w1 ⟨rfl, rfl⟩)
      go_ret2
      exact ⟨rfl, rfl⟩
    · have e : splitOk s p = true := by simp [splitOk, hm, h2]
      rw [e]
      obtain ⟨b1, b2, b3⟩ := split_bounds h1 h2 hm
      obtain ⟨pa, pb⟩ := (mayB_iff p).1 hm
      have HM := Lib.hid hm
      clear hm e
      have hb : decide (s < 16777216) = false := by simp; omega
      simp only [if_true]
      have hmul : (s / 2048 * p) % 4294967296 = splitI s p := by
        show _ = s / 2048 * p
        exact Int.emod_eq_of_lt (by have : splitI s p = s / 2048 * p := rfl; omega) b3
      generalize splitI s p = m at *
      go_enter Tryz.func111, Tryz.ntmps111
      go_wp2_with (go_at_call 120; refine (may_calls _ _).mono ?_; rw [HM.out]; rintro e w1 ⟨rfl, rfl⟩)
      go_ret2
      exact ⟨by rw [← hmul]; rfl, rfl⟩
  · have e : splitOk s p = false := by simp [splitOk, h2]
    rw [e]
    have hb : decide (s < 16777216) = true := by simp; omega
    simp only [Bool.false_eq_true, if_false]
    go_enter Tryz.func111, Tryz.ntmps111
    go_wp2
    go_ret2
    exact ⟨rfl, rfl⟩


end Go.Proofs.YtniibdglodnhoaaGreatDoor

/- Walks of the document's chances: is, Check, New, Learn, Split, All. -/
namespace Go.Proofs.YtniibdglodnhoaaGreatDoor
open Go.RowKit Go.Own Go.Bv Go.Ord Go.Eq Go.Opn Go.Pb

set_option maxHeartbeats 400000 in
theorem is_calls (p : Int) (w : World) :
    Calls Tryz.prog 116 #[.int .i64 p] w fun e w' => e = .returned (.bool (mayB p)) ∧ w = w' := by
  by_cases h1 : 31 ≤ p
  · have e : mayB p = decide (p ≤ 2017) := by simp [mayB, h1]
    rw [e]
    go_enter Tryz.func116, Tryz.ntmps116
    go_wp2
    go_ret
    exact ⟨rfl, rfl⟩
  · have e : mayB p = false := by simp [mayB, h1]
    rw [e]
    go_enter Tryz.func116, Tryz.ntmps116
    go_wp2
    go_ret
    exact ⟨rfl, rfl⟩

set_option maxHeartbeats 1000000 in
theorem rLearn_calls (p : Int) (b : Bool) (w : World) :
    Calls Tryz.prog 99 #[.int .i64 p, .bool b] w fun e w' => e = .returned (.tuple #[.int .i64 (if mayB p then learnI p b else 0), .int .i64 (if mayB p then 0 else 1)]) ∧ w = w' := by
  cases h : mayB p
  · have HM := Lib.hid h
    clear h
    go_enter Tryz.func99, Tryz.ntmps99
    go_wp2_with (first
      | (go_at_call 116; refine (is_calls _ _).mono ?_; rw [HM.out]; rintro e w1 ⟨rfl, rfl⟩))
    go_ret2
    exact ⟨rfl, rfl⟩
  · obtain ⟨h1, h2⟩ := (mayB_iff p).1 h
    have HM := Lib.hid h
    have q1 : p.tdiv 32 = p / 32 := Int.tdiv_eq_ediv_of_nonneg (by omega)
    have q2 : (2048 - p).tdiv 32 = (2048 - p) / 32 := Int.tdiv_eq_ediv_of_nonneg (by omega)
    have q3 : 0 ≤ p / 32 ∧ p / 32 ≤ p := by omega
    have q4 : 0 ≤ (2048 - p) / 32 ∧ (2048 - p) / 32 ≤ 2048 - p := by omega
    clear h
    cases b
    all_goals
      go_enter Tryz.func99, Tryz.ntmps99
      go_wp2_with (first
        | (go_at_call 116; refine (is_calls _ _).mono ?_; rw [HM.out]; rintro e w1 ⟨rfl, rfl⟩))
      go_ret2
      exact ⟨rfl, rfl⟩


set_option maxHeartbeats 1000000 in
set_option maxRecDepth 100000 in
theorem rNew_calls (x : Int) (w : World) (N : Nat) (T : List Int) (E : Int) (hN : (newT x).length = N) (hT : newT x = T) (hE : newE x = E) :
    Calls Tryz.prog 76 #[.int .i64 x] w fun e w' => ∃ a' c', e = .returned (.tuple #[.slice a' N c', .int .i64 E]) ∧ Below w.heap.size w w' ∧ w'.ownsRow w.heap.size 3 1 (.slice a' N c') N (i64s T) := by
  have hO := Own.start w
  by_cases h1 : x < 0
  · have e1 : T = [] := by rw [← hT]; unfold newT; rw [if_neg (by omega)]
    have e2 : E = 1 := by rw [← hE]; unfold newE; rw [if_neg (by omega)]
    have e3 : N = 0 := by rw [← hN, hT, e1]; rfl
    have d1 : decide (x < 0) = true := by simpa using h1
    subst e1 e2 e3
    clear hN hT hE
    generalize hW : w = wn at hO ⊢
    clear hW w
    go_enter Tryz.func76, Tryz.ntmps76
    go_wp2_with (first | ((with_reducible refine gG ?_); refine wpList_want rfl ?_))
    go_ret2
    exact ⟨none, 0, rfl, hO.below, World.ownsRow_nil _ _ _ _⟩
  have d1 : decide (x < 0) = false := by simpa using h1
  by_cases h2 : 1024 < x
  · have e1 : T = [] := by rw [← hT]; unfold newT; rw [if_neg (by omega)]
    have e2 : E = 1 := by rw [← hE]; unfold newE; rw [if_neg (by omega)]
    have e3 : N = 0 := by rw [← hN, hT, e1]; rfl
    have d2 : decide (1024 < x) = true := by simpa using h2
    subst e1 e2 e3
    clear hN hT hE
    generalize hW : w = wn at hO ⊢
    clear hW w
    go_enter Tryz.func76, Tryz.ntmps76
    go_wp2_with (first | ((with_reducible refine gG ?_); refine wpList_want rfl ?_))
    go_ret2
    exact ⟨none, 0, rfl, hO.below, World.ownsRow_nil _ _ _ _⟩
  have d2 : decide (1024 < x) = false := by simpa using h2
  obtain ⟨n, rfl⟩ : ∃ n : Nat, x = (n : Int) := ⟨x.toNat, by omega⟩
  have e1 : T = List.replicate n 1024 := by rw [← hT]; unfold newT; rw [if_pos (by omega), Int.toNat_natCast]
  have e2 : E = 0 := by rw [← hE]; unfold newE; rw [if_pos (by omega)]
  have e3 : N = n := by rw [← hN, hT, e1, List.length_replicate]
  subst e1 e2 e3
  clear hN hT hE
  generalize hW : w = wn at hO ⊢
  clear hW w
  go_enter Tryz.func76, Tryz.ntmps76
  go_wp2_with (first | ((with_reducible refine gG ?_); refine wpList_want rfl ?_))
  replace hO : Own wn _ [.sl 3 1 (.slice none 0 0) 0 (i64s (List.replicate 0 1024))] := hO.add (Below.refl _ _) (World.ownsRow_nil _ _ _ _)
  go_loopg [4, 12] N (fun m s4 s12 wr => ∃ (k : Nat) (aO : Option Addr) (cO : Nat), m = N - k ∧ k ≤ N ∧ s12 = .int .i64 (k : Int) ∧ s4 = .slice aO k cO ∧ Own wn wr [.sl 3 1 (.slice aO k cO) k (i64s (List.replicate k 1024))])
  case atStart => exact ⟨0, none, 0, rfl, by omega, rfl, rfl, hO⟩
  case round =>
    obtain ⟨k, aO, cO, rfl, hk, rfl, rfl, hO1⟩ := hrel
    clear hO
    have hO := hO1
    clear hO1
    by_cases hlt : k < N
    · have hb0 : decide ((k : Int) < (N : Int)) = true := by simp; omega
      have HS : Hid (i64s (List.replicate (k + 1) 1024) = i64s (List.replicate k 1024) ++ i64s [1024]) := by
        show _ = _
        rw [List.replicate_succ']
        unfold i64s
        rw [List.map_append]
      go_wp2_with (first
        | ((with_reducible refine gBuild ?_); refine own_build hO 71 1 _ ei64 (i64s [1024]).toArray (by omega) (by omega) (by kernel_rfl) rfl ?_; clear hO; intro g ww hO)
        | ((with_reducible refine gAppend ?_); refine own_append hO 1 _ _ 71 ei64 rfl rfl rfl (hO.rdAt 0 rfl) (i64s_one _) (k + 1) rfl (by simp [maxLen]; omega) (by omega) ?_; clear hO; intro a2 c2 ww hO))
      go_roundg (N - (k + 1))
      case measure => omega
      case rel => exact ⟨k + 1, a2, c2, rfl, by omega, by go_num, rfl, by rw [HS.out]; exact hO.tail⟩
    · obtain rfl : k = N := by omega
      go_wp2
      go_ret2
      exact ⟨aO, cO, rfl, hO.below, hO.row 0 rfl⟩

set_option maxHeartbeats 1000000 in
theorem rsplit_calls (s p : Int) (w : World) (h0 : 0 ≤ s) (h1 : s < 4294967296) :
    Calls Tryz.prog 97 #[.int .u32 s, .int .i64 p] w fun e w' => e = .returned (.tuple #[.int .u32 (if splitOk s p then splitI s p else 0), .int .i64 (if splitOk s p then 0 else 1)]) ∧ w = w' := by
  cases hm : mayB p
  · have e : splitOk s p = false := by simp [splitOk, hm]
    rw [e]
    have HM := Lib.hid hm
    clear hm e
    simp only [Bool.false_eq_true, if_false]
    go_enter Tryz.func97, Tryz.ntmps97
    go_wp2_with (first | ((with_reducible refine gG ?_); refine wpList_want rfl ?_) | (go_at_call 116; refine (is_calls _ _).mono ?_; rw [HM.out]; rintro e w1 ⟨rfl, rfl⟩))
    go_ret2
    exact ⟨rfl, rfl⟩
  by_cases h2 : 16777216 ≤ s
  · have e : splitOk s p = true := by simp [splitOk, hm, h2]
    rw [e]
    obtain ⟨b1, b2, b3⟩ := split_bounds h1 h2 hm
    obtain ⟨pa, pb⟩ := (mayB_iff p).1 hm
    have HM := Lib.hid hm
    clear hm e
    have hb : decide (s < 16777216) = false := by simp; omega
    simp only [if_true]
    have q1 : s.tdiv 2048 = s / 2048 := Int.tdiv_eq_ediv_of_nonneg h0
    have hmul : (s / 2048 * p) % 4294967296 = splitI s p := by
      show _ = s / 2048 * p
      exact Int.emod_eq_of_lt (by have : splitI s p = s / 2048 * p := rfl; omega) b3
    generalize splitI s p = m at *
    go_enter Tryz.func97, Tryz.ntmps97
    go_wp2_with (first | ((with_reducible refine gG ?_); refine wpList_want rfl ?_) | (go_at_call 116; refine (is_calls _ _).mono ?_; rw [HM.out]; rintro e w1 ⟨rfl, rfl⟩))
    go_ret2
    exact ⟨by rw [← hmul]; rfl, rfl⟩
  · have e : splitOk s p = false := by simp [splitOk, h2]
    rw [e]
    have HM := Lib.hid hm
    have hb : decide (s < 16777216) = true := by simp; omega
    clear hm e
    simp only [Bool.false_eq_true, if_false]
    go_enter Tryz.func97, Tryz.ntmps97
    go_wp2_with (first | ((with_reducible refine gG ?_); refine wpList_want rfl ?_) | (go_at_call 116; refine (is_calls _ _).mono ?_; rw [HM.out]; rintro e w1 ⟨rfl, rfl⟩))
    go_ret2
    exact ⟨rfl, rfl⟩
end Go.Proofs.YtniibdglodnhoaaGreatDoor

/- Walks: the writer's move, put. -/
namespace Go.Own
open Go.RowKit
/-- the first two -/
theorem Own.take2 {w0 w : World} {L : List Res} {x y : Res} (h : Own w0 w (x :: y :: L)) : Own w0 w [x, y] :=
  h.sub (List.Sublist.cons_cons _ (List.Sublist.cons_cons _ (List.nil_sublist _)))
/-- the first two the other way round -/
theorem Apart.symm {r s : Res} (h : Apart r s) : Apart s r := fun k h1 h2 => h k h2 h1
theorem Own.swap {w0 w : World} {L : List Res} {x y : Res} (h : Own w0 w (x :: y :: L)) : Own w0 w (y :: x :: L) := by
  refine ⟨h.below, fun r hr => h.mem r ?_, ?_⟩
  · simp only [List.mem_cons] at hr ⊢
    rcases hr with h | h | h
    · exact .inr (.inl h)
    · exact .inl h
    · exact .inr (.inr h)
  · obtain ⟨h1, h2⟩ := List.pairwise_cons.1 h.apart
    obtain ⟨h3, h4⟩ := List.pairwise_cons.1 h2
    refine List.pairwise_cons.2 ⟨fun s hs => ?_, List.pairwise_cons.2 ⟨fun s hs => h1 s (List.mem_cons_of_mem _ hs), h4⟩⟩
    rcases List.mem_cons.1 hs with rfl | hs
    · exact (h1 y (List.mem_cons_self)).symm
    · exact h3 s hs
end Go.Own
namespace Go.Proofs.YtniibdglodnhoaaGreatDoor
open Go.RowKit Go.Own Go.Bv Go.Ord Go.Eq Go.Opn Go.Pb

theorem eu8 : Elem Tryz.prog 29 5 (.int .u8 0) 1 1 := ⟨Tryz.underlying29, by kernel_rfl, rfl, by decide⟩
def wC (pS : Value) (low span kept many : Nat) (oS : Value) : Array Value := #[pS, .int .u64 (low : Int), .int .u32 (span : Int), .int .u8 (kept : Int), .int .i64 (many : Int), oS]

set_option maxHeartbeats 4000000 in
set_option maxRecDepth 100000 in
theorem move_calls {w0 w : World} {L : List Res} {wb : Nat} {pS : Value} {aO : Option Addr} {M cO : Nat} (hp1 : pS.oneCell' = true) (s : Go.Kc.Ws)
    (hO : Own w0 w (.blk wb (.cells (wC pS s.low s.span s.kept s.many (.slice aO M cO)) 128 (0,0)) :: .sl 5 1 (.slice aO M cO) M (u8s s.out) :: L))
    (hl : s.low < 8589934592) (hk : s.kept < 256) (hm1 : 1 ≤ s.many) (hM : M = s.out.length) (hmx : M + s.many ≤ 10000000) :
    Calls Tryz.prog 90 #[.pointer (some ⟨wb, 0, none⟩)] w fun e w' => ∃ a' c', e = .returned (.tuple #[]) ∧
      Own w0 w' (.blk wb (.cells (wC pS s.move.low s.span s.move.kept s.move.many (.slice a' s.move.out.length c')) 128 (0,0)) :: .sl 5 1 (.slice a' s.move.out.length c') s.move.out.length (u8s s.move.out) :: L) := by
  obtain ⟨p, low, span, kept, many, out⟩ := s
  dsimp only at *
  have HML := Lib.hid hM
  clear hM
  obtain ⟨R, hR⟩ : ∃ R, low % 16777216 = R := ⟨_, rfl⟩
  have hRl : R < 16777216 := by rw [← hR]; exact Nat.mod_lt _ (by decide)
  have e3 : bits .and .u64 (low : Int) 16777215 = (R : Int) := by
    have h := Go.bits_and_u64_nat low 16777215 (by omega) (by decide)
    rw [show (16777215 : Int) = ((16777215 : Nat) : Int) from rfl, h, show (16777215 : Nat) = 2 ^ 24 - 1 from rfl, Nat.and_two_pow_sub_one_eq_mod, show 2 ^ 24 = 16777216 from rfl, hR]
  have e4 : IntKind.u64.wrap ((R : Int) * 256) = (R : Int) * 256 := by simp [IntKind.wrap, IntKind.bits, IntKind.signed]; omega
  by_cases hc : low < 4278190080 ∨ 4294967296 ≤ low
  · obtain ⟨Kp, hKp⟩ : ∃ Kp, low / 16777216 % 256 = Kp := ⟨_, rfl⟩
    have e5 : IntKind.u8.wrap ((low : Int) / 16777216) = (Kp : Int) := by rw [IntKind.wrap_u8']; omega
    by_cases hq : low < 4294967296
    · have hlow : low < 4278190080 := by omega
      have HMV : Hid (Go.Kc.Ws.move ⟨p, low, span, kept, many, out⟩ = ⟨p, R * 256, span, Kp, 1, out ++ Go.Kc.fl kept 0 many⟩) := by
        show _ = _
        unfold Go.Kc.Ws.move
        rw [if_pos hc]
        dsimp only
        rw [hR, hKp, show low / 4294967296 = 0 by omega]
      rw [HMV.out]
      dsimp only
      rw [show (out ++ Go.Kc.fl kept 0 many).length = M + many by rw [List.length_append, Go.Kc.fl_length, HML.out]]
      have e1 : decide ((low : Int) < 4278190080) = true := by simp; omega
      have e2 : (low : Int) / 4294967296 = 0 := by omega
      go_enter Tryz.func90, Tryz.ntmps90
      go_wp2_with (first
        | ((with_reducible refine gG ?_); refine wpList_want rfl ?_)
        | ((with_reducible refine gLoad ?_); first | refine ldX hO 0 rfl rfl (tA rfl) (tS rfl) ?_ | refine ldC hO 0 rfl rfl (tA rfl) rfl ?_)
        | ((with_reducible refine gStore ?_); first | (refine stX hO 0 rfl rfl rfl rfl rfl (tS rfl) ?_; clear hO; intro ww hO) | (refine stC hO 0 rfl rfl rfl (ltb rfl) rfl (tS rfl) ?_; clear hO; intro ww hO)))
      go_loopg [3] many (fun m s3 wr => ∃ (j : Nat) (aJ : Option Addr) (cJ : Nat), m = many - j ∧ j ≤ many ∧ s3 = .int .u8 ((if j = 0 then kept else 255 : Nat) : Int) ∧
        Own w0 wr (.blk wb (.cells (wC pS low span kept (many - j) (.slice aJ (M + j) cJ)) 128 (0,0)) :: .sl 5 1 (.slice aJ (M + j) cJ) (M + j) (u8s (out ++ Go.Kc.fl kept 0 j)) :: L))
      case atStart => exact ⟨0, aO, cO, rfl, by omega, rfl, by rw [show out ++ Go.Kc.fl kept 0 0 = out from List.append_nil _]; exact hO⟩
      case round =>
        obtain ⟨j, aJ, cJ, rfl, hj, rfl, hO1⟩ := hrel
        clear hO
        have hO := hO1
        clear hO1
        obtain ⟨cv, hcv⟩ : ∃ cv : Nat, (if j = 0 then kept else 255) = cv := ⟨_, rfl⟩
        have HFL : Hid (u8s (out ++ Go.Kc.fl kept 0 (j + 1)) = u8s (out ++ Go.Kc.fl kept 0 j) ++ u8s [BitVec.ofNat 8 (cv + 0)]) := by
          show _ = _
          rw [← hcv]
          unfold u8s
          rw [← List.map_append, List.append_assoc]
          rfl
        have hcv2 : cv ≤ 255 := by rw [← hcv]; split <;> omega
        rw [hcv]
        obtain ⟨x, hx⟩ : ∃ x, BitVec.ofNat 8 (cv + 0) = x := ⟨_, rfl⟩
        have hxn : ((cv + 0 : Nat) : Int) % 256 = (x.toNat : Int) := by rw [← hx, BitVec.toNat_ofNat]; omega
        rw [hx] at HFL
        clear hcv hx
        by_cases c1 : j < many
        · obtain ⟨q, hq2⟩ : ∃ q, many - j = q + 1 := ⟨many - j - 1, by omega⟩
          rw [hq2] at hO
          have d1 : decide ((0 : Int) < ((q : Int) + 1)) = true := decide_eq_true (by omega)
          obtain rfl : cv = x.toNat := by omega
          have hx2 : IntKind.u8.wrap (x.toNat : Int) = (x.toNat : Int) := by rw [IntKind.wrap_u8']; omega
          clear hxn
          go_wp2_with (first
            | ((with_reducible refine gLoad ?_); first | refine ldX hO 0 rfl rfl (tA rfl) (tS rfl) ?_ | refine ldC hO 0 rfl rfl (tA rfl) rfl ?_ | refine ldX hO 1 rfl rfl (tA rfl) (tS rfl) ?_ | refine ldC hO 1 rfl rfl (tA rfl) rfl ?_)
            | ((with_reducible refine gBuild (T := 29) ?_); refine own_build hO 29 1 _ eu8 (u8s [x]).toArray (by omega) (by omega) (by kernel_rfl) rfl ?_; clear hO; intro g2 ww hO)
            | ((with_reducible refine gAppend ?_); refine own_append hO 2 _ _ 29 eu8 rfl rfl rfl (hO.rdAt 0 rfl) (u8s_one _) (M + (j + 1)) (by omega) (by simp [maxLen]; omega) (by omega) ?_; clear hO; intro a2 c2 ww hO)
            | ((with_reducible refine gStore ?_); first | (refine stX hO 0 rfl rfl rfl rfl rfl (tS rfl) ?_; clear hO; intro ww hO) | (refine stC hO 0 rfl rfl rfl (ltb rfl) rfl (tS rfl) ?_; clear hO; intro ww hO) | (refine stX hO 1 rfl rfl rfl rfl rfl (tS rfl) ?_; clear hO; intro ww hO) | (refine stC hO 1 rfl rfl rfl (ltb rfl) rfl (tS rfl) ?_; clear hO; intro ww hO)))
          go_roundg (many - (j + 1))
          case measure => omega
          case rel => exact ⟨j + 1, a2, c2, rfl, by omega, rfl, by rw [show many - (j + 1) = q by omega, HFL.out]; exact hO.tail⟩
        · obtain rfl : j = many := by omega
          rw [Nat.sub_self] at hO
          clear HFL
          go_wp2_with (first
            | ((with_reducible refine gLoad ?_); first | refine ldX hO 0 rfl rfl (tA rfl) (tS rfl) ?_ | refine ldC hO 0 rfl rfl (tA rfl) rfl ?_)
            | ((with_reducible refine gStore ?_); first | (refine stX hO 0 rfl rfl rfl rfl rfl (tS rfl) ?_; clear hO; intro ww hO) | (refine stC hO 0 rfl rfl rfl (ltb rfl) rfl (tS rfl) ?_; clear hO; intro ww hO)))
          refine bodyPost_end (results_none rfl _ _ _) rfl ?_
          exact ⟨aJ, cJ, rfl, hO⟩
    · have HMV : Hid (Go.Kc.Ws.move ⟨p, low, span, kept, many, out⟩ = ⟨p, R * 256, span, Kp, 1, out ++ Go.Kc.fl kept 1 many⟩) := by
        show _ = _
        unfold Go.Kc.Ws.move
        rw [if_pos hc]
        dsimp only
        rw [hR, hKp, show low / 4294967296 = 1 by omega]
      rw [HMV.out]
      dsimp only
      rw [show (out ++ Go.Kc.fl kept 1 many).length = M + many by rw [List.length_append, Go.Kc.fl_length, HML.out]]
      have e1 : decide ((low : Int) < 4278190080) = false := by simp; omega
      have e2 : (low : Int) / 4294967296 = 1 := by omega
      go_enter Tryz.func90, Tryz.ntmps90
      go_wp2_with (first
        | ((with_reducible refine gG ?_); refine wpList_want rfl ?_)
        | ((with_reducible refine gLoad ?_); first | refine ldX hO 0 rfl rfl (tA rfl) (tS rfl) ?_ | refine ldC hO 0 rfl rfl (tA rfl) rfl ?_)
        | ((with_reducible refine gStore ?_); first | (refine stX hO 0 rfl rfl rfl rfl rfl (tS rfl) ?_; clear hO; intro ww hO) | (refine stC hO 0 rfl rfl rfl (ltb rfl) rfl (tS rfl) ?_; clear hO; intro ww hO)))
      go_loopg [3] many (fun m s3 wr => ∃ (j : Nat) (aJ : Option Addr) (cJ : Nat), m = many - j ∧ j ≤ many ∧ s3 = .int .u8 ((if j = 0 then kept else 255 : Nat) : Int) ∧
        Own w0 wr (.blk wb (.cells (wC pS low span kept (many - j) (.slice aJ (M + j) cJ)) 128 (0,0)) :: .sl 5 1 (.slice aJ (M + j) cJ) (M + j) (u8s (out ++ Go.Kc.fl kept 1 j)) :: L))
      case atStart => exact ⟨0, aO, cO, rfl, by omega, rfl, by rw [show out ++ Go.Kc.fl kept 1 0 = out from List.append_nil _]; exact hO⟩
      case round =>
        obtain ⟨j, aJ, cJ, rfl, hj, rfl, hO1⟩ := hrel
        clear hO
        have hO := hO1
        clear hO1
        obtain ⟨cv, hcv⟩ : ∃ cv : Nat, (if j = 0 then kept else 255) = cv := ⟨_, rfl⟩
        have HFL : Hid (u8s (out ++ Go.Kc.fl kept 1 (j + 1)) = u8s (out ++ Go.Kc.fl kept 1 j) ++ u8s [BitVec.ofNat 8 (cv + 1)]) := by
          show _ = _
          rw [← hcv]
          unfold u8s
          rw [← List.map_append, List.append_assoc]
          rfl
        have hcv2 : cv ≤ 255 := by rw [← hcv]; split <;> omega
        rw [hcv]
        obtain ⟨x, hx⟩ : ∃ x, BitVec.ofNat 8 (cv + 1) = x := ⟨_, rfl⟩
        have hxn : ((cv + 1 : Nat) : Int) % 256 = (x.toNat : Int) := by rw [← hx, BitVec.toNat_ofNat]; omega
        rw [hx] at HFL
        clear hcv hx
        by_cases c1 : j < many
        · obtain ⟨q, hq2⟩ : ∃ q, many - j = q + 1 := ⟨many - j - 1, by omega⟩
          rw [hq2] at hO
          have d1 : decide ((0 : Int) < ((q : Int) + 1)) = true := decide_eq_true (by omega)
          have hx1 : IntKind.u8.wrap ((cv : Int) + 1) = (x.toNat : Int) := by rw [IntKind.wrap_u8']; omega
          go_wp2_with (first
            | ((with_reducible refine gLoad ?_); first | refine ldX hO 0 rfl rfl (tA rfl) (tS rfl) ?_ | refine ldC hO 0 rfl rfl (tA rfl) rfl ?_ | refine ldX hO 1 rfl rfl (tA rfl) (tS rfl) ?_ | refine ldC hO 1 rfl rfl (tA rfl) rfl ?_)
            | ((with_reducible refine gBuild (T := 29) ?_); refine own_build hO 29 1 _ eu8 (u8s [x]).toArray (by omega) (by omega) (by kernel_rfl) rfl ?_; clear hO; intro g2 ww hO)
            | ((with_reducible refine gAppend ?_); refine own_append hO 2 _ _ 29 eu8 rfl rfl rfl (hO.rdAt 0 rfl) (u8s_one _) (M + (j + 1)) (by omega) (by simp [maxLen]; omega) (by omega) ?_; clear hO; intro a2 c2 ww hO)
            | ((with_reducible refine gStore ?_); first | (refine stX hO 0 rfl rfl rfl rfl rfl (tS rfl) ?_; clear hO; intro ww hO) | (refine stC hO 0 rfl rfl rfl (ltb rfl) rfl (tS rfl) ?_; clear hO; intro ww hO) | (refine stX hO 1 rfl rfl rfl rfl rfl (tS rfl) ?_; clear hO; intro ww hO) | (refine stC hO 1 rfl rfl rfl (ltb rfl) rfl (tS rfl) ?_; clear hO; intro ww hO)))
          go_roundg (many - (j + 1))
          case measure => omega
          case rel => exact ⟨j + 1, a2, c2, rfl, by omega, rfl, by rw [show many - (j + 1) = q by omega, HFL.out]; exact hO.tail⟩
        · obtain rfl : j = many := by omega
          rw [Nat.sub_self] at hO
          clear HFL
          go_wp2_with (first
            | ((with_reducible refine gLoad ?_); first | refine ldX hO 0 rfl rfl (tA rfl) (tS rfl) ?_ | refine ldC hO 0 rfl rfl (tA rfl) rfl ?_)
            | ((with_reducible refine gStore ?_); first | (refine stX hO 0 rfl rfl rfl rfl rfl (tS rfl) ?_; clear hO; intro ww hO) | (refine stC hO 0 rfl rfl rfl (ltb rfl) rfl (tS rfl) ?_; clear hO; intro ww hO)))
          refine bodyPost_end (results_none rfl _ _ _) rfl ?_
          exact ⟨aJ, cJ, rfl, hO⟩
  · have HMV : Hid (Go.Kc.Ws.move ⟨p, low, span, kept, many, out⟩ = ⟨p, R * 256, span, kept, many + 1, out⟩) := by
      show _ = _
      unfold Go.Kc.Ws.move
      rw [if_neg hc]
      dsimp only
      rw [hR]
    rw [HMV.out]
    dsimp only
    have e1 : decide ((low : Int) < 4278190080) = false := by simp; omega
    have e2 : (low : Int) / 4294967296 = 0 := by omega
    obtain rfl := HML.out
    clear HML
    go_enter Tryz.func90, Tryz.ntmps90
    go_wp2_with (first
      | ((with_reducible refine gG ?_); refine wpList_want rfl ?_)
      | ((with_reducible refine gLoad ?_); first | refine ldX hO 0 rfl rfl (tA rfl) (tS rfl) ?_ | refine ldC hO 0 rfl rfl (tA rfl) rfl ?_)
      | ((with_reducible refine gStore ?_); first | (refine stX hO 0 rfl rfl rfl rfl rfl (tS rfl) ?_; clear hO; intro ww hO) | (refine stC hO 0 rfl rfl rfl (ltb rfl) rfl (tS rfl) ?_; clear hO; intro ww hO)))
    refine bodyPost_end (results_none rfl _ _ _) rfl ?_
    exact ⟨aO, cO, rfl, hO⟩
end Go.Proofs.YtniibdglodnhoaaGreatDoor
