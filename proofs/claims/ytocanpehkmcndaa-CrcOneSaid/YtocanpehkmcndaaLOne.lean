/- The walk of CrcOne. -/
import Derived.Test.YtocanpehkmcndaaL
namespace Go.Proofs.Ytocanpehkmcndaa
open Go.RowKit Go.Own Go.Bv Go.Ord Go.Eq

def sealL (bs : List (BitVec 8)) : List (BitVec 8) := bs ++ octs4 (Crc.sum bs)
theorem sealL_length (bs : List (BitVec 8)) : (sealL bs).length = bs.length + 4 := by simp [sealL, octs4]

theorem openOk_seal (bs : List (BitVec 8)) : openOk (sealL bs) = true := by
  unfold openOk sealL
  have h1 : (bs ++ octs4 (Crc.sum bs)).length - 4 = bs.length := by simp [octs4]
  rw [h1, List.take_left, List.drop_left]
  simp [octs4]
theorem open_seal (bs : List (BitVec 8)) : openT (sealL bs) = bs ∧ openE (sealL bs) = 0 := by
  unfold openT openE
  rw [openOk_seal, sealL_length, if_pos rfl, if_neg (by omega), if_pos rfl]
  exact ⟨by simp [sealL], rfl⟩

theorem openOk_changed (bs : List (BitVec 8)) (k : Nat) (c : BitVec 8) (hk : k < (sealL bs).length) (hc : (sealL bs)[k] ≠ c) : openOk ((sealL bs).set k c) = false := by
  have hl := sealL_length bs
  cases h : openOk ((sealL bs).set k c) with
  | false => rfl
  | true =>
    exfalso
    unfold openOk at h
    simp only [decide_eq_true_eq, List.length_set, hl] at h
    obtain ⟨_, h⟩ := h
    rw [show bs.length + 4 - 4 = bs.length by omega] at h
    unfold sealL at h hk hc
    by_cases hlt : k < bs.length
    · rw [List.set_append_left _ _ hlt] at h
      rw [show bs.length = (bs.set k c).length by simp, List.take_left, List.drop_left] at h
      have h1 := Crc.octs4_inj h
      have h2 := Crc.sum_set hlt h1
      rw [List.getElem_append_left hlt] at hc
      exact hc h2.symm
    · rw [List.set_append_right _ _ (by omega)] at h
      rw [List.take_left, List.drop_left] at h
      have hk4 : k - bs.length < (octs4 (Crc.sum bs)).length := by simp at hk; omega
      rw [List.getElem_append_right (by omega)] at hc
      have := congrArg (fun l => l[k - bs.length]?) h
      simp only [List.getElem?_set_self hk4, List.getElem?_eq_getElem hk4, Option.some.injEq] at this
      exact hc this
theorem open_changed (bs : List (BitVec 8)) (k : Nat) (c : BitVec 8) (hk : k < (sealL bs).length) (hc : (sealL bs)[k] ≠ c) : openT ((sealL bs).set k c) = [] ∧ openE ((sealL bs).set k c) = 7 := by
  have hl := sealL_length bs
  unfold openT openE
  rw [openOk_changed bs k c hk hc]
  simp [hl]

theorem step_both (r s : BitVec 32) (bs : List (BitVec 8)) : ∃ R S : BitVec 32, Crc.step r bs = R ∧ Crc.step s bs = S ∧ ((R.toNat : Int) == (S.toNat : Int)) = ((r.toNat : Int) == (s.toNat : Int)) := by
  refine ⟨_, _, rfl, rfl, ?_⟩
  rw [Bool.eq_iff_iff]
  simp only [beq_iff_eq]
  constructor
  · intro h
    have h1 : Crc.step r bs = Crc.step s bs := BitVec.eq_of_toNat_eq (by omega)
    rw [Crc.step_inj bs h1]
  · intro h
    have h1 : r = s := BitVec.eq_of_toNat_eq (by omega)
    rw [h1]

set_option maxHeartbeats 1000000 in
set_option maxRecDepth 100000 in
theorem one_in (a : Option Addr) (n cap : Nat) (bs : List (BitVec 8)) (k : Nat) (c : BitVec 8) (r s : BitVec 32) (w : World) (hR : Rd w 1 a n cap (u8s bs)) (h5 : n ≤ 500) (hk : k < n + 4) :
    Calls Try.prog 6 #[.slice a n cap, .int .i64 (k : Int), .int .u8 (c.toNat : Int), .int .u32 (r.toNat : Int), .int .u32 (s.toNat : Int)] w fun e w' => e = .returned (.bool true) ∧ Below w.heap.size w w' := by
  have hO := Own.start w
  have hlen : bs.length = n := by have := hR.len; rw [u8s_length] at this; omega
  have HL := Lib.hid hlen
  have HR := Lib.hid hR
  clear hR hlen
  obtain ⟨R, S, hR1, hS1, hRS⟩ := step_both r s bs
  have HR1 := Lib.hid hR1
  have HS1 := Lib.hid hS1
  clear hR1 hS1
  obtain ⟨B, hB1, hB2⟩ : ∃ B : Bool, ((R.toNat : Int) == (S.toNat : Int)) = B ∧ ((r.toNat : Int) == (s.toNat : Int)) = B := ⟨_, hRS, rfl⟩
  clear hRS
  have HE := Lib.hid (open_seal bs).2
  have HT := Lib.hid (open_seal bs).1
  generalize hW : w = wn at hO HR ⊢
  clear hW w
  have hkl : k < (sealL bs).length := by rw [sealL_length, HL.out]; exact hk
  have HG := Lib.hid (u8s_get (sealL bs) k hkl)
  have HC : Hid ((sealL bs)[k] ≠ c → openT ((sealL bs).set k c) = [] ∧ openE ((sealL bs).set k c) = 7) := fun h => open_changed bs k c hkl h
  generalize (sealL bs)[k] = tk at HG HC
  by_cases htk : tk = c
  · subst htk
    have b3 : ((tk.toNat : Int) == (tk.toNat : Int)) = true := by simp
    clear HC
    go_enter Try.func6, Try.ntmps6
    go_wp2_with (first
      | (go_at_call 8; refine (live_calls _).mono ?_; rintro e w1 ⟨rfl, hb⟩; replace hO := hO.call hb; clear hb)
      | (go_at_call 10; refine (seal_calls _ _ _ bs _ (hO.rd HR.out) (by omega)).mono ?_; rintro e w2 ⟨a', c', rfl, hb, hr⟩; replace hO := hO.addRow hb hr; clear hb hr; obtain ⟨g, c9, he, _, _⟩ := hO.slForm 0 rfl (by omega); injection he with he1 _ he3; subst he1 he3)
      | (go_at_call 11; (with_reducible refine gCall #[.slice _ (n + 4) _] ?_); refine (open_calls _ _ _ (sealL bs) _ (hO.rdAt 0 rfl) (by omega)).mono ?_; rw [HE.out, HT.out]; rintro e w3 ⟨a2, c2, rfl, hb, hr⟩; replace hO := hO.addRow hb hr; clear hb hr)
      | (go_at_call 16; refine (same_calls _ _ _ _ _ _ bs bs _ (hO.rdAt 0 rfl) (hO.rd HR.out)).mono ?_; rw [decide_eq_true rfl]; rintro e w4 ⟨rfl, rfl⟩)
      | (go_at_call 13; (with_reducible refine gCall #[.int .u32 (r.toNat : Int), _] ?_); refine (step_calls r _ _ _ bs _ (hO.rd HR.out)).mono ?_; rw [HR1.out]; rintro e w5 ⟨rfl, hb⟩; replace hO := hO.call hb; clear hb)
      | (go_at_call 13; (with_reducible refine gCall #[.int .u32 (s.toNat : Int), _] ?_); refine (step_calls s _ _ _ bs _ (hO.rd HR.out)).mono ?_; rw [HS1.out]; rintro e w6 ⟨rfl, hb⟩; replace hO := hO.call hb; clear hb; have hcell : w6.cell? ⟨g, k, none⟩ = some (.int .u8 (tk.toNat : Int)) := (hO.slCell 1 rfl (by omega)).trans HG.out))
    go_ret
    exact ⟨rfl, hO.below⟩
  · have b3 : ((tk.toNat : Int) == (c.toNat : Int)) = false := by
      simp only [beq_eq_false_iff_ne, ne_eq]
      intro h
      exact htk (BitVec.eq_of_toNat_eq (by omega))
    obtain ⟨hc1, hc2⟩ := HC.out htk
    have HC1 := Lib.hid hc1
    have HC2 := Lib.hid hc2
    clear HC hc1 hc2
    have HS : Hid ((u8s (sealL bs)).set k (.int .u8 (c.toNat : Int)) = u8s ((sealL bs).set k c)) := by show _ = _; simp [u8s]
    go_enter Try.func6, Try.ntmps6
    go_wp2_with (first
      | ((with_reducible refine gStore ?_); refine own_setElem hO 1 5 _ _ _ rfl rfl rfl (by omega) iu8s rfl ?_; clear hO hcell; intro w7 hO)
      | (go_at_call 11; have _t := w7; refine (open_calls _ _ _ ((sealL bs).set k c) _ (by have := hO.rdAt 1 rfl; rw [← HS.out]; exact this) (by omega)).mono ?_; rw [HC1.out, HC2.out]; rintro e w8 ⟨a3, c3, rfl, hb, hr⟩; replace hO := hO.addRow hb hr; clear hb hr)
      | (go_at_call 8; refine (live_calls _).mono ?_; rintro e w1 ⟨rfl, hb⟩; replace hO := hO.call hb; clear hb)
      | (go_at_call 10; refine (seal_calls _ _ _ bs _ (hO.rd HR.out) (by omega)).mono ?_; rintro e w2 ⟨a', c', rfl, hb, hr⟩; replace hO := hO.addRow hb hr; clear hb hr; obtain ⟨g, c9, he, _, _⟩ := hO.slForm 0 rfl (by omega); injection he with he1 _ he3; subst he1 he3)
      | (go_at_call 11; (with_reducible refine gCall #[.slice _ (n + 4) _] ?_); refine (open_calls _ _ _ (sealL bs) _ (hO.rdAt 0 rfl) (by omega)).mono ?_; rw [HE.out, HT.out]; rintro e w3 ⟨a2, c2, rfl, hb, hr⟩; replace hO := hO.addRow hb hr; clear hb hr)
      | (go_at_call 16; refine (same_calls _ _ _ _ _ _ bs bs _ (hO.rdAt 0 rfl) (hO.rd HR.out)).mono ?_; rw [decide_eq_true rfl]; rintro e w4 ⟨rfl, rfl⟩)
      | (go_at_call 13; (with_reducible refine gCall #[.int .u32 (r.toNat : Int), _] ?_); refine (step_calls r _ _ _ bs _ (hO.rd HR.out)).mono ?_; rw [HR1.out]; rintro e w5 ⟨rfl, hb⟩; replace hO := hO.call hb; clear hb)
      | (go_at_call 13; (with_reducible refine gCall #[.int .u32 (s.toNat : Int), _] ?_); refine (step_calls s _ _ _ bs _ (hO.rd HR.out)).mono ?_; rw [HS1.out]; rintro e w6 ⟨rfl, hb⟩; replace hO := hO.call hb; clear hb; have hcell : w6.cell? ⟨g, k, none⟩ = some (.int .u8 (tk.toNat : Int)) := (hO.slCell 1 rfl (by omega)).trans HG.out))
    go_ret
    exact ⟨rfl, hO.below⟩

set_option maxHeartbeats 1000000 in
set_option maxRecDepth 100000 in
theorem one_out (a : Option Addr) (n cap : Nat) (bs : List (BitVec 8)) (at_ : Int) (c : BitVec 8) (r s : BitVec 32) (w : World) (hR : Rd w 1 a n cap (u8s bs)) (h5 : n ≤ 500) (hk : at_ < 0 ∨ (n : Int) + 4 ≤ at_) :
    Calls Try.prog 6 #[.slice a n cap, .int .i64 at_, .int .u8 (c.toNat : Int), .int .u32 (r.toNat : Int), .int .u32 (s.toNat : Int)] w fun e w' => e = .returned (.bool true) ∧ Below w.heap.size w w' := by
  have hO := Own.start w
  have hlen : bs.length = n := by have := hR.len; rw [u8s_length] at this; omega
  have HL := Lib.hid hlen
  have HR := Lib.hid hR
  clear hR hlen
  obtain ⟨R, S, hR1, hS1, hRS⟩ := step_both r s bs
  have HR1 := Lib.hid hR1
  have HS1 := Lib.hid hS1
  clear hR1 hS1
  obtain ⟨B, hB1, hB2⟩ : ∃ B : Bool, ((R.toNat : Int) == (S.toNat : Int)) = B ∧ ((r.toNat : Int) == (s.toNat : Int)) = B := ⟨_, hRS, rfl⟩
  clear hRS
  have HE := Lib.hid (open_seal bs).2
  have HT := Lib.hid (open_seal bs).1
  generalize hW : w = wn at hO HR ⊢
  clear hW w
  rcases hk with hk | hk
  all_goals
    go_enter Try.func6, Try.ntmps6
    go_wp2_with (first
      | (go_at_call 8; refine (live_calls _).mono ?_; rintro e w1 ⟨rfl, hb⟩; replace hO := hO.call hb; clear hb)
      | (go_at_call 10; refine (seal_calls _ _ _ bs _ (hO.rd HR.out) (by omega)).mono ?_; rintro e w2 ⟨a', c', rfl, hb, hr⟩; replace hO := hO.addRow hb hr; clear hb hr; obtain ⟨g, c9, he, _, _⟩ := hO.slForm 0 rfl (by omega); injection he with he1 _ he3; subst he1 he3)
      | (go_at_call 11; (with_reducible refine gCall #[.slice _ (n + 4) _] ?_); refine (open_calls _ _ _ (sealL bs) _ (hO.rdAt 0 rfl) (by omega)).mono ?_; rw [HE.out, HT.out]; rintro e w3 ⟨a2, c2, rfl, hb, hr⟩; replace hO := hO.addRow hb hr; clear hb hr)
      | (go_at_call 16; refine (same_calls _ _ _ _ _ _ bs bs _ (hO.rdAt 0 rfl) (hO.rd HR.out)).mono ?_; rw [decide_eq_true rfl]; rintro e w4 ⟨rfl, rfl⟩)
      | (go_at_call 13; (with_reducible refine gCall #[.int .u32 (r.toNat : Int), _] ?_); refine (step_calls r _ _ _ bs _ (hO.rd HR.out)).mono ?_; rw [HR1.out]; rintro e w5 ⟨rfl, hb⟩; replace hO := hO.call hb; clear hb)
      | (go_at_call 13; (with_reducible refine gCall #[.int .u32 (s.toNat : Int), _] ?_); refine (step_calls s _ _ _ bs _ (hO.rd HR.out)).mono ?_; rw [HS1.out]; rintro e w6 ⟨rfl, hb⟩; replace hO := hO.call hb; clear hb))
    go_ret
    exact ⟨rfl, hO.below⟩

set_option maxHeartbeats 1000000 in
theorem one_walk (a : Option Addr) (n cap : Nat) (bs : List (BitVec 8)) (at_ : Int) (c : BitVec 8) (r s : BitVec 32) (w : World) (hR : Rd w 1 a n cap (u8s bs)) :
    Calls Try.prog 6 #[.slice a n cap, .int .i64 at_, .int .u8 (c.toNat : Int), .int .u32 (r.toNat : Int), .int .u32 (s.toNat : Int)] w fun e w' => e = .returned (.bool true) ∧ Below w.heap.size w w' := by
  by_cases h5 : n ≤ 500
  · by_cases h1 : at_ < 0
    · exact one_out a n cap bs at_ c r s w hR h5 (.inl h1)
    · by_cases h2 : (n : Int) + 4 ≤ at_
      · exact one_out a n cap bs at_ c r s w hR h5 (.inr h2)
      · obtain ⟨k, rfl⟩ : ∃ k : Nat, at_ = (k : Int) := ⟨at_.toNat, by omega⟩
        exact one_in a n cap bs k c r s w hR h5 (by omega)
  · have hO := Own.start w
    clear hR
    generalize hW : w = wn at hO ⊢
    clear hW w
    go_enter Try.func6, Try.ntmps6
    go_wp2_with (go_at_call 8; refine (live_calls _).mono ?_; rintro e w1 ⟨rfl, hb⟩; replace hO := hO.call hb; clear hb)
    go_ret
    exact ⟨rfl, hO.below⟩
end Go.Proofs.Ytocanpehkmcndaa
