/- The reader: what holds of it all along; what is read of a text by a list of places. No program in sight. -/
import Derived.Test.YtnkpjmcgecdkfaaKe
namespace Go.Kc
structure Rok (n : Nat) (b : List (BitVec 8)) (r : Rr) : Prop where
  len : r.p.length = n
  may : r.p.all mayB = true
  lo : 16777216 ≤ r.span
  hi : r.span < 4294967296
  code : r.code < r.span
  used : r.used ≤ b.length
theorem rok_open {n : Nat} {b : List (BitVec 8)} (h : mayOpen b) : Rok n b (open_ n b) := by
  obtain ⟨h1, _, h3⟩ := h
  have hv := val_lt ((b.drop 1).take 4)
  have hl : ((b.drop 1).take 4).length = 4 := by simp; omega
  rw [hl] at hv
  refine ⟨by simp [open_], by simp only [open_]; rw [List.all_replicate]; simp [mayB], by simp only [open_]; decide, by simp only [open_]; decide, ?_, h1⟩
  show val ((b.drop 1).take 4) < 4294967295
  have h4 : (256 : Nat) ^ 4 = 4294967296 := by decide
  rw [h4] at hv
  generalize val ((b.drop 1).take 4) = v at *
  omega
theorem rok_part {n : Nat} {b : List (BitVec 8)} {r : Rr} (h : Rok n b r) {a : Nat} (ha : a < n) : 253952 ≤ r.part a ∧ r.part a + 253952 ≤ r.span := by
  have g : Rc.Good ⟨r.p, 0, r.span, 0⟩ := ⟨h.may, h.lo, h.hi⟩
  obtain ⟨b1, b2, _⟩ := part_bounds g (a := a) (by rw [show (Rc.mk r.p 0 r.span 0).p = r.p from rfl, h.len]; exact ha)
  exact ⟨b1, b2⟩
theorem rok_mid {n : Nat} {b : List (BitVec 8)} {r : Rr} (h : Rok n b r) {a : Nat} (ha : a < n) : (r.mid a).code < (r.mid a).span ∧ 253952 ≤ (r.mid a).span ∧ (r.mid a).span < 4294967296 ∧ (r.mid a).p.length = n ∧ (r.mid a).p.all mayB = true := by
  obtain ⟨b1, b2⟩ := rok_part h ha
  have h1 := h.code
  have h2 := h.hi
  refine ⟨?_, ?_, ?_, by simp only [Rr.mid, List.length_set]; exact h.len, ?_⟩
  · simp only [Rr.mid]
    cases hs : r.set a
    · have := of_decide_eq_false hs
      simp; omega
    · have := of_decide_eq_true hs
      simp; omega
  · simp only [Rr.mid]; cases r.set a <;> simp <;> omega
  · simp only [Rr.mid]; cases r.set a <;> simp <;> omega
  · exact all_set h.may (may_learn _ (all_get h.may (by rw [h.len]; exact ha)))
theorem rok_next {n : Nat} {b : List (BitVec 8)} {r : Rr} (h : Rok n b r) {a : Nat} (ha : a < n) (hm : r.may b a) : Rok n b (r.next b a) := by
  obtain ⟨m1, m2, m3, m4, m5⟩ := rok_mid h ha
  have hu := h.used
  have hmu : (r.mid a).used = r.used := rfl
  unfold Rr.next Rr.norm
  split
  · rename_i hlt
    have hlen := hm hlt
    have hx := (b.getD r.used 0).isLt
    refine ⟨m4, m5, by dsimp only; omega, by dsimp only; omega, ?_, by dsimp only; omega⟩
    dsimp only
    rw [hmu]
    generalize (b.getD r.used 0).toNat = x at *
    omega
  · exact ⟨m4, m5, by omega, m3, m1, by rw [hmu]; exact hu⟩

/-- what is read, place by place: the bits, the state behind, or what stops it -/
def readN (n : Nat) (b : List (BitVec 8)) : Rr → List Int → Except Int (List Bool × Rr)
  | r, [] => .ok ([], r)
  | r, x :: l =>
    if 0 ≤ x ∧ x < (n : Int) then
      (if (r.mid x.toNat).span < 16777216 ∧ b.length ≤ r.used then .error 2 else
        match readN n b (r.next b x.toNat) l with
        | .ok (q, t) => .ok (r.set x.toNat :: q, t)
        | .error e => .error e)
    else .error 4
theorem may_iff {r : Rr} {b : List (BitVec 8)} {a : Nat} : r.may b a ↔ ¬ ((r.mid a).span < 16777216 ∧ b.length ≤ r.used) := by
  unfold Rr.may
  constructor
  · rintro h ⟨h1, h2⟩
    have := h h1
    omega
  · intro h h1
    by_cases h2 : r.used < b.length
    · exact h2
    · exact absurd ⟨h1, by omega⟩ h
end Go.Kc
