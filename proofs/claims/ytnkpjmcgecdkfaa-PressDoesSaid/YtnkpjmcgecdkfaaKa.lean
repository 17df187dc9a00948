/- The coder, plain: what is read of any text by any list of places; the document's writer. No program in sight. -/
import Derived.Test.YtnkpjmcgecdkfaaKq
namespace Go.Kc
/-- why a place is not read (0: it is) -/
def nxtE (n : Nat) (b : List (BitVec 8)) (r : Rr) (x : Int) : Int :=
  if 0 ≤ x ∧ x < (n : Int) then (if (r.mid x.toNat).span < 16777216 ∧ b.length ≤ r.used then 2 else 0) else 4
structure Rs where
  q : List Bool
  r : Rr
  e : Int
def Rs.step (n : Nat) (b : List (BitVec 8)) (s : Rs) (x : Int) : Rs :=
  if s.e = 0 then (if nxtE n b s.r x = 0 then ⟨s.q ++ [s.r.set x.toNat], s.r.next b x.toNat, 0⟩ else ⟨s.q, s.r, nxtE n b s.r x⟩) else s
def rdS (n : Nat) (b : List (BitVec 8)) (l : List Int) : Rs := l.foldl (Rs.step n b) ⟨[], open_ n b, 0⟩
theorem rdS_snoc (n : Nat) (b : List (BitVec 8)) (l : List Int) (x : Int) : rdS n b (l ++ [x]) = (rdS n b l).step n b x := by simp [rdS]
theorem rdS_next (n : Nat) (b : List (BitVec 8)) (l : List Int) (k : Nat) (hk : k < l.length) : rdS n b (l.take (k + 1)) = (rdS n b (l.take k)).step n b l[k] := by
  rw [List.take_succ_eq_append_getElem hk, rdS_snoc]
theorem step_stuck {n : Nat} {b : List (BitVec 8)} {s : Rs} (h : s.e ≠ 0) : ∀ l : List Int, l.foldl (Rs.step n b) s = s
  | [] => rfl
  | x :: l => by
    have e : s.step n b x = s := by unfold Rs.step; rw [if_neg h]
    rw [List.foldl_cons, e]; exact step_stuck h l
theorem rdS_stuck {n : Nat} {b : List (BitVec 8)} {l : List Int} {k : Nat} (h : (rdS n b (l.take k)).e ≠ 0) : rdS n b l = rdS n b (l.take k) := by
  have e : l = l.take k ++ l.drop k := (List.take_append_drop k l).symm
  conv => lhs; rw [e]
  unfold rdS at *
  rw [List.foldl_append]
  exact step_stuck h _
theorem nxtE_ok {n : Nat} {b : List (BitVec 8)} {r : Rr} {x : Int} (h : nxtE n b r x = 0) : ∃ a : Nat, x = (a : Int) ∧ a < n ∧ r.may b a := by
  unfold nxtE at h
  split at h
  · rename_i h1
    split at h
    · cases h
    · rename_i h2
      refine ⟨x.toNat, by omega, by omega, ?_⟩
      rw [may_iff]; exact h2
  · cases h
theorem nxtE_cases (n : Nat) (b : List (BitVec 8)) (r : Rr) (x : Int) : (nxtE n b r x = 0) ∨ (nxtE n b r x = 2 ∧ ∃ a : Nat, x = (a : Int) ∧ a < n ∧ ¬ r.may b a) ∨ (nxtE n b r x = 4 ∧ (x < 0 ∨ (n : Int) ≤ x)) := by
  unfold nxtE
  split
  · rename_i h1
    split
    · rename_i h2
      exact .inr (.inl ⟨rfl, x.toNat, by omega, by omega, by rw [may_iff]; exact fun h => h h2⟩)
    · exact .inl rfl
  · exact .inr (.inr ⟨rfl, by omega⟩)
theorem rok_rdS {n : Nat} {b : List (BitVec 8)} (ho : mayOpen b) (l : List Int) : ∀ k, k ≤ l.length → Rok n b (rdS n b (l.take k)).r
  | 0, _ => by rw [List.take_zero]; exact rok_open ho
  | k + 1, hk => by
    have ih : Rok n b (rdS n b (l.take k)).r := rok_rdS ho l k (by omega)
    rw [rdS_next n b l k (by omega)]
    unfold Rs.step
    split
    · split
      · rename_i h
        obtain ⟨a, e, ha, hm⟩ := nxtE_ok h
        dsimp only
        rw [e, Int.toNat_natCast]
        exact rok_next ih ha hm
      · exact ih
    · exact ih
theorem rdS_len {n : Nat} {b : List (BitVec 8)} (l : List Int) : ∀ k, k ≤ l.length → (rdS n b (l.take k)).e = 0 → (rdS n b (l.take k)).q.length = k
  | 0, _, _ => by rw [List.take_zero]; rfl
  | k + 1, hk, h => by
    rw [rdS_next n b l k (by omega)] at h ⊢
    unfold Rs.step at h ⊢
    split at h
    · rename_i h0
      rw [if_pos h0]
      split at h
      · rename_i h1
        rw [if_pos h1]
        simp [rdS_len l k (by omega) h0]
      · rename_i h1; exact absurd h h1
    · rename_i h0; exact absurd h h0
instance (b : List (BitVec 8)) : Decidable (mayOpen b) := by unfold mayOpen; infer_instance
/-- why a text is not begun to be read -/
def opE (x : Int) (b : List (BitVec 8)) : Int := if 0 ≤ x ∧ x ≤ 1024 then (if mayOpen b then 0 else 2) else 1
def decE (x : Int) (b : List (BitVec 8)) (l : List Int) : Int := if opE x b = 0 then (rdS x.toNat b l).e else opE x b
def decQ (x : Int) (b : List (BitVec 8)) (l : List Int) : List Bool := if decE x b l = 0 then (rdS x.toNat b l).q else []
def decU (x : Int) (b : List (BitVec 8)) (l : List Int) : Nat := if decE x b l = 0 then (rdS x.toNat b l).r.used else 0
theorem opE_ok {x : Int} {b : List (BitVec 8)} (h : opE x b = 0) : ∃ n : Nat, x = (n : Int) ∧ n ≤ 1024 ∧ mayOpen b := by
  unfold opE at h
  split at h
  · split at h
    · exact ⟨x.toNat, by omega, by omega, by assumption⟩
    · cases h
  · cases h

/-! ### the document's writer -/
/-- one more -/
theorem val_zeros (l : List (BitVec 8)) (j : Nat) : val (l ++ List.replicate j 0#8) = val l * 256 ^ j := by
  induction j with
  | zero => simp
  | succ j ih =>
    rw [List.replicate_succ', ← List.append_assoc, val_snoc, ih, Nat.pow_succ]
    simp only [BitVec.toNat_ofNat, Nat.zero_mod, Nat.add_zero]
    rw [Nat.mul_comm 256, Nat.mul_assoc]
/-- what the loop keeps: j octets at the end are 0 already -/
theorem more_hit {b : List (BitVec 8)} {n j : Nat} (hn : b.length = n) (hj : j < n) (h : val b + 1 = (val (b.take (n - j)) + 1) * 256 ^ j) (hx : (b[n - j - 1]'(by omega)).toNat < 255) :
    b.take (n - j - 1) ++ [b[n - j - 1]'(by omega) + 1#8] ++ List.replicate j 0#8 = be n (val b + 1) := by
  have e1 : (b.take (n - j - 1) ++ [b[n - j - 1]'(by omega) + 1#8] ++ List.replicate j 0#8).length = n := by simp; omega
  have e2 : val (b.take (n - j - 1) ++ [b[n - j - 1]'(by omega) + 1#8] ++ List.replicate j 0#8) = val b + 1 := by
    rw [val_zeros, h]
    congr 1
    have e : n - j = (n - j - 1) + 1 := by omega
    conv => rhs; rw [e, List.take_succ_eq_append_getElem (by omega), val_snoc]
    rw [val_snoc, BitVec.toNat_add, Nat.mod_eq_of_lt (by simp; omega)]
    simp; omega
  have e3 := be_val (b.take (n - j - 1) ++ [b[n - j - 1]'(by omega) + 1#8] ++ List.replicate j 0#8)
  rw [e1, e2] at e3
  exact e3.symm
theorem more_miss {b : List (BitVec 8)} {n j : Nat} (hn : b.length = n) (hj : j < n) (h : val b + 1 = (val (b.take (n - j)) + 1) * 256 ^ j) (hx : ¬ (b[n - j - 1]'(by omega)).toNat < 255) :
    val b + 1 = (val (b.take (n - (j + 1))) + 1) * 256 ^ (j + 1) := by
  rw [h]
  have e : n - j = (n - j - 1) + 1 := by omega
  rw [e, List.take_succ_eq_append_getElem (by omega), val_snoc]
  have := (b[n - j - 1]'(by omega)).isLt
  have hx2 : (b[n - j - 1]'(by omega)).toNat = 255 := by omega
  rw [hx2, Nat.pow_succ, show n - (j + 1) = n - j - 1 by omega]
  rw [Nat.mul_comm (256 ^ j) 256, ← Nat.mul_assoc]
  congr 1
  omega
theorem more_end {b : List (BitVec 8)} {n : Nat} (hn : b.length = n) (h : val b + 1 = (val (b.take (n - n)) + 1) * 256 ^ n) : List.replicate n 0#8 = be n (val b + 1) := by
  rw [Nat.sub_self, List.take_zero] at h
  have : val ([] : List (BitVec 8)) = 0 := rfl
  rw [this, Nat.zero_add, Nat.one_mul] at h
  rw [h]
  have e := be_mod n (256 ^ n)
  rw [Nat.mod_self] at e
  rw [← e]
  have h2 := be_val (List.replicate n 0#8)
  have h3 : val (List.replicate n 0#8) = 0 := by
    have := val_zeros [] n
    rw [List.nil_append] at this
    rw [this]; exact Nat.zero_mul _
  rw [List.length_replicate, h3] at h2
  exact h2.symm
theorem rc_room {n : Nat} {l : List (Nat × Bool)} (hw : within n l) : (enc n l).V + (enc n l).span ≤ 4294967296 * 256 ^ (enc n l).k := by
  have hw' : within (Kc.start n).p.length l := by rw [start_len]; exact hw
  obtain ⟨_, h2, _⟩ := run_facts (start_good n) hw'
  have h := h2.hi
  have e1 : (Kc.start n).k = 0 := rfl
  have e2 : (Kc.start n).V = 0 := rfl
  have e3 : (Kc.start n).span = 4294967295 := rfl
  rw [e1, e2, e3, Nat.sub_zero] at h
  exact Nat.le_trans h (Nat.mul_le_mul_right _ (by omega))
/-- an octet more behind a text -/
theorem be_more (k V : Nat) : be (1 + k) (V / 4294967296) ++ [BitVec.ofNat 8 (V % 4294967296 / 16777216)] = be (1 + (k + 1)) (V * 256 / 4294967296) := by
  have e : 1 + (k + 1) = (1 + k) + 1 := by omega
  rw [e, be]
  have e1 : V * 256 / 4294967296 / 256 = V / 4294967296 := by omega
  rw [e1]
  congr 2
  apply BitVec.eq_of_toNat_eq
  rw [BitVec.toNat_ofNat, BitVec.toNat_ofNat, show 2 ^ 8 = 256 from rfl]
  omega
end Go.Kc
