/- The tokens of a text that is one octet again and again. No program in sight. -/
import Derived.Test.YtnkpjmcgecdkfaaMm
namespace Go.Mt
theorem rep_get (n : Nat) (c : BitVec 8) (i : Nat) (h : i < n) : (List.replicate n c).getD i 0 = c := by
  rw [List.getD_eq_getElem?_getD, List.getElem?_eq_getElem (by simpa using h)]; simp
theorem com_rep (n : Nat) (c : BitVec 8) (d p : Nat) (hp : p ≤ n) : com (List.replicate n c) d p 18 = min (n - p) 18 := by
  refine com_eq (fun i hi => ⟨by rw [List.length_replicate]; omega, ?_⟩) (Nat.min_le_right _ _) ?_
  · rw [rep_get n c _ (by omega), rep_get n c _ (by omega)]
  · rcases Nat.lt_or_ge (n - p) 18 with h | h
    · refine .inr fun ha => ?_
      have := (ha (min (n - p) 18) (by omega)).1
      rw [List.length_replicate] at this; omega
    · exact .inl (by omega)
theorem best_rep (n : Nat) (c : BitVec 8) (p : Nat) (hp : p < n) : ∀ k, best (List.replicate n c) p k = if k = 0 then (0, 0) else (min (n - p) 18, 1)
  | 0 => rfl
  | k + 1 => by
    rw [best, best_rep n c p hp k, com_rep n c (k + 1) p (by omega)]
    by_cases h : k = 0
    · subst h
      rw [if_pos rfl, if_pos (by show 0 < _; omega), if_neg (by omega)]
    · rw [if_neg h, if_neg (by show ¬ (min (n - p) 18 < _); omega), if_neg (by omega)]
theorem tokAt_rep (n : Nat) (c : BitVec 8) (p : Nat) (hp : p < n) (h0 : 0 < p) : tokAt (List.replicate n c) p = if 3 ≤ min (n - p) 18 then ⟨0, (min (n - p) 18 : Nat), 1⟩ else ⟨c, 0, 0⟩ := by
  have hb : found (List.replicate n c) p = (min (n - p) 18, 1) := by unfold found; rw [best_rep n c p hp, if_neg (by omega)]
  unfold tokAt
  rw [hb, rep_get n c p hp]
  rfl
theorem tokAt_rep0 (n : Nat) (c : BitVec 8) (hp : 0 < n) : tokAt (List.replicate n c) 0 = ⟨c, 0, 0⟩ := by
  have hb : found (List.replicate n c) 0 = (0, 0) := by unfold found; rw [best_rep n c 0 hp]; rfl
  unfold tokAt
  rw [hb, rep_get n c 0 hp]
  rfl
end Go.Mt
