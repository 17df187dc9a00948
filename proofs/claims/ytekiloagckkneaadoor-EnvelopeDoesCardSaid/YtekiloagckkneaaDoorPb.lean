/- A text with its end behind it, in eights. No program in sight. -/
import Derived.Test.YtekiloagckkneaaDoorPa
import Derived.Test.YtekiloagckkneaaDoorV
namespace Go.Proofs.YtekiloagckkneaaDoor
open Go.RowKit Go.Own Go.Bv Go.Eq

def padK (b : List (BitVec 8)) (i : Nat) : List (BitVec 8) := (b ++ [128#8]) ++ List.replicate i 0#8
theorem padK_length (b : List (BitVec 8)) (i : Nat) : (padK b i).length = b.length + 1 + i := by simp [padK]; omega
theorem padK_succ (b : List (BitVec 8)) (i : Nat) : padK b (i + 1) = padK b i ++ [0#8] := by
  unfold padK
  rw [List.replicate_succ', ← List.append_assoc]
theorem padK_zero (b : List (BitVec 8)) : padK b 0 = b ++ [128#8] := by simp [padK]
theorem padK_get (b : List (BitVec 8)) (i j : Nat) (h : j < b.length + 1 + i) : (padK b i)[j]? = some (byteAt b j) := by
  unfold padK byteAt
  by_cases h1 : j < b.length
  · rw [List.getElem?_append_left (by simp; omega), List.getElem?_append_left h1, if_pos h1]
    simp [h1]
  · rw [if_neg h1]
    by_cases h2 : j = b.length
    · subst h2
      rw [List.getElem?_append_left (by simp), if_pos rfl]
      simp
    · rw [List.getElem?_append_right (by simp; omega), List.getElem?_replicate]
      rw [if_pos (by simp; omega), if_neg h2]; rfl
theorem padK_four (b : List (BitVec 8)) (i p : Nat) (h : p + 4 ≤ b.length + 1 + i) : ((u8s (padK b i)).drop p).take 4 = u8s [byteAt b p, byteAt b (p + 1), byteAt b (p + 2), byteAt b (p + 3)] := by
  rw [← u8s_drop, ← u8s_take]
  congr 1
  apply List.ext_getElem?
  intro k
  rw [List.getElem?_take, List.getElem?_drop]
  by_cases hk : k < 4
  · rw [if_pos hk, padK_get b i (p + k) (by omega)]
    obtain rfl | rfl | rfl | rfl : k = 0 ∨ k = 1 ∨ k = 2 ∨ k = 3 := by omega
    all_goals rfl
  · rw [if_neg hk]
    symm
    exact List.getElem?_eq_none (by simp; omega)
namespace St
/-- half a block mixed in, and the other half -/
def mixA (s : St) (b : List (BitVec 8)) (p : Nat) : St := ⟨Go.Bva.bxor s.a (of4 (byteAt b p) (byteAt b (p + 1)) (byteAt b (p + 2)) (byteAt b (p + 3))), s.b, s.c, s.d⟩
def mixB (s : St) (b : List (BitVec 8)) (p : Nat) : St := ⟨s.a, Go.Bva.bxor s.b (of4 (byteAt b (p + 4)) (byteAt b (p + 5)) (byteAt b (p + 6)) (byteAt b (p + 7))), s.c, s.d⟩
theorem mix_halves (s : St) (b : List (BitVec 8)) (p : Nat) : mixAt s b p = (s.mixA b p).mixB b p := mixAt_eq s b p
end St
end Go.Proofs.YtekiloagckkneaaDoor
