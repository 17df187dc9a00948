/- The check sum of two texts: what zeros do, as a matrix. No program in sight. -/
import Derived.Test.YtocanpehkmcndaaCp
namespace Go.Crc
open Go.Bv

def zeros (n : Nat) : List (BitVec 8) := List.replicate n 0#8
def zp (n : Nat) (x : BitVec 32) : BitVec 32 := step x (zeros n)
theorem zp_zero (x : BitVec 32) : zp 0 x = x := rfl
theorem zp_add (n m : Nat) (x : BitVec 32) : zp (n + m) x = zp m (zp n x) := by
  unfold zp zeros
  rw [← step_append, List.replicate_append_replicate]
theorem xorL_zeros : ∀ (n : Nat) (b : List (BitVec 8)), b.length = n → xorL (zeros n) b = b
  | 0, [], _ => rfl
  | n + 1, c :: b, h => by
    show (0#8 ^^^ c) :: xorL (zeros n) b = c :: b
    rw [xorL_zeros n b (by simpa using h)]
    simp
theorem zp_xor (n : Nat) (x y : BitVec 32) : zp n (x ^^^ y) = zp n x ^^^ zp n y := by
  unfold zp
  rw [← step_xor (zeros n) (zeros n) x y rfl, xorL_zeros n (zeros n) (by simp [zeros])]
theorem sum_append (a b : List (BitVec 8)) : zp b.length (sum a) ^^^ sum b = sum (a ++ b) := by
  unfold sum zp
  rw [step_append]
  generalize step 4294967295#32 a = s
  have h := step_xor (zeros b.length) b (s ^^^ 4294967295#32) 4294967295#32 (by simp [zeros])
  rw [xorL_zeros _ _ rfl] at h
  have e : s ^^^ 4294967295#32 ^^^ 4294967295#32 = s := by rw [BitVec.xor_assoc, BitVec.xor_self, BitVec.xor_zero]
  rw [e] at h
  rw [h, BitVec.xor_assoc]

/-- the lowest k bits -/
def low (k : Nat) (r : BitVec 32) : BitVec 32 := r &&& BitVec.ofNat 32 (2 ^ k - 1)
theorem low_bit (k : Nat) (hk : k ≤ 32) (r : BitVec 32) (i : Nat) : (low k r).getLsbD i = (decide (i < k) && r.getLsbD i) := by
  unfold low
  rw [BitVec.getLsbD_and, BitVec.getLsbD_ofNat, Nat.testBit_two_pow_sub_one]
  by_cases h : i < 32
  · simp [h, Bool.and_comm]
  · rw [BitVec.getLsbD_of_ge r i (by omega)]; simp
theorem low_zero (r : BitVec 32) : low 0 r = 0#32 := by simp [low]
theorem low_all (r : BitVec 32) : low 32 r = r := by
  apply BitVec.eq_of_getLsbD_eq
  intro i hi
  rw [low_bit 32 (Nat.le_refl _)]
  simp [hi]
theorem low_succ (k : Nat) (hk : k < 32) (r : BitVec 32) : low (k + 1) r = low k r ^^^ (1#32 <<< k &&& -(r >>> k &&& 1#32)) := by
  have hn : ∀ z : BitVec 32, z &&& 1#32 = if z.getLsbD 0 then 1#32 else 0#32 := by
    intro z
    apply BitVec.eq_of_getLsbD_eq
    intro i hi
    rw [BitVec.getLsbD_and]
    by_cases h0 : i = 0
    · subst h0; cases z.getLsbD 0 <;> simp
    · have h1 : (1#32).getLsbD i = false := by simp [h0]
      rw [h1]
      cases z.getLsbD 0 <;> simp [h0]
  rw [hn (r >>> k)]
  apply BitVec.eq_of_getLsbD_eq
  intro i hi
  rw [BitVec.getLsbD_xor, low_bit _ (by omega), low_bit _ (by omega), BitVec.getLsbD_and, BitVec.getLsbD_shiftLeft]
  have hb : (r >>> k).getLsbD 0 = r.getLsbD k := by simp
  rw [hb]
  by_cases h1 : i < k
  · simp [h1, show i < k + 1 by omega]
  · by_cases h2 : i = k
    · subst h2
      cases hr : r.getLsbD i
      · simp [hr]
      · have h4 : (4294967295#32).getLsbD i = true := by
          rw [show (4294967295#32 : BitVec 32) = BitVec.allOnes 32 from rfl, BitVec.getLsbD_allOnes]
          simp [hi]
        rw [BitVec.getLsbD_eq_getElem hi] at h4
        simp [hr, hi, h4]
    · have h3 : ¬ i < k + 1 := by omega
      simp [h1, h3, show i - k ≠ 0 by omega]
end Go.Crc
