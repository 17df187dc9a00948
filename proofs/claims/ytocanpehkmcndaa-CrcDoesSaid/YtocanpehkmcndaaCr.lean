/- The check sum bit by bit is the check sum by the table. -/
import Derived.Test.YtocanpehkmcndaaCp
namespace Go.Crc
open Go.Bv

def oct (r : BitVec 32) (c : BitVec 8) : BitVec 32 := halves 8 (r ^^^ c.setWidth 32)

theorem half_even (x : BitVec 32) (h : x.toNat % 2 = 0) : half x = x >>> 1 := by
  have h1 : x &&& 1#32 = 0#32 := by
    apply BitVec.eq_of_toNat_eq
    rw [BitVec.toNat_and]
    exact (Nat.and_two_pow_sub_one_eq_mod x.toNat 1).trans h
  unfold half
  rw [h1]
  have : -(0#32) = 0#32 := by decide
  rw [this, BitVec.and_zero, BitVec.xor_zero]
theorem half_odd (x : BitVec 32) (h : x.toNat % 2 = 1) : half x = (x >>> 1) ^^^ 3988292384#32 := by
  have h1 : x &&& 1#32 = 1#32 := by
    apply BitVec.eq_of_toNat_eq
    rw [BitVec.toNat_and]
    exact (Nat.and_two_pow_sub_one_eq_mod x.toNat 1).trans h
  unfold half
  rw [h1]
  have : 3988292384#32 &&& -(1#32) = 3988292384#32 := by decide
  rw [this]

theorem half_shl (z m : Nat) (h : z * 2 ^ (m + 1) < 2 ^ 32) : half (BitVec.ofNat 32 (z * 2 ^ (m + 1))) = BitVec.ofNat 32 (z * 2 ^ m) := by
  have e : z * 2 ^ (m + 1) = z * 2 ^ m * 2 := by rw [Nat.pow_succ, ← Nat.mul_assoc]
  rw [half_even _ (by rw [BitVec.toNat_ofNat, Nat.mod_eq_of_lt h, e]; omega)]
  apply BitVec.eq_of_toNat_eq
  rw [BitVec.toNat_ushiftRight, Nat.shiftRight_eq_div_pow, BitVec.toNat_ofNat, BitVec.toNat_ofNat, Nat.mod_eq_of_lt h, e]
  rw [e] at h
  rw [Nat.mod_eq_of_lt (by omega)]
  omega
theorem halves_shl (z k : Nat) (hk : k ≤ 8) (h : z * 2 ^ 8 < 2 ^ 32) : halves k (BitVec.ofNat 32 (z * 2 ^ 8)) = BitVec.ofNat 32 (z * 2 ^ (8 - k)) := by
  induction k with
  | zero => rfl
  | succ k ih =>
    simp only [halves]
    rw [ih (by omega), show 8 - k = (8 - (k + 1)) + 1 by omega, half_shl]
    have : 2 ^ (8 - (k + 1) + 1) ≤ 2 ^ 8 := Nat.pow_le_pow_right (by omega) (by omega)
    exact Nat.lt_of_le_of_lt (Nat.mul_le_mul_left z this) h

theorem oct_eq (r : BitVec 32) (c : BitVec 8) : oct r c = step1 r c := by
  unfold oct step1
  have hx : ∀ x : BitVec 32, halves 8 x = tab (x.setWidth 8) ^^^ (x >>> 8) := by
    intro x
    have hlt := x.isLt
    have hz : x.toNat / 256 * 2 ^ 8 < 2 ^ 32 := by omega
    have hsum : x = (x.setWidth 8).setWidth 32 ^^^ BitVec.ofNat 32 (x.toNat / 256 * 2 ^ 8) := by
      apply BitVec.eq_of_getLsbD_eq
      intro i hi
      rw [BitVec.getLsbD_xor, BitVec.getLsbD_setWidth, BitVec.getLsbD_setWidth, BitVec.getLsbD_ofNat]
      by_cases h8 : i < 8
      · have : (x.toNat / 256 * 2 ^ 8).testBit i = false := by
          rw [Nat.testBit_mul_two_pow]; simp; omega
        simp [hi, h8, this]
      · have : (x.toNat / 256 * 2 ^ 8).testBit i = x.getLsbD i := by
          rw [Nat.testBit_mul_two_pow, show (256 : Nat) = 2 ^ 8 by rfl, Nat.testBit_div_two_pow, show i - 8 + 8 = i by omega, BitVec.getLsbD, decide_eq_true (show i ≥ 8 by omega), Bool.true_and]
        simp [hi, h8, this]
    have h1 : halves 8 x = halves 8 ((x.setWidth 8).setWidth 32) ^^^ halves 8 (BitVec.ofNat 32 (x.toNat / 256 * 2 ^ 8)) := by
      rw [← halves_xor, ← hsum]
    rw [h1, halves_shl _ 8 (Nat.le_refl _) hz]
    unfold tab
    congr 1
    apply BitVec.eq_of_toNat_eq
    rw [BitVec.toNat_ushiftRight, Nat.shiftRight_eq_div_pow, BitVec.toNat_ofNat]
    simp
    omega
  rw [hx, low_xor, shr_xor]
  have h1 : (c.setWidth 32).setWidth 8 = c := by
    apply BitVec.eq_of_toNat_eq
    simp only [BitVec.toNat_setWidth]
    have := c.isLt
    omega
  have h2 : (c.setWidth 32) >>> 8 = 0#32 := by
    apply BitVec.eq_of_toNat_eq
    rw [BitVec.toNat_ushiftRight, Nat.shiftRight_eq_div_pow, BitVec.toNat_setWidth]
    have := c.isLt
    simp
    omega
  rw [h1, h2, BitVec.xor_zero]

theorem half_facts (x : BitVec 32) : (∃ y z : BitVec 32, (x.toNat : Int) / 2 = (y.toNat : Int) ∧ ((x.toNat : Int) % 2 == 1) = true ∧ Go.bits .xor .u32 (y.toNat : Int) 3988292384 = (z.toNat : Int) ∧ z = half x) ∨
    (∃ y : BitVec 32, (x.toNat : Int) / 2 = (y.toNat : Int) ∧ ((x.toNat : Int) % 2 == 1) = false ∧ y = half x) := by
  have h2 : (x.toNat : Int) / 2 = ((x >>> 1).toNat : Int) := shr32 x 1
  rcases Nat.mod_two_eq_zero_or_one x.toNat with h | h
  · exact .inr ⟨x >>> 1, h2, by simp; omega, (half_even x h).symm⟩
  · exact .inl ⟨x >>> 1, (x >>> 1) ^^^ 3988292384#32, h2, by simp; omega, xor32 _ 3988292384#32, (half_odd x h).symm⟩

end Go.Crc
