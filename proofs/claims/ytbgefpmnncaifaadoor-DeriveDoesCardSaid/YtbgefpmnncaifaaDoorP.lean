/- Walks: perm.Octets, perm.Of, SameBytes. -/
import Derived.Test.YtbgefpmnncaifaaDoorRows
import Derived.Test.YtbgefpmnncaifaaDoorPm
namespace Go.Proofs.YtbgefpmnncaifaaDoor
open Go.RowKit Go.Own Go.Bv Go.Ord Go.Eq

theorem eu8 : Elem Tryd.prog 25 5 (.int .u8 0) 1 1 := ⟨Tryd.underlying25, by kernel_rfl, rfl, by decide⟩
theorem iu8s : (Tryd.prog.info? 5).map (·.size) = some 1 := by kernel_rfl
theorem iu32s : (Tryd.prog.info? 22).map (·.size) = some 1 := by kernel_rfl
theorem iwz : (Tryd.prog.info? 24).bind (·.zero) = some (.agg St.zero.C) := by kernel_rfl
theorem iws : (Tryd.prog.info? 24).map (·.size) = some 4 := by kernel_rfl
theorem iws' (s : St) : (Tryd.prog.info? 24).map (·.size) = some s.C.size := iws
theorem iwu : (Tryd.prog.underlying 24).map (fun d => match d with | .struct _ | .array _ _ => true | _ => false) = some true := by kernel_rfl

theorem shr_oct (x : BitVec 32) (n : Nat) : ((x >>> n).setWidth 8).toNat = x.toNat / 2 ^ n % 256 := by
  simp [Nat.shiftRight_eq_div_pow]
theorem oct_get (s : St) (k : Nat) (hk : k < 16) : (u8s s.octs)[k]? = some (.int .u8 (((s.w (k / 4)).toNat : Int) / ((2 ^ (k % 4 * 8) : Nat) : Int) % 256)) := by
  have h0 : ∀ x : BitVec 32, (x.setWidth 8).toNat = x.toNat / 2 ^ 0 % 256 := by intro x; simp
  obtain rfl | rfl | rfl | rfl | rfl | rfl | rfl | rfl | rfl | rfl | rfl | rfl | rfl | rfl | rfl | rfl : k = 0 ∨ k = 1 ∨ k = 2 ∨ k = 3 ∨ k = 4 ∨ k = 5 ∨ k = 6 ∨ k = 7 ∨ k = 8 ∨ k = 9 ∨ k = 10 ∨ k = 11 ∨ k = 12 ∨ k = 13 ∨ k = 14 ∨ k = 15 := by omega
  all_goals simp [u8s, St.octs, octs4, St.w, St.l, Nat.shiftRight_eq_div_pow]

theorem hi24 (x : BitVec 32) : (x.toNat : Int) / 16777216 % 256 = (x.toNat : Int) / 16777216 := by have := x.isLt; omega

theorem put_fact (s : St) (c : BitVec 8) (k : Nat) (hk : k < 16) : ∃ Y : BitVec 32, Go.bits .or .u32 ((s.w (k / 4)).toNat : Int) ((c.toNat : Int) * ((2 ^ (k % 4 * 8) : Nat) : Int)) = (Y.toNat : Int) ∧ (s.put k (c.setWidth 32)).C = s.C.setIfInBounds (k / 4) (.int .u32 (Y.toNat : Int)) := by
  refine ⟨s.w (k / 4) ||| c.setWidth 32 <<< (k % 4 * 8), ?_, ?_⟩
  · have hs : ((c.setWidth 32 <<< (k % 4 * 8)).toNat : Int) = (c.toNat : Int) * ((2 ^ (k % 4 * 8) : Nat) : Int) := by
      rw [BitVec.toNat_shiftLeft, Nat.shiftLeft_eq, BitVec.toNat_setWidth, Nat.mod_eq_of_lt (a := c.toNat) (by have := c.isLt; omega), Nat.mod_eq_of_lt]
      · norm_cast
      · have h1 : 2 ^ (k % 4 * 8) ≤ 2 ^ 24 := Nat.pow_le_pow_right (by omega) (by omega)
        have h2 := c.isLt
        calc c.toNat * 2 ^ (k % 4 * 8) ≤ 255 * 2 ^ 24 := Nat.mul_le_mul (by omega) h1
          _ < 2 ^ 32 := by decide
    rw [← hs, or32]
  · obtain h | h | h | h : k / 4 = 0 ∨ k / 4 = 1 ∨ k / 4 = 2 ∨ k / 4 = 3 := by omega
    all_goals simp [St.put, h, St.C, St.w, St.l]

def ofT (bs : List (BitVec 8)) : St := if bs.length = 16 then St.of bs else St.zero
def ofE (bs : List (BitVec 8)) : Int := if bs.length = 16 then 0 else 2
end Go.Proofs.YtbgefpmnncaifaaDoor
