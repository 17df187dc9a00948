/- A number of eight octets, the lowest one first. No program in sight. Arms on u64 as bit vectors. -/
import Derived.Test.YtekiloagckkneaaDoorVm
import Derived.Test.YtekiloagckkneaaDoorV
namespace Go.Proofs.YtekiloagckkneaaDoor
open Go.RowKit Go.Own Go.Bv Go.Eq

def num (bs : List (BitVec 8)) : Nat → BitVec 64
  | 0 => 0#64
  | k + 1 => num bs k ||| ((bs.getD k 0#8).setWidth 64 <<< (8 * k))
def numN (bs : List (BitVec 8)) : Nat → Nat
  | 0 => 0
  | k + 1 => numN bs k + 2 ^ (8 * k) * (bs.getD k 0#8).toNat
theorem numN_lt (bs : List (BitVec 8)) : ∀ k, numN bs k < 2 ^ (8 * k)
  | 0 => by simp [numN]
  | k + 1 => by
    have h := numN_lt bs k
    have hx : (bs.getD k 0#8).toNat ≤ 255 := by have := (bs.getD k 0#8).isLt; omega
    have h2 : 2 ^ (8 * k) * (bs.getD k 0#8).toNat ≤ 2 ^ (8 * k) * 255 := Nat.mul_le_mul_left _ hx
    have e : 2 ^ (8 * (k + 1)) = 2 ^ (8 * k) * 256 := by rw [Nat.mul_succ, Nat.pow_add]
    rw [e]
    show numN bs k + 2 ^ (8 * k) * (bs.getD k 0#8).toNat < _
    omega
theorem num_nat (bs : List (BitVec 8)) : ∀ k, k ≤ 8 → (num bs k).toNat = numN bs k
  | 0, _ => rfl
  | k + 1, hk => by
    have h := num_nat bs k (by omega)
    have hl := numN_lt bs k
    show (num bs k ||| ((bs.getD k 0#8).setWidth 64 <<< (8 * k))).toNat = numN bs k + 2 ^ (8 * k) * (bs.getD k 0#8).toNat
    have hx : (bs.getD k 0#8).toNat < 256 := (bs.getD k 0#8).isLt
    generalize (bs.getD k 0#8) = x at *
    have hp : 2 ^ (8 * k) ≤ 2 ^ 56 := Nat.pow_le_pow_right (by omega) (by omega)
    have h3 : 2 ^ (8 * k) * x.toNat ≤ 2 ^ (8 * k) * 255 := Nat.mul_le_mul_left _ (by omega)
    rw [BitVec.toNat_or, BitVec.toNat_shiftLeft, BitVec.toNat_setWidth, h, Nat.mod_eq_of_lt (show x.toNat < 2 ^ 64 by omega), Nat.shiftLeft_eq, Nat.mul_comm x.toNat, Nat.mod_eq_of_lt (by omega), Nat.or_comm, Nat.mul_comm, ← Nat.shiftLeft_eq, ← Nat.shiftLeft_add_eq_or_of_lt hl, Nat.add_comm]
theorem num_eight (n : BitVec 64) (r : List (BitVec 8)) : num (eight n ++ r) 8 = n := by
  apply BitVec.eq_of_toNat_eq
  rw [num_nat _ 8 (Nat.le_refl _)]
  have := n.isLt
  simp [numN, eight, Nat.shiftRight_eq_div_pow]
  omega
theorem eight_num (bs : List (BitVec 8)) (h : 8 ≤ bs.length) : eight (num bs 8) = bs.take 8 := by
  match bs, h with
  | x0 :: x1 :: x2 :: x3 :: x4 :: x5 :: x6 :: x7 :: r, _ =>
    have hn := num_nat (x0 :: x1 :: x2 :: x3 :: x4 :: x5 :: x6 :: x7 :: r) 8 (Nat.le_refl _)
    generalize num (x0 :: x1 :: x2 :: x3 :: x4 :: x5 :: x6 :: x7 :: r) 8 = n at hn
    simp [numN] at hn
    have h0 := x0.isLt
    have h1 := x1.isLt
    have h2 := x2.isLt
    have h3 := x3.isLt
    have h4 := x4.isLt
    have h5 := x5.isLt
    have h6 := x6.isLt
    have h7 := x7.isLt
    simp only [eight, List.take, List.cons.injEq, and_true]
    refine ⟨?_, ?_, ?_, ?_, ?_, ?_, ?_, ?_⟩ <;> apply BitVec.eq_of_toNat_eq <;> simp [Nat.shiftRight_eq_div_pow] <;> omega
/-- what a box of these octets is, and that it is written as them -/
theorem bytes_of (bs : List (BitVec 8)) (h : 24 ≤ bs.length) : eight (num bs 8) ++ (St.of ((bs.drop 8).take 16)).octs ++ bs.drop 24 = bs := by
  rw [eight_num bs (by omega), St.octs_of (by simp; omega), List.append_assoc, show bs.drop 24 = (bs.drop 8).drop 16 by rw [List.drop_drop], List.take_append_drop, List.take_append_drop]
theorem of_bytes (n : BitVec 64) (u : St) (t : List (BitVec 8)) : num (eight n ++ u.octs ++ t) 8 = n ∧ St.of (((eight n ++ u.octs ++ t).drop 8).take 16) = u ∧ (eight n ++ u.octs ++ t).drop 24 = t := by
  refine ⟨by rw [List.append_assoc]; exact num_eight n _, ?_, ?_⟩
  · rw [List.append_assoc, List.drop_left' (eight_length n), List.take_left' (St.octs_length u), St.of_octs]
  · rw [List.drop_left' (by rw [List.length_append, eight_length, St.octs_length])]
end Go.Proofs.YtekiloagckkneaaDoor
namespace Go.Bva
open Go.RowKit Go.Bv
section
variable {P : Program} {ops : Array Oper} {Q : Exit → Act → World → Prop} {a : Act} {w : World} {rest : List Oper}
variable {d : Option Tmp} {ty : TypeId} {pos : String} {aft : Array Edge}
def bor64 (u v : BitVec 64) : BitVec 64 := u ||| v
def bshl64 (u : BitVec 64) (n : Nat) : BitVec 64 := u <<< n
def bw64 (u : BitVec 8) : BitVec 64 := u.setWidth 64
theorem or_u64 {t yt : TypeId} {x y : Operand} {u v : BitVec 64} (hx : a.eval x = .int .u64 (u.toNat : Int)) (hy : a.eval y = .int .u64 (v.toNat : Int))
    (h : wpList P ops Q rest (a.put d (.int .u64 ((bor64 u v).toNat : Int))) w) : wpList P ops Q ({ dst := d, op := .binOp .or t x y yt, type := ty, pos := pos, after := aft, guard := none } :: rest) a w := by
  unfold bor64 at h
  refine step_val ?_ h
  simp only [execOp, hx, hy]
  simp [go_sem, binOp, eqGuard, Op.intArith, or64]
theorem shl_u64 {t yt : TypeId} {x y : Operand} {u : BitVec 64} {k : IntKind} {n : Nat} (hx : a.eval x = .int .u64 (u.toNat : Int)) (hy : a.eval y = .int k (n : Int)) (hn : n < 64)
    (h : wpList P ops Q rest (a.put d (.int .u64 ((bshl64 u n).toNat : Int))) w) : wpList P ops Q ({ dst := d, op := .binOp .shl t x y yt, type := ty, pos := pos, after := aft, guard := none } :: rest) a w := by
  unfold bshl64 at h
  refine step_val ?_ h
  simp only [execOp, hx, hy]
  have h0 : ¬ ((n : Int) < 0) := by omega
  have hm : min n 64 = n := by omega
  have e : ∀ z : Int, IntKind.u64.wrap z = z % 18446744073709551616 := fun z => by simp [IntKind.wrap, IntKind.bits, IntKind.signed]
  simp [go_sem, binOp, eqGuard, Op.shift, e, Nat.shiftLeft_eq, hm, h0]
theorem cnv_8_64 {s t : TypeId} {x : Operand} {u : BitVec 8} (hs : P.underlying s = some (.int .u8)) (ht : P.underlying t = some (.int .u64)) (hx : a.eval x = .int .u8 (u.toNat : Int))
    (h : wpList P ops Q rest (a.put d (.int .u64 ((bw64 u).toNat : Int))) w) : wpList P ops Q ({ dst := d, op := .convert s t x, type := ty, pos := pos, after := aft, guard := none } :: rest) a w := by
  unfold bw64 at h
  refine step_val ?_ h
  have e : IntKind.u64.wrap (u.toNat : Int) = ((u.setWidth 64).toNat : Int) := by
    have e : ∀ z : Int, IntKind.u64.wrap z = z % 18446744073709551616 := fun z => by simp [IntKind.wrap, IntKind.bits, IntKind.signed]
    rw [e, BitVec.toNat_setWidth]; have := u.isLt; omega
  simp only [execOp, hx]
  have hc : (convert s t (.int IntKind.u8 (u.toNat : Int))).run P w = .ok (.int IntKind.u64 (IntKind.u64.wrap (u.toNat : Int))) w := by simp [convert, run_underlying hs, run_underlying ht, Conv.intToInt]
  simp [hc, e]
end
end Go.Bva
