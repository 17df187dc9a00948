/- Arms on numbers as bit vectors. -/
import Derived.Test.YtekiloagckkneaaDoorB
namespace Go.Bva
open Go.RowKit Go.Bv

section
variable {P : Program} {ops : Array Oper} {Q : Exit → Act → World → Prop} {a : Act} {w : World} {rest : List Oper}
variable {d : Option Tmp} {ty : TypeId} {pos : String} {aft : Array Edge}

theorem gBin {op : BinOp} {t yt : TypeId} {x y : Operand} (h : wpList P ops Q ({ dst := d, op := .binOp op t x y yt, type := ty, pos := pos, after := aft, guard := none } :: rest) a w) :
    wpList P ops Q ({ dst := d, op := .binOp op t x y yt, type := ty, pos := pos, after := aft, guard := none } :: rest) a w := h
theorem gCnv {s t : TypeId} {x : Operand} (h : wpList P ops Q ({ dst := d, op := .convert s t x, type := ty, pos := pos, after := aft, guard := none } :: rest) a w) :
    wpList P ops Q ({ dst := d, op := .convert s t x, type := ty, pos := pos, after := aft, guard := none } :: rest) a w := h

theorem step_val {o : Op} {v : Value} (hr : (execOp a.eval { dst := d, op := o, type := ty, pos := pos, after := aft, guard := none }).run P w = .ok (.value v) w)
    (h : wpList P ops Q rest (a.put d v) w) : wpList P ops Q ({ dst := d, op := o, type := ty, pos := pos, after := aft, guard := none } :: rest) a w := by
  refine wpList_plain rfl fun K hK => ?_
  unfold Oper.wp
  rw [hr]
  exact hK _ _ h

/-- the whole numbers of a kind, as bit vectors -/
theorem kint {k : IntKind} {n : Nat} {u : BitVec n} {m : Int} (h : m = (u.toNat : Int)) : Value.int k m = .int k (u.toNat : Int) := by rw [h]

/-- the operations behind words that the walk's simp does not open -/
def badd (u v : BitVec 32) : BitVec 32 := u + v
def bsub (u v : BitVec 32) : BitVec 32 := u - v
def bmul (u v : BitVec 32) : BitVec 32 := u * v
def bxor (u v : BitVec 32) : BitVec 32 := u ^^^ v
def bor (u v : BitVec 32) : BitVec 32 := u ||| v
def bshl (u : BitVec 32) (n : Nat) : BitVec 32 := u <<< n
def bshr (u : BitVec 32) (n : Nat) : BitVec 32 := u >>> n
def bw32 (u : BitVec 8) : BitVec 32 := u.setWidth 32
def bw8 (u : BitVec 32) : BitVec 8 := u.setWidth 8
def bk (m : Int) : BitVec 32 := BitVec.ofInt 32 m

theorem add_u32 {t yt : TypeId} {x y : Operand} {u v : BitVec 32} (hx : a.eval x = .int .u32 (u.toNat : Int)) (hy : a.eval y = .int .u32 (v.toNat : Int))
    (h : wpList P ops Q rest (a.put d (.int .u32 ((badd u v).toNat : Int))) w) : wpList P ops Q ({ dst := d, op := .binOp .add t x y yt, type := ty, pos := pos, after := aft, guard := none } :: rest) a w := by
  unfold badd at h
  refine step_val ?_ h
  simp only [execOp, hx, hy]
  simp [go_sem, binOp, eqGuard, Op.intArith, IntKind.wrap_u32', BitVec.toNat_add]
theorem sub_u32 {t yt : TypeId} {x y : Operand} {u v : BitVec 32} (hx : a.eval x = .int .u32 (u.toNat : Int)) (hy : a.eval y = .int .u32 (v.toNat : Int))
    (h : wpList P ops Q rest (a.put d (.int .u32 ((bsub u v).toNat : Int))) w) : wpList P ops Q ({ dst := d, op := .binOp .sub t x y yt, type := ty, pos := pos, after := aft, guard := none } :: rest) a w := by
  unfold bsub at h
  refine step_val ?_ h
  simp only [execOp, hx, hy]
  simp [go_sem, binOp, eqGuard, Op.intArith, IntKind.wrap_u32', sub32]
theorem mul_u32 {t yt : TypeId} {x y : Operand} {u v : BitVec 32} (hx : a.eval x = .int .u32 (u.toNat : Int)) (hy : a.eval y = .int .u32 (v.toNat : Int))
    (h : wpList P ops Q rest (a.put d (.int .u32 ((bmul u v).toNat : Int))) w) : wpList P ops Q ({ dst := d, op := .binOp .mul t x y yt, type := ty, pos := pos, after := aft, guard := none } :: rest) a w := by
  unfold bmul at h
  refine step_val ?_ h
  simp only [execOp, hx, hy]
  simp [go_sem, binOp, eqGuard, Op.intArith, IntKind.wrap_u32', BitVec.toNat_mul]
theorem xor_u32 {t yt : TypeId} {x y : Operand} {u v : BitVec 32} (hx : a.eval x = .int .u32 (u.toNat : Int)) (hy : a.eval y = .int .u32 (v.toNat : Int))
    (h : wpList P ops Q rest (a.put d (.int .u32 ((bxor u v).toNat : Int))) w) : wpList P ops Q ({ dst := d, op := .binOp .xor t x y yt, type := ty, pos := pos, after := aft, guard := none } :: rest) a w := by
  unfold bxor at h
  refine step_val ?_ h
  simp only [execOp, hx, hy]
  simp [go_sem, binOp, eqGuard, Op.intArith, xor32]
theorem or_u32 {t yt : TypeId} {x y : Operand} {u v : BitVec 32} (hx : a.eval x = .int .u32 (u.toNat : Int)) (hy : a.eval y = .int .u32 (v.toNat : Int))
    (h : wpList P ops Q rest (a.put d (.int .u32 ((bor u v).toNat : Int))) w) : wpList P ops Q ({ dst := d, op := .binOp .or t x y yt, type := ty, pos := pos, after := aft, guard := none } :: rest) a w := by
  unfold bor at h
  refine step_val ?_ h
  simp only [execOp, hx, hy]
  simp [go_sem, binOp, eqGuard, Op.intArith, or32]
/-- a constant as a bit vector -/
theorem cu32 {x : Operand} {m : Int} (v : BitVec 32) (hx : a.eval x = .int .u32 m) (hm : m = (v.toNat : Int)) : a.eval x = .int .u32 (v.toNat : Int) := by rw [hx, hm]
theorem ku32 {x : Operand} {m : Int} (hx : a.eval x = .int .u32 m) (hm : 0 ≤ m ∧ m < 4294967296) : a.eval x = .int .u32 ((bk m).toNat : Int) := by
  unfold bk
  rw [hx, BitVec.toNat_ofInt]
  congr 1
  omega
theorem w8 {x : Operand} {u : BitVec 8} (hx : a.eval x = .int .u32 (u.toNat : Int)) : a.eval x = .int .u32 ((bw32 u).toNat : Int) := by
  unfold bw32
  rw [hx, BitVec.toNat_setWidth]
  congr 1
  have := u.isLt
  omega
theorem shl_u32 {t yt : TypeId} {x y : Operand} {u : BitVec 32} {k : IntKind} {n : Nat} (hx : a.eval x = .int .u32 (u.toNat : Int)) (hy : a.eval y = .int k (n : Int)) (hn : n < 32)
    (h : wpList P ops Q rest (a.put d (.int .u32 ((bshl u n).toNat : Int))) w) : wpList P ops Q ({ dst := d, op := .binOp .shl t x y yt, type := ty, pos := pos, after := aft, guard := none } :: rest) a w := by
  unfold bshl at h
  refine step_val ?_ h
  simp only [execOp, hx, hy]
  have h0 : ¬ ((n : Int) < 0) := by omega
  have hm : min n 32 = n := by omega
  simp [go_sem, binOp, eqGuard, Op.shift, IntKind.wrap_u32', Nat.shiftLeft_eq, hm, h0]
theorem shr_u32 {t yt : TypeId} {x y : Operand} {u : BitVec 32} {k : IntKind} {n : Nat} (hx : a.eval x = .int .u32 (u.toNat : Int)) (hy : a.eval y = .int k (n : Int)) (hn : n < 32)
    (h : wpList P ops Q rest (a.put d (.int .u32 ((bshr u n).toNat : Int))) w) : wpList P ops Q ({ dst := d, op := .binOp .shr t x y yt, type := ty, pos := pos, after := aft, guard := none } :: rest) a w := by
  unfold bshr at h
  refine step_val ?_ h
  simp only [execOp, hx, hy]
  have h0 : ¬ ((n : Int) < 0) := by omega
  have hm : min n 32 = n := by omega
  simp [go_sem, binOp, eqGuard, Op.shift, IntKind.wrap_u32', Nat.shiftRight_eq_div_pow, hm, h0, Int.fdiv_eq_ediv_of_nonneg _ (show (0 : Int) ≤ 2 ^ n by exact_mod_cast Nat.zero_le _)]
theorem cnv_8_32 {s t : TypeId} {x : Operand} {u : BitVec 8} (hs : P.underlying s = some (.int .u8)) (ht : P.underlying t = some (.int .u32)) (hx : a.eval x = .int .u8 (u.toNat : Int))
    (h : wpList P ops Q rest (a.put d (.int .u32 ((bw32 u).toNat : Int))) w) : wpList P ops Q ({ dst := d, op := .convert s t x, type := ty, pos := pos, after := aft, guard := none } :: rest) a w := by
  unfold bw32 at h
  refine step_val ?_ h
  have e : IntKind.u32.wrap (u.toNat : Int) = ((u.setWidth 32).toNat : Int) := by
    rw [IntKind.wrap_u32', BitVec.toNat_setWidth]; have := u.isLt; omega
  simp only [execOp, hx]
  have hc : (convert s t (.int IntKind.u8 (u.toNat : Int))).run P w = .ok (.int IntKind.u32 (IntKind.u32.wrap (u.toNat : Int))) w := by simp [convert, run_underlying hs, run_underlying ht, Conv.intToInt]
  simp [hc, e]
theorem cnv_32_8 {s t : TypeId} {x : Operand} {u : BitVec 32} (hs : P.underlying s = some (.int .u32)) (ht : P.underlying t = some (.int .u8)) (hx : a.eval x = .int .u32 (u.toNat : Int))
    (h : wpList P ops Q rest (a.put d (.int .u8 ((bw8 u).toNat : Int))) w) : wpList P ops Q ({ dst := d, op := .convert s t x, type := ty, pos := pos, after := aft, guard := none } :: rest) a w := by
  unfold bw8 at h
  refine step_val ?_ h
  have e : IntKind.u8.wrap (u.toNat : Int) = ((u.setWidth 8).toNat : Int) := by
    rw [IntKind.wrap_u8', BitVec.toNat_setWidth]; omega
  simp only [execOp, hx]
  have hc : (convert s t (.int IntKind.u32 (u.toNat : Int))).run P w = .ok (.int IntKind.u8 (IntKind.u8.wrap (u.toNat : Int))) w := by simp [convert, run_underlying hs, run_underlying ht, Conv.intToInt]
  simp [hc, e]
end
end Go.Bva
