/- '==' of two rings; what the walk of EnvelopeDoes wants besides. -/
import Derived.Test.YtekiloagckkneaaDoorVq
import Derived.Laws.StructEq
namespace Go.Proofs.YtekiloagckkneaaDoor
open Go.RowKit Go.Own Go.Bv Go.Ord Go.Eq

theorem v_egR : Tryd.prog.eqGuardType Tryd.prog.depth 27 = false := by kernel_rfl
theorem v_flR : flat Tryd.prog 27 = false := by kernel_rfl
theorem v_fi : flatInt Tryd.prog 28 = false := by kernel_rfl
set_option maxHeartbeats 1000000 in
theorem eqRT (s : St) (n : BitVec 64) (w : World) : (binOp .eql 27 (.agg (ringC s n)) (.agg (ringC s n))).run Tryd.prog w = .ok (.bool true) w := by
  have u1 := Tryd.underlying24
  have u2 := Tryd.underlying22
  have u3 := Tryd.underlying25
  have hS : Tryd.prog.underlying 27 = some (.struct (Tryd.prog.fieldsOf 27)) := by kernel_rfl
  have hp : Tryd.prog.stoodInHeld 27 = false := by kernel_rfl
  rw [run_eql_struct, show (10000 : Nat) = 9999 + 1 from rfl, run_equalIn_agg w 9999 27 _ _ hS hp]
  simp only [Program.fieldsOf, Tryd.underlying27, ringC]
  go_simp
  have h := run_eq_ints (P := Tryd.prog) w 9997 u1 u2 iu32s (s.l.map fun x => (x.toNat : Int)) (s.l.map fun x => (x.toNat : Int)) rfl rfl
  rw [decide_eq_true rfl] at h
  have hc : ((s.l.map fun x => (x.toNat : Int)).map (Value.int .u32)).toArray = s.C := rfl
  rw [hc] at h
  unfold St.C at h
  rw [show (9999 : Nat) = 9997 + 2 from rfl, h]
  rfl
theorem rsame_refl (n : BitVec 64) (a1 a2 : Option Addr) (m c1 c2 : Nat) (u : St) (b : List (BitVec 8)) (w : World) (h1 : Rd w 1 a1 m c1 (u8s b)) (h2 : Rd w 1 a2 m c2 (u8s b)) :
    Calls Tryd.prog 24 #[.agg (boxC n (.slice a1 m c1) u), .agg (boxC n (.slice a2 m c2) u)] w fun e w' => e = .returned (.bool true) ∧ Below w.heap.size w w' := by
  refine (rsame_calls n n a1 a2 m c1 m c2 u u b b w h1 h2).mono fun e w' h => ?_
  rw [decide_eq_true rfl, decide_eq_true rfl, decide_eq_true rfl] at h
  exact h
theorem same_refl (a1 a2 : Option Addr) (n1 n2 c1 c2 : Nat) (b : List (BitVec 8)) (w : World) (h1 : Rd w 1 a1 n1 c1 (u8s b)) (h2 : Rd w 1 a2 n2 c2 (u8s b)) :
    Calls Tryd.prog 13 #[.slice a1 n1 c1, .slice a2 n2 c2] w fun e w' => e = .returned (.bool true) ∧ w = w' := by
  refine (same_calls a1 a2 n1 c1 n2 c2 b b w h1 h2).mono fun e w' h => ?_
  rw [decide_eq_true rfl] at h
  exact h
theorem gIC9 {ops : Array Oper} {S : World → Prop} {st : Op → Bool} {Q : Exit → Act → World → Prop} {rest : List Oper} {a : Act} {w : World} {d : Option Tmp} {s t : TypeId} {x : Operand} {ty : TypeId} {pos : String} {aft : Array Edge}
    (h : wpI Tryd.prog ops S st Q ({ dst := d, op := .convert s t x, type := ty, pos := pos, after := aft, guard := none } :: rest) a w) : wpI Tryd.prog ops S st Q ({ dst := d, op := .convert s t x, type := ty, pos := pos, after := aft, guard := none } :: rest) a w := h
theorem add1_u8 (x : BitVec 8) : IntKind.u8.wrap ((x.toNat : Int) + 1) = (((x + 1#8).toNat : Nat) : Int) := by simp [IntKind.wrap, IntKind.bits, IntKind.signed, BitVec.toNat_add]
/-- one more, in place -/
theorem inc_get {Z : List (BitVec 8)} {D : Array Value} {n k : Nat} (hl : Z.length = n) (hD : D.toList.take n = u8s Z) (hk : k < n) : D.toList[k]? = some (.int .u8 ((Z[k]'(by omega)).toNat : Int)) ∧ k < D.size := by
  have h1 := congrArg (·[k]?) hD
  simp only [List.getElem?_take_of_lt hk] at h1
  rw [u8s_get Z k (by omega)] at h1
  refine ⟨h1, ?_⟩
  have := (List.getElem?_eq_some_iff.1 h1).1
  simpa using this
end Go.Proofs.YtekiloagckkneaaDoor
