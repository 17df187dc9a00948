/- Equality of states. -/
import Derived.Test.YtekiloagckkneaaDoorP
namespace Go.Proofs.YtekiloagckkneaaDoor
open Go.RowKit Go.Own Go.Bv Go.Ord Go.Eq

theorem eqW (s t : St) (w : World) : (binOp .eql 24 (.agg s.C) (.agg t.C)).run Tryd.prog w = .ok (.bool (decide (s = t))) w := by
  have := run_eql_u32 (P := Tryd.prog) w Tryd.underlying24 Tryd.underlying22 iu32s s.l t.l rfl rfl
  rw [show decide (s = t) = decide (s.l = t.l) from decide_eq_decide.2 St.l_inj.symm]
  exact this
theorem eqWT (s : St) (w : World) : (binOp .eql 24 (.agg s.C) (.agg s.C)).run Tryd.prog w = .ok (.bool true) w := by
  rw [eqW, decide_eq_true rfl]

end Go.Proofs.YtekiloagckkneaaDoor
