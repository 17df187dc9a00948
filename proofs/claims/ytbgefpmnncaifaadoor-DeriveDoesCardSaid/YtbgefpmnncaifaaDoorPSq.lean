/- The walk of perm.Squeeze. -/
import Derived.Test.YtbgefpmnncaifaaDoorPi
namespace Go.Proofs.YtbgefpmnncaifaaDoor
open Go.RowKit Go.Own Go.Bv Go.Ord Go.Eq

/-- what Squeeze hands back: octets in a block of its own -/
def SqRet (w : World) (s : St) (n : Nat) (e : Ending) (w' : World) : Prop :=
  ∃ g C, e = .returned (.tuple #[.slice (some ⟨g, 0, none⟩) n n, .int .i64 0]) ∧ Below w.heap.size w w' ∧ Res.holds w.heap.size w' (.blk g (.cells C 5 (0,0))) ∧ C.toList.take n = u8s (s.squeeze n)

theorem sq_next (s : St) (k : Nat) : s.sqK (k + 1) = s.sqK k ++ (octs4 (St.permN k s).a ++ octs4 (St.permN k s).b) := rfl
theorem octs_first (s : St) : (u8s s.octs).take (8 * 1) = u8s (octs4 s.a ++ octs4 s.b) := rfl
theorem sq_take (s : St) (n k : Nat) (C : List Value) (h : C.take (8 * k) = u8s (s.sqK k)) (hn : n ≤ 8 * k) : C.take n = u8s (s.squeeze n) := by
  rw [St.squeeze_of s hn, u8s_take, ← h, List.take_take, Nat.min_eq_left hn]

end Go.Proofs.YtbgefpmnncaifaaDoor
