/- What a row's list gives the walks: the turns lie where the program's own initialiser laid them. -/
import Derived.Test.YtniibdglodnhoaaGreatDoorPe
import Derived.Lib.LaidTab
import Derived.Deep.DeepHandedRow
namespace Go.Proofs.YtniibdglodnhoaaGreatDoor
open Go.RowKit Go.Own Go.Bv Go.Ord Go.Eq

theorem gTurns : Tryz.prog.globalNamed "tansy/perm.turns" = some 0 := by kernel_rfl
theorem gTurnsType : (Tryz.prog.globals[0]?).map (·.type) = some 158 := by kernel_rfl
theorem cellsTurns : Tryz.prog.cellsOf 158 = 4 := by kernel_rfl
theorem cellsInt : Tryz.prog.cellsOf 3 = 1 := by kernel_rfl
theorem turns_of_laid {W : World} (h : laidMetH Tryz.prog [("tansy/perm.turns", .agg [.lit (.int .i64 16), .lit (.int .i64 12), .lit (.int .i64 8), .lit (.int .i64 7)])] W) : Turns W := by
  have t : Lib.TabIs Tryz.prog W "tansy/perm.turns" .i64 [16, 12, 8, 7] := Lib.tabIs_of_head (rest := []) gTurns gTurnsType Tryz.underlying158 Tryz.underlying3 cellsInt cellsTurns h
  exact ⟨t.cell gTurns 0 (by decide), t.cell gTurns 1 (by decide), t.cell gTurns 2 (by decide), t.cell gTurns 3 (by decide)⟩
end Go.Proofs.YtniibdglodnhoaaGreatDoor
