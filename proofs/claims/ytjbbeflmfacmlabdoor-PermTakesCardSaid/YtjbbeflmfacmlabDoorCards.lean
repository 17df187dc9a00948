/-
  DERIVED. GIVEN WITH THE SEED: THE CARDS: each row of YtjbbeflmfacmlabDoorRows.lean that lists a variable, with what it lists TIED to the program's text (the seventh form; the later family's looks); each row that meets fmt, with fmt's text TOLD by the authors' own Lean function (tested against real Go, not proved from fmt's source: count such statements apart). THE CARD IS WHAT COUNTS. Prove the row's statement (the work); the ties are given (YtjbbeflmfacmlabDoorTie.lean); close each card by the builder's one call (the guide's Derived/Test/ToyasCard.lean, 'card_holds'). Laid BY PROGRAM, IN A SANDBOX (cutbox-door.mjs). By AI agents, Wed Nov 11 2026. No macro, syntax, notation, axiom, sorry.
-/
import Derived.Test.YtjbbeflmfacmlabDoorRows
import GoSem.ClaimSeven
namespace Go.Proofs.YtjbbeflmfacmlabDoor
namespace Rows

/-- THE TIED CARD OF 'tansylaw08.PermTakes'. -/
def permTakesCard : Claim7 := { stood := { row := permTakesRow, standIns := [], harness := (true, "a5013d3feb59d768047cd3274dd7eba8d0eee5150ddac6ca0d13343b4b688657"), looks := false }, kinds := [], alts := [], laidByText := true, laidKinds := [.data], laidTests := true, laidLooks := .later }
def PermTakesCardSaid : Prop := Claim7.holds Tryd.pinned (.plain (OpenSpec.ofChange permTakesSpec)) permTakesCard

/-- THE SECOND FORM's CARD OF 'tansylaw08.PermTakes'. -/
def permTakesUptoCard : Claim7 := { stood := { row := permTakesUptoRow, standIns := [], harness := (true, "a5013d3feb59d768047cd3274dd7eba8d0eee5150ddac6ca0d13343b4b688657"), looks := false }, kinds := [], alts := [], laidByText := true, laidKinds := [.data], laidTests := true, laidLooks := .later }
def PermTakesUptoCardSaid : Prop := Claim7.holds Tryd.pinned (.plain (OpenSpec.upto permTakesSpec)) permTakesUptoCard
end Rows
end Go.Proofs.YtjbbeflmfacmlabDoor
