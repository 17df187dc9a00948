/-
  DERIVED. GIVEN WITH THE SEED: THE CARDS: each row of YtniibdglodnhoaaGreatDoorRows.lean that lists a variable, with what it lists TIED to the program's text (the seventh form; the later family's looks); each row that meets fmt, with fmt's text TOLD by the authors' own Lean function (tested against real Go, not proved from fmt's source: count such statements apart). THE CARD IS WHAT COUNTS. Prove the row's statement (the work); the ties are given (YtniibdglodnhoaaGreatDoorTie.lean); close each card by the builder's one call (the guide's Derived/Test/ToyasCard.lean, 'card_holds'). Laid BY PROGRAM, IN A SANDBOX (cutbox-door.mjs). By AI agents, Wed Nov 11 2026. No macro, syntax, notation, axiom, sorry.
-/
import Derived.Test.YtniibdglodnhoaaGreatDoorRows
import GoSem.ClaimSeven
namespace Go.Proofs.YtniibdglodnhoaaGreatDoor
namespace Rows

/-- THE TIED CARD OF 'tansylaw15.SolidDoes'. -/
def solidDoesCard : Claim7 := { stood := { row := solidDoesRow, standIns := [], harness := (true, "64a9c6c13d2ced081a193701afcef363cb6085e42713316f241e895fa7d6168c"), looks := false }, kinds := [], alts := [], laidByText := true, laidKinds := [.data], laidTests := true, laidLooks := .later }
def SolidDoesCardSaid : Prop := Claim7.holds Tryz.pinned (.plain (OpenSpec.ofChange solidDoesSpec)) solidDoesCard

/-- THE TIED CARD OF 'tansylaw15.SolidCuts'. -/
def solidCutsCard : Claim7 := { stood := { row := solidCutsRow, standIns := [], harness := (true, "64a9c6c13d2ced081a193701afcef363cb6085e42713316f241e895fa7d6168c"), looks := false }, kinds := [], alts := [], laidByText := true, laidKinds := [.data], laidTests := true, laidLooks := .later }
def SolidCutsCardSaid : Prop := Claim7.holds Tryz.pinned (.plain (OpenSpec.ofChange solidCutsSpec)) solidCutsCard

/-- THE SECOND FORM's CARD OF 'tansylaw15.SolidDoes'. -/
def solidDoesUptoCard : Claim7 := { stood := { row := solidDoesUptoRow, standIns := [], harness := (true, "64a9c6c13d2ced081a193701afcef363cb6085e42713316f241e895fa7d6168c"), looks := false }, kinds := [], alts := [], laidByText := true, laidKinds := [.data], laidTests := true, laidLooks := .later }
def SolidDoesUptoCardSaid : Prop := Claim7.holds Tryz.pinned (.plain (OpenSpec.upto solidDoesSpec)) solidDoesUptoCard

/-- THE SECOND FORM's CARD OF 'tansylaw15.SolidCuts'. -/
def solidCutsUptoCard : Claim7 := { stood := { row := solidCutsUptoRow, standIns := [], harness := (true, "64a9c6c13d2ced081a193701afcef363cb6085e42713316f241e895fa7d6168c"), looks := false }, kinds := [], alts := [], laidByText := true, laidKinds := [.data], laidTests := true, laidLooks := .later }
def SolidCutsUptoCardSaid : Prop := Claim7.holds Tryz.pinned (.plain (OpenSpec.upto solidCutsSpec)) solidCutsUptoCard
end Rows
end Go.Proofs.YtniibdglodnhoaaGreatDoor
