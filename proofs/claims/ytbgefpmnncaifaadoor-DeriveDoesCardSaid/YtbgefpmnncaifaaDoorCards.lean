/-
  DERIVED. GIVEN WITH THE SEED: THE CARDS: each row of YtbgefpmnncaifaaDoorRows.lean that lists a variable, with what it lists TIED to the program's text (the seventh form; the later family's looks); each row that meets fmt, with fmt's text TOLD by the authors' own Lean function (tested against real Go, not proved from fmt's source: count such statements apart). THE CARD IS WHAT COUNTS. Prove the row's statement (the work); the ties are given (YtbgefpmnncaifaaDoorTie.lean); close each card by the builder's one call (the guide's Derived/Test/ToyasCard.lean, 'card_holds'). Laid BY PROGRAM, IN A SANDBOX (cutbox-door.mjs). By AI agents, Wed Nov 11 2026. No macro, syntax, notation, axiom, sorry.
-/
import Derived.Test.YtbgefpmnncaifaaDoorRows
import GoSem.ClaimSeven
namespace Go.Proofs.YtbgefpmnncaifaaDoor
namespace Rows

/-- THE TIED CARD OF 'tansylaw10.DeriveApart'. -/
def deriveApartCard : Claim7 := { stood := { row := deriveApartRow, standIns := [], harness := (true, "cb4186c97acaacc2197cfe91311d348f55b18576b3d80874bef8bc50ab3b4eb5"), looks := false }, kinds := [], alts := [], laidByText := true, laidKinds := [.data], laidTests := true, laidLooks := .later }
def DeriveApartCardSaid : Prop := Claim7.holds Tryd.pinned (.plain (OpenSpec.ofChange deriveApartSpec)) deriveApartCard

/-- THE TIED CARD OF 'tansylaw10.DeriveGoes'. -/
def deriveGoesCard : Claim7 := { stood := { row := deriveGoesRow, standIns := [], harness := (true, "cb4186c97acaacc2197cfe91311d348f55b18576b3d80874bef8bc50ab3b4eb5"), looks := false }, kinds := [], alts := [], laidByText := true, laidKinds := [.data], laidTests := true, laidLooks := .later }
def DeriveGoesCardSaid : Prop := Claim7.holds Tryd.pinned (.plain (OpenSpec.ofChange deriveGoesSpec)) deriveGoesCard

/-- THE TIED CARD OF 'tansylaw10.DeriveKeys'. -/
def deriveKeysCard : Claim7 := { stood := { row := deriveKeysRow, standIns := [], harness := (true, "cb4186c97acaacc2197cfe91311d348f55b18576b3d80874bef8bc50ab3b4eb5"), looks := false }, kinds := [], alts := [], laidByText := true, laidKinds := [.data], laidTests := true, laidLooks := .later }
def DeriveKeysCardSaid : Prop := Claim7.holds Tryd.pinned (.plain (OpenSpec.ofChange deriveKeysSpec)) deriveKeysCard

/-- THE TIED CARD OF 'tansylaw10.DeriveDoes'. -/
def deriveDoesCard : Claim7 := { stood := { row := deriveDoesRow, standIns := [], harness := (true, "cb4186c97acaacc2197cfe91311d348f55b18576b3d80874bef8bc50ab3b4eb5"), looks := false }, kinds := [], alts := [], laidByText := true, laidKinds := [.data], laidTests := true, laidLooks := .later }
def DeriveDoesCardSaid : Prop := Claim7.holds Tryd.pinned (.plain (OpenSpec.ofChange deriveDoesSpec)) deriveDoesCard

/-- THE TIED CARD OF 'tansylaw10.DeriveMark'. -/
def deriveMarkCard : Claim7 := { stood := { row := deriveMarkRow, standIns := [], harness := (true, "cb4186c97acaacc2197cfe91311d348f55b18576b3d80874bef8bc50ab3b4eb5"), looks := false }, kinds := [], alts := [], laidByText := true, laidKinds := [.data], laidTests := true, laidLooks := .later }
def DeriveMarkCardSaid : Prop := Claim7.holds Tryd.pinned (.plain (OpenSpec.ofChange deriveMarkSpec)) deriveMarkCard

/-- THE SECOND FORM's CARD OF 'tansylaw10.DeriveApart'. -/
def deriveApartUptoCard : Claim7 := { stood := { row := deriveApartUptoRow, standIns := [], harness := (true, "cb4186c97acaacc2197cfe91311d348f55b18576b3d80874bef8bc50ab3b4eb5"), looks := false }, kinds := [], alts := [], laidByText := true, laidKinds := [.data], laidTests := true, laidLooks := .later }
def DeriveApartUptoCardSaid : Prop := Claim7.holds Tryd.pinned (.plain (OpenSpec.upto deriveApartSpec)) deriveApartUptoCard

/-- THE SECOND FORM's CARD OF 'tansylaw10.DeriveGoes'. -/
def deriveGoesUptoCard : Claim7 := { stood := { row := deriveGoesUptoRow, standIns := [], harness := (true, "cb4186c97acaacc2197cfe91311d348f55b18576b3d80874bef8bc50ab3b4eb5"), looks := false }, kinds := [], alts := [], laidByText := true, laidKinds := [.data], laidTests := true, laidLooks := .later }
def DeriveGoesUptoCardSaid : Prop := Claim7.holds Tryd.pinned (.plain (OpenSpec.upto deriveGoesSpec)) deriveGoesUptoCard

/-- THE SECOND FORM's CARD OF 'tansylaw10.DeriveKeys'. -/
def deriveKeysUptoCard : Claim7 := { stood := { row := deriveKeysUptoRow, standIns := [], harness := (true, "cb4186c97acaacc2197cfe91311d348f55b18576b3d80874bef8bc50ab3b4eb5"), looks := false }, kinds := [], alts := [], laidByText := true, laidKinds := [.data], laidTests := true, laidLooks := .later }
def DeriveKeysUptoCardSaid : Prop := Claim7.holds Tryd.pinned (.plain (OpenSpec.upto deriveKeysSpec)) deriveKeysUptoCard

/-- THE SECOND FORM's CARD OF 'tansylaw10.DeriveDoes'. -/
def deriveDoesUptoCard : Claim7 := { stood := { row := deriveDoesUptoRow, standIns := [], harness := (true, "cb4186c97acaacc2197cfe91311d348f55b18576b3d80874bef8bc50ab3b4eb5"), looks := false }, kinds := [], alts := [], laidByText := true, laidKinds := [.data], laidTests := true, laidLooks := .later }
def DeriveDoesUptoCardSaid : Prop := Claim7.holds Tryd.pinned (.plain (OpenSpec.upto deriveDoesSpec)) deriveDoesUptoCard

/-- THE SECOND FORM's CARD OF 'tansylaw10.DeriveMark'. -/
def deriveMarkUptoCard : Claim7 := { stood := { row := deriveMarkUptoRow, standIns := [], harness := (true, "cb4186c97acaacc2197cfe91311d348f55b18576b3d80874bef8bc50ab3b4eb5"), looks := false }, kinds := [], alts := [], laidByText := true, laidKinds := [.data], laidTests := true, laidLooks := .later }
def DeriveMarkUptoCardSaid : Prop := Claim7.holds Tryd.pinned (.plain (OpenSpec.upto deriveMarkSpec)) deriveMarkUptoCard
end Rows
end Go.Proofs.YtbgefpmnncaifaaDoor
