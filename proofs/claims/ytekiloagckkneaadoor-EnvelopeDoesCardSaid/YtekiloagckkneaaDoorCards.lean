/-
  DERIVED. GIVEN WITH THE SEED: THE CARDS: each row of YtekiloagckkneaaDoorRows.lean that lists a variable, with what it lists TIED to the program's text (the seventh form; the later family's looks); each row that meets fmt, with fmt's text TOLD by the authors' own Lean function (tested against real Go, not proved from fmt's source: count such statements apart). THE CARD IS WHAT COUNTS. Prove the row's statement (the work); the ties are given (YtekiloagckkneaaDoorTie.lean); close each card by the builder's one call (the guide's Derived/Test/ToyasCard.lean, 'card_holds'). Laid BY PROGRAM, IN A SANDBOX (cutbox-door.mjs). By AI agents, Wed Nov 11 2026. No macro, syntax, notation, axiom, sorry.
-/
import Derived.Test.YtekiloagckkneaaDoorRows
import GoSem.ClaimSeven
namespace Go.Proofs.YtekiloagckkneaaDoor
namespace Rows

/-- THE TIED CARD OF 'tansylaw09.EnvelopeTag'. -/
def envelopeTagCard : Claim7 := { stood := { row := envelopeTagRow, standIns := [], harness := (true, "b4b2a56d1f608b2e4a494a0f6ab1a88c4468e8791e7d80f9e4e63a22a112ff4d"), looks := false }, kinds := [], alts := [], laidByText := true, laidKinds := [.data], laidTests := true, laidLooks := .later }
def EnvelopeTagCardSaid : Prop := Claim7.holds Tryd.pinned (.plain (OpenSpec.ofChange envelopeTagSpec)) envelopeTagCard

/-- THE TIED CARD OF 'tansylaw09.EnvelopeRing'. -/
def envelopeRingCard : Claim7 := { stood := { row := envelopeRingRow, standIns := [], harness := (true, "b4b2a56d1f608b2e4a494a0f6ab1a88c4468e8791e7d80f9e4e63a22a112ff4d"), looks := false }, kinds := [], alts := [], laidByText := true, laidKinds := [.data], laidTests := true, laidLooks := .later }
def EnvelopeRingCardSaid : Prop := Claim7.holds Tryd.pinned (.plain (OpenSpec.ofChange envelopeRingSpec)) envelopeRingCard

/-- THE TIED CARD OF 'tansylaw09.EnvelopeStream'. -/
def envelopeStreamCard : Claim7 := { stood := { row := envelopeStreamRow, standIns := [], harness := (true, "b4b2a56d1f608b2e4a494a0f6ab1a88c4468e8791e7d80f9e4e63a22a112ff4d"), looks := false }, kinds := [], alts := [], laidByText := true, laidKinds := [.data], laidTests := true, laidLooks := .later }
def EnvelopeStreamCardSaid : Prop := Claim7.holds Tryd.pinned (.plain (OpenSpec.ofChange envelopeStreamSpec)) envelopeStreamCard

/-- THE TIED CARD OF 'tansylaw09.EnvelopeBack'. -/
def envelopeBackCard : Claim7 := { stood := { row := envelopeBackRow, standIns := [], harness := (true, "b4b2a56d1f608b2e4a494a0f6ab1a88c4468e8791e7d80f9e4e63a22a112ff4d"), looks := false }, kinds := [], alts := [], laidByText := true, laidKinds := [.data], laidTests := true, laidLooks := .later }
def EnvelopeBackCardSaid : Prop := Claim7.holds Tryd.pinned (.plain (OpenSpec.ofChange envelopeBackSpec)) envelopeBackCard

/-- THE TIED CARD OF 'tansylaw09.EnvelopeDoes'. -/
def envelopeDoesCard : Claim7 := { stood := { row := envelopeDoesRow, standIns := [], harness := (true, "b4b2a56d1f608b2e4a494a0f6ab1a88c4468e8791e7d80f9e4e63a22a112ff4d"), looks := false }, kinds := [], alts := [], laidByText := true, laidKinds := [.data], laidTests := true, laidLooks := .later }
def EnvelopeDoesCardSaid : Prop := Claim7.holds Tryd.pinned (.plain (OpenSpec.ofChange envelopeDoesSpec)) envelopeDoesCard

/-- THE TIED CARD OF 'tansylaw09.EnvelopeBytes'. -/
def envelopeBytesCard : Claim7 := { stood := { row := envelopeBytesRow, standIns := [], harness := (true, "b4b2a56d1f608b2e4a494a0f6ab1a88c4468e8791e7d80f9e4e63a22a112ff4d"), looks := false }, kinds := [], alts := [], laidByText := true, laidKinds := [.data], laidTests := true, laidLooks := .later }
def EnvelopeBytesCardSaid : Prop := Claim7.holds Tryd.pinned (.plain (OpenSpec.ofChange envelopeBytesSpec)) envelopeBytesCard

/-- THE SECOND FORM's CARD OF 'tansylaw09.EnvelopeTag'. -/
def envelopeTagUptoCard : Claim7 := { stood := { row := envelopeTagUptoRow, standIns := [], harness := (true, "b4b2a56d1f608b2e4a494a0f6ab1a88c4468e8791e7d80f9e4e63a22a112ff4d"), looks := false }, kinds := [], alts := [], laidByText := true, laidKinds := [.data], laidTests := true, laidLooks := .later }
def EnvelopeTagUptoCardSaid : Prop := Claim7.holds Tryd.pinned (.plain (OpenSpec.upto envelopeTagSpec)) envelopeTagUptoCard

/-- THE SECOND FORM's CARD OF 'tansylaw09.EnvelopeRing'. -/
def envelopeRingUptoCard : Claim7 := { stood := { row := envelopeRingUptoRow, standIns := [], harness := (true, "b4b2a56d1f608b2e4a494a0f6ab1a88c4468e8791e7d80f9e4e63a22a112ff4d"), looks := false }, kinds := [], alts := [], laidByText := true, laidKinds := [.data], laidTests := true, laidLooks := .later }
def EnvelopeRingUptoCardSaid : Prop := Claim7.holds Tryd.pinned (.plain (OpenSpec.upto envelopeRingSpec)) envelopeRingUptoCard

/-- THE SECOND FORM's CARD OF 'tansylaw09.EnvelopeStream'. -/
def envelopeStreamUptoCard : Claim7 := { stood := { row := envelopeStreamUptoRow, standIns := [], harness := (true, "b4b2a56d1f608b2e4a494a0f6ab1a88c4468e8791e7d80f9e4e63a22a112ff4d"), looks := false }, kinds := [], alts := [], laidByText := true, laidKinds := [.data], laidTests := true, laidLooks := .later }
def EnvelopeStreamUptoCardSaid : Prop := Claim7.holds Tryd.pinned (.plain (OpenSpec.upto envelopeStreamSpec)) envelopeStreamUptoCard

/-- THE SECOND FORM's CARD OF 'tansylaw09.EnvelopeBack'. -/
def envelopeBackUptoCard : Claim7 := { stood := { row := envelopeBackUptoRow, standIns := [], harness := (true, "b4b2a56d1f608b2e4a494a0f6ab1a88c4468e8791e7d80f9e4e63a22a112ff4d"), looks := false }, kinds := [], alts := [], laidByText := true, laidKinds := [.data], laidTests := true, laidLooks := .later }
def EnvelopeBackUptoCardSaid : Prop := Claim7.holds Tryd.pinned (.plain (OpenSpec.upto envelopeBackSpec)) envelopeBackUptoCard

/-- THE SECOND FORM's CARD OF 'tansylaw09.EnvelopeDoes'. -/
def envelopeDoesUptoCard : Claim7 := { stood := { row := envelopeDoesUptoRow, standIns := [], harness := (true, "b4b2a56d1f608b2e4a494a0f6ab1a88c4468e8791e7d80f9e4e63a22a112ff4d"), looks := false }, kinds := [], alts := [], laidByText := true, laidKinds := [.data], laidTests := true, laidLooks := .later }
def EnvelopeDoesUptoCardSaid : Prop := Claim7.holds Tryd.pinned (.plain (OpenSpec.upto envelopeDoesSpec)) envelopeDoesUptoCard

/-- THE SECOND FORM's CARD OF 'tansylaw09.EnvelopeBytes'. -/
def envelopeBytesUptoCard : Claim7 := { stood := { row := envelopeBytesUptoRow, standIns := [], harness := (true, "b4b2a56d1f608b2e4a494a0f6ab1a88c4468e8791e7d80f9e4e63a22a112ff4d"), looks := false }, kinds := [], alts := [], laidByText := true, laidKinds := [.data], laidTests := true, laidLooks := .later }
def EnvelopeBytesUptoCardSaid : Prop := Claim7.holds Tryd.pinned (.plain (OpenSpec.upto envelopeBytesSpec)) envelopeBytesUptoCard
end Rows
end Go.Proofs.YtekiloagckkneaaDoor
