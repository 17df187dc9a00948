/-
  DERIVED. GIVEN WITH THE SEED: THE CARDS: each row of YtniibdglodnhoaaDoorRows.lean that lists a variable, with what it lists TIED to the program's text (the seventh form; the later family's looks); each row that meets fmt, with fmt's text TOLD by the authors' own Lean function (tested against real Go, not proved from fmt's source: count such statements apart). THE CARD IS WHAT COUNTS. Prove the row's statement (the work); the ties are given (YtniibdglodnhoaaDoorTie.lean); close each card by the builder's one call (the guide's Derived/Test/ToyasCard.lean, 'card_holds'). Laid BY PROGRAM, IN A SANDBOX (cutbox-door.mjs). By AI agents, Wed Nov 11 2026. No macro, syntax, notation, axiom, sorry.
-/
import Derived.Test.YtniibdglodnhoaaDoorRows
import GoSem.ClaimSeven
namespace Go.Proofs.YtniibdglodnhoaaDoor
namespace Rows

/-- THE TIED CARD OF 'tansylaw15.SolidRing'. -/
def solidRingCard : Claim7 := { stood := { row := solidRingRow, standIns := [], harness := (true, "5dc25c08fcdbe52051b7c4eb5f0fd753c5a15bff56237e677477615721b5733d"), looks := false }, kinds := [], alts := [], laidByText := true, laidKinds := [.data], laidTests := true, laidLooks := .later }
def SolidRingCardSaid : Prop := Claim7.holds Tryd.pinned (.plain (OpenSpec.ofChange solidRingSpec)) solidRingCard

/-- THE TIED CARD OF 'tansylaw15.SolidBack'. -/
def solidBackCard : Claim7 := { stood := { row := solidBackRow, standIns := [], harness := (true, "5dc25c08fcdbe52051b7c4eb5f0fd753c5a15bff56237e677477615721b5733d"), looks := false }, kinds := [], alts := [], laidByText := true, laidKinds := [.data], laidTests := true, laidLooks := .later }
def SolidBackCardSaid : Prop := Claim7.holds Tryd.pinned (.plain (OpenSpec.ofChange solidBackSpec)) solidBackCard

/-- THE TIED CARD OF 'tansylaw15.SolidTold'. -/
def solidToldCard : Claim7 := { stood := { row := solidToldRow, standIns := [], harness := (true, "5dc25c08fcdbe52051b7c4eb5f0fd753c5a15bff56237e677477615721b5733d"), looks := false }, kinds := [], alts := [], laidByText := true, laidKinds := [.data], laidTests := true, laidLooks := .later }
def SolidToldCardSaid : Prop := Claim7.holds Tryd.pinned (.plain (OpenSpec.ofChange solidToldSpec)) solidToldCard

/-- THE SECOND FORM's CARD OF 'tansylaw15.SolidRing'. -/
def solidRingUptoCard : Claim7 := { stood := { row := solidRingUptoRow, standIns := [], harness := (true, "5dc25c08fcdbe52051b7c4eb5f0fd753c5a15bff56237e677477615721b5733d"), looks := false }, kinds := [], alts := [], laidByText := true, laidKinds := [.data], laidTests := true, laidLooks := .later }
def SolidRingUptoCardSaid : Prop := Claim7.holds Tryd.pinned (.plain (OpenSpec.upto solidRingSpec)) solidRingUptoCard

/-- THE SECOND FORM's CARD OF 'tansylaw15.SolidBack'. -/
def solidBackUptoCard : Claim7 := { stood := { row := solidBackUptoRow, standIns := [], harness := (true, "5dc25c08fcdbe52051b7c4eb5f0fd753c5a15bff56237e677477615721b5733d"), looks := false }, kinds := [], alts := [], laidByText := true, laidKinds := [.data], laidTests := true, laidLooks := .later }
def SolidBackUptoCardSaid : Prop := Claim7.holds Tryd.pinned (.plain (OpenSpec.upto solidBackSpec)) solidBackUptoCard

/-- THE SECOND FORM's CARD OF 'tansylaw15.SolidTold'. -/
def solidToldUptoCard : Claim7 := { stood := { row := solidToldUptoRow, standIns := [], harness := (true, "5dc25c08fcdbe52051b7c4eb5f0fd753c5a15bff56237e677477615721b5733d"), looks := false }, kinds := [], alts := [], laidByText := true, laidKinds := [.data], laidTests := true, laidLooks := .later }
def SolidToldUptoCardSaid : Prop := Claim7.holds Tryd.pinned (.plain (OpenSpec.upto solidToldSpec)) solidToldUptoCard
end Rows
end Go.Proofs.YtniibdglodnhoaaDoor
