/-
  DERIVED. GIVEN WITH THE SEED: THE CARDS: each row of YtjbbeflmfacmlaaDoorRows.lean that lists a variable, with what it lists TIED to the program's text (the seventh form; the later family's looks); each row that meets fmt, with fmt's text TOLD by the authors' own Lean function (tested against real Go, not proved from fmt's source: count such statements apart). THE CARD IS WHAT COUNTS. Prove the row's statement (the work); the ties are given (YtjbbeflmfacmlaaDoorTie.lean); close each card by the builder's one call (the guide's Derived/Test/ToyasCard.lean, 'card_holds'). Laid BY PROGRAM, IN A SANDBOX (cutbox-door.mjs). By AI agents, Wed Nov 11 2026. No macro, syntax, notation, axiom, sorry.
-/
import Derived.Test.YtjbbeflmfacmlaaDoorRows
import GoSem.ClaimSeven
namespace Go.Proofs.YtjbbeflmfacmlaaDoor
namespace Rows

/-- THE TIED CARD OF 'tansylaw08.PermDoes'. -/
def permDoesCard : Claim7 := { stood := { row := permDoesRow, standIns := [], harness := (true, "d63d722cd880605c96c8723eaaf934c79453419bb34e9cc5bba7f5a845e7cda6"), looks := false }, kinds := [], alts := [], laidByText := true, laidKinds := [.data], laidTests := true, laidLooks := .later }
def PermDoesCardSaid : Prop := Claim7.holds Tryd.pinned (.plain (OpenSpec.ofChange permDoesSpec)) permDoesCard

/-- THE TIED CARD OF 'tansylaw08.PermFewer'. -/
def permFewerCard : Claim7 := { stood := { row := permFewerRow, standIns := [], harness := (true, "d63d722cd880605c96c8723eaaf934c79453419bb34e9cc5bba7f5a845e7cda6"), looks := false }, kinds := [], alts := [], laidByText := true, laidKinds := [.data], laidTests := true, laidLooks := .later }
def PermFewerCardSaid : Prop := Claim7.holds Tryd.pinned (.plain (OpenSpec.ofChange permFewerSpec)) permFewerCard

/-- THE TIED CARD OF 'tansylaw08.PermBack'. -/
def permBackCard : Claim7 := { stood := { row := permBackRow, standIns := [], harness := (true, "d63d722cd880605c96c8723eaaf934c79453419bb34e9cc5bba7f5a845e7cda6"), looks := false }, kinds := [], alts := [], laidByText := true, laidKinds := [.data], laidTests := true, laidLooks := .later }
def PermBackCardSaid : Prop := Claim7.holds Tryd.pinned (.plain (OpenSpec.ofChange permBackSpec)) permBackCard

/-- THE TIED CARD OF 'tansylaw08.PermApart'. -/
def permApartCard : Claim7 := { stood := { row := permApartRow, standIns := [], harness := (true, "d63d722cd880605c96c8723eaaf934c79453419bb34e9cc5bba7f5a845e7cda6"), looks := false }, kinds := [], alts := [], laidByText := true, laidKinds := [.data], laidTests := true, laidLooks := .later }
def PermApartCardSaid : Prop := Claim7.holds Tryd.pinned (.plain (OpenSpec.ofChange permApartSpec)) permApartCard

/-- THE TIED CARD OF 'tansylaw08.PermBlocks'. -/
def permBlocksCard : Claim7 := { stood := { row := permBlocksRow, standIns := [], harness := (true, "d63d722cd880605c96c8723eaaf934c79453419bb34e9cc5bba7f5a845e7cda6"), looks := false }, kinds := [], alts := [], laidByText := true, laidKinds := [.data], laidTests := true, laidLooks := .later }
def PermBlocksCardSaid : Prop := Claim7.holds Tryd.pinned (.plain (OpenSpec.ofChange permBlocksSpec)) permBlocksCard

/-- THE SECOND FORM's CARD OF 'tansylaw08.PermDoes'. -/
def permDoesUptoCard : Claim7 := { stood := { row := permDoesUptoRow, standIns := [], harness := (true, "d63d722cd880605c96c8723eaaf934c79453419bb34e9cc5bba7f5a845e7cda6"), looks := false }, kinds := [], alts := [], laidByText := true, laidKinds := [.data], laidTests := true, laidLooks := .later }
def PermDoesUptoCardSaid : Prop := Claim7.holds Tryd.pinned (.plain (OpenSpec.upto permDoesSpec)) permDoesUptoCard

/-- THE SECOND FORM's CARD OF 'tansylaw08.PermFewer'. -/
def permFewerUptoCard : Claim7 := { stood := { row := permFewerUptoRow, standIns := [], harness := (true, "d63d722cd880605c96c8723eaaf934c79453419bb34e9cc5bba7f5a845e7cda6"), looks := false }, kinds := [], alts := [], laidByText := true, laidKinds := [.data], laidTests := true, laidLooks := .later }
def PermFewerUptoCardSaid : Prop := Claim7.holds Tryd.pinned (.plain (OpenSpec.upto permFewerSpec)) permFewerUptoCard

/-- THE SECOND FORM's CARD OF 'tansylaw08.PermBack'. -/
def permBackUptoCard : Claim7 := { stood := { row := permBackUptoRow, standIns := [], harness := (true, "d63d722cd880605c96c8723eaaf934c79453419bb34e9cc5bba7f5a845e7cda6"), looks := false }, kinds := [], alts := [], laidByText := true, laidKinds := [.data], laidTests := true, laidLooks := .later }
def PermBackUptoCardSaid : Prop := Claim7.holds Tryd.pinned (.plain (OpenSpec.upto permBackSpec)) permBackUptoCard

/-- THE SECOND FORM's CARD OF 'tansylaw08.PermApart'. -/
def permApartUptoCard : Claim7 := { stood := { row := permApartUptoRow, standIns := [], harness := (true, "d63d722cd880605c96c8723eaaf934c79453419bb34e9cc5bba7f5a845e7cda6"), looks := false }, kinds := [], alts := [], laidByText := true, laidKinds := [.data], laidTests := true, laidLooks := .later }
def PermApartUptoCardSaid : Prop := Claim7.holds Tryd.pinned (.plain (OpenSpec.upto permApartSpec)) permApartUptoCard

/-- THE SECOND FORM's CARD OF 'tansylaw08.PermBlocks'. -/
def permBlocksUptoCard : Claim7 := { stood := { row := permBlocksUptoRow, standIns := [], harness := (true, "d63d722cd880605c96c8723eaaf934c79453419bb34e9cc5bba7f5a845e7cda6"), looks := false }, kinds := [], alts := [], laidByText := true, laidKinds := [.data], laidTests := true, laidLooks := .later }
def PermBlocksUptoCardSaid : Prop := Claim7.holds Tryd.pinned (.plain (OpenSpec.upto permBlocksSpec)) permBlocksUptoCard
end Rows
end Go.Proofs.YtjbbeflmfacmlaaDoor
