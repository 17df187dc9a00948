/-
  NARROWER THAN 'FOR EVERY INPUT', by the rows' own cells (each row's printed sentence says how): DeriveApart: laid · DeriveGoes: laid · DeriveKeys: laid · DeriveDoes: laid · DeriveMark: laid.
  DERIVED. THE GIVEN ROWS OF THIS SEAT. 5 by the template 'for every input the law returns true; each argument reads behind the call as it read before'; 0 by the template 'total and deterministic' (their statements: YtbgefpmnncaifaaDoorTotals.lean).
  GIVEN WITH THE SEED: the statements are not yours to turn. If you find one false, say at which input.
  Laid BY PROGRAM, IN A SANDBOX (cutbox-rows.mjs): the forced cells as the released guide's own fill.sh prints them over the translation 0274bb288cac7e16… (all of the seat's roots in one cut). By AI agents, Wed Nov 11 2026. No macro, syntax, notation, axiom, sorry.
-/
import Derived.Test.YtbgefpmnncaifaaDoorChecked
import GoSem.Claim
import GoSem.ClaimJoined
import GoSem.ClaimMapViews
import Derived.JoinedTies
import Derived.KernelRfl
namespace Go.Proofs.YtbgefpmnncaifaaDoor
/- THE CELL 'sum', in the pinned program and in every row, IS THE sha256 OF THE DUMP (.gsa) THAT YtbgefpmnncaifaaDoorProg.lean LOADS. Nothing in Lean hashes anything: it is a label: what it is worth is what the hold of that sum in a sandbox is worth. -/
noncomputable def Tryd.pinned : Pinned := { name := "ytbgefpmnncaifaadoor", sum := "0274bb288cac7e163aa48d60c249fc3e6fee360dc939c5066ead0d8c11e0950e", checked := Tryd.checked }
namespace Rows
def none {H : Type} : Left H := { results := [], args := [] }

/- WHAT THE LISTED PACKAGE-LEVEL VARIABLES READ AS WHEN THE CALL BEGINS. Each datum BY PROGRAM (the guide's laid-datum.mjs) off the statement by which the dump's own 'gosem.cut.vars' lays the variable. In a bare row this is a premise. The card (YtbgefpmnncaifaaDoorCards.lean) ties it to the program's text. -/
def laid_tansy_perm_turns {H : Type} : DataW H := .agg [.lit (.int .i64 16), .lit (.int .i64 12), .lit (.int .i64 8), .lit (.int .i64 7)]

/-- 'tansylaw10.DeriveApart': WHATEVER THE INPUT: true; the input reads as it did. -/
def deriveApartSpec : ChangeSpec := { name := "deriveApart", fn := fun _ => fun
  | [d1, d2, d3, d4, d5] => { results := [.lit (.bool true)], args := [d1, d2, d3, d4, d5] }
  | _ => none }
def deriveApartRow : OpenClaim := { program := "ytbgefpmnncaifaadoor", sum := "0274bb288cac7e163aa48d60c249fc3e6fee360dc939c5066ead0d8c11e0950e", func := "tansy/tansylaw10.DeriveApart", spec := "deriveApart", named := ["tansy/perm.turns"], apart := false, laid := [("tansy/perm.turns", laid_tansy_perm_turns)] }
def DeriveApartSaid : Prop := deriveApartRow.holds Tryd.pinned (OpenSpec.ofChange deriveApartSpec)

/-- ITS FALSE NEIGHBOUR: 'it returns false'. Refute it at one input. -/
def deriveApartWrong : ChangeSpec := { name := "deriveApart", fn := fun _ => fun
  | [d1, d2, d3, d4, d5] => { results := [.lit (.bool false)], args := [d1, d2, d3, d4, d5] }
  | _ => none }
def DeriveApartWrongFalsely : Prop := deriveApartRow.holds Tryd.pinned (OpenSpec.ofChange deriveApartWrong)

/-- 'tansylaw10.DeriveGoes': WHATEVER THE INPUT: true; the input reads as it did. -/
def deriveGoesSpec : ChangeSpec := { name := "deriveGoes", fn := fun _ => fun
  | [d1, d2, d3, d4, d5] => { results := [.lit (.bool true)], args := [d1, d2, d3, d4, d5] }
  | _ => none }
def deriveGoesRow : OpenClaim := { program := "ytbgefpmnncaifaadoor", sum := "0274bb288cac7e163aa48d60c249fc3e6fee360dc939c5066ead0d8c11e0950e", func := "tansy/tansylaw10.DeriveGoes", spec := "deriveGoes", named := ["tansy/perm.turns"], apart := false, laid := [("tansy/perm.turns", laid_tansy_perm_turns)] }
def DeriveGoesSaid : Prop := deriveGoesRow.holds Tryd.pinned (OpenSpec.ofChange deriveGoesSpec)

/-- ITS FALSE NEIGHBOUR: 'it returns false'. Refute it at one input. -/
def deriveGoesWrong : ChangeSpec := { name := "deriveGoes", fn := fun _ => fun
  | [d1, d2, d3, d4, d5] => { results := [.lit (.bool false)], args := [d1, d2, d3, d4, d5] }
  | _ => none }
def DeriveGoesWrongFalsely : Prop := deriveGoesRow.holds Tryd.pinned (OpenSpec.ofChange deriveGoesWrong)

/-- 'tansylaw10.DeriveKeys': WHATEVER THE INPUT: true; the input reads as it did. -/
def deriveKeysSpec : ChangeSpec := { name := "deriveKeys", fn := fun _ => fun
  | [d1, d2, d3, d4] => { results := [.lit (.bool true)], args := [d1, d2, d3, d4] }
  | _ => none }
def deriveKeysRow : OpenClaim := { program := "ytbgefpmnncaifaadoor", sum := "0274bb288cac7e163aa48d60c249fc3e6fee360dc939c5066ead0d8c11e0950e", func := "tansy/tansylaw10.DeriveKeys", spec := "deriveKeys", named := ["tansy/perm.turns"], apart := false, laid := [("tansy/perm.turns", laid_tansy_perm_turns)] }
def DeriveKeysSaid : Prop := deriveKeysRow.holds Tryd.pinned (OpenSpec.ofChange deriveKeysSpec)

/-- ITS FALSE NEIGHBOUR: 'it returns false'. Refute it at one input. -/
def deriveKeysWrong : ChangeSpec := { name := "deriveKeys", fn := fun _ => fun
  | [d1, d2, d3, d4] => { results := [.lit (.bool false)], args := [d1, d2, d3, d4] }
  | _ => none }
def DeriveKeysWrongFalsely : Prop := deriveKeysRow.holds Tryd.pinned (OpenSpec.ofChange deriveKeysWrong)

/-- 'tansylaw10.DeriveDoes': WHATEVER THE INPUT: true; the input reads as it did. -/
def deriveDoesSpec : ChangeSpec := { name := "deriveDoes", fn := fun _ => fun
  | [d1, d2, d3, d4] => { results := [.lit (.bool true)], args := [d1, d2, d3, d4] }
  | _ => none }
def deriveDoesRow : OpenClaim := { program := "ytbgefpmnncaifaadoor", sum := "0274bb288cac7e163aa48d60c249fc3e6fee360dc939c5066ead0d8c11e0950e", func := "tansy/tansylaw10.DeriveDoes", spec := "deriveDoes", named := ["tansy/perm.turns"], apart := false, laid := [("tansy/perm.turns", laid_tansy_perm_turns)] }
def DeriveDoesSaid : Prop := deriveDoesRow.holds Tryd.pinned (OpenSpec.ofChange deriveDoesSpec)

/-- ITS FALSE NEIGHBOUR: 'it returns false'. Refute it at one input. -/
def deriveDoesWrong : ChangeSpec := { name := "deriveDoes", fn := fun _ => fun
  | [d1, d2, d3, d4] => { results := [.lit (.bool false)], args := [d1, d2, d3, d4] }
  | _ => none }
def DeriveDoesWrongFalsely : Prop := deriveDoesRow.holds Tryd.pinned (OpenSpec.ofChange deriveDoesWrong)

/-- 'tansylaw10.DeriveMark': WHATEVER THE INPUT: true; the input reads as it did. -/
def deriveMarkSpec : ChangeSpec := { name := "deriveMark", fn := fun _ => fun
  | [d1, d2, d3] => { results := [.lit (.bool true)], args := [d1, d2, d3] }
  | _ => none }
def deriveMarkRow : OpenClaim := { program := "ytbgefpmnncaifaadoor", sum := "0274bb288cac7e163aa48d60c249fc3e6fee360dc939c5066ead0d8c11e0950e", func := "tansy/tansylaw10.DeriveMark", spec := "deriveMark", named := ["tansy/perm.turns"], apart := false, laid := [("tansy/perm.turns", laid_tansy_perm_turns)] }
def DeriveMarkSaid : Prop := deriveMarkRow.holds Tryd.pinned (OpenSpec.ofChange deriveMarkSpec)

/-- ITS FALSE NEIGHBOUR: 'it returns false'. Refute it at one input. -/
def deriveMarkWrong : ChangeSpec := { name := "deriveMark", fn := fun _ => fun
  | [d1, d2, d3] => { results := [.lit (.bool false)], args := [d1, d2, d3] }
  | _ => none }
def DeriveMarkWrongFalsely : Prop := deriveMarkRow.holds Tryd.pinned (OpenSpec.ofChange deriveMarkWrong)

/- THE SECOND FORM. 'bulk': how many values and letters a reading holds, each counted each time it is reached (what is shared counts as often as it is met; a slice's spare places count too). A statement '..UptoSaid' is the law's where the arguments, and the package variables that the reading takes, are together of bulk at most 1048576: NARROWER than '..Said'. Prove '..Said' where nothing that the law and all that it calls make is longer than what came in: it says more and counts as full. Else prove '..UptoSaid'. A law counts once. -/
mutual
def uptoBulk {H : Type} : DataW H → Nat
  | .lit (.string bytes) => bytes.length + 1
  | .lit _ => 1
  | .nil => 1
  | .ptr d => uptoBulk d + 1
  | .slice elems spare => uptoBulkAll elems + uptoBulkAll spare + 1
  | .agg parts => uptoBulkAll parts + 1
  | .iface _ d => uptoBulk d + 1
  | .map entries => uptoBulkEntries entries + 1
  | .held _ => 1
def uptoBulkAll {H : Type} : List (DataW H) → Nat
  | [] => 0
  | d :: r => uptoBulk d + uptoBulkAll r
def uptoBulkEntries {H : Type} : List (Lit × DataW H) → Nat
  | [] => 0
  | x :: r => uptoBulkEntry x + uptoBulkEntries r
def uptoBulkEntry {H : Type} : Lit × DataW H → Nat
  | (.string bytes, d) => bytes.length + uptoBulk d + 1
  | (_, d) => uptoBulk d + 1
 end
def uptoSmall : (H : Type) → List (DataW H) → Bool := fun _ ds => decide (uptoBulkAll ds ≤ 1048576)
def OpenSpec.upto (s : _root_.Go.ChangeSpec) : _root_.Go.OpenSpec := { _root_.Go.OpenSpec.ofChange s with cond := some uptoSmall }

/-- 'tansylaw10.DeriveApart', WHERE WHAT IT READS IS OF BULK AT MOST 1048576: true; the input reads as it did. -/
def deriveApartUptoRow : OpenClaim := { program := "ytbgefpmnncaifaadoor", sum := "0274bb288cac7e163aa48d60c249fc3e6fee360dc939c5066ead0d8c11e0950e", func := "tansy/tansylaw10.DeriveApart", spec := "deriveApart", named := ["tansy/perm.turns"], apart := false, laid := [("tansy/perm.turns", laid_tansy_perm_turns)], narrowed := true }
def DeriveApartUptoSaid : Prop := deriveApartUptoRow.holds Tryd.pinned (OpenSpec.upto deriveApartSpec)

/-- 'tansylaw10.DeriveGoes', WHERE WHAT IT READS IS OF BULK AT MOST 1048576: true; the input reads as it did. -/
def deriveGoesUptoRow : OpenClaim := { program := "ytbgefpmnncaifaadoor", sum := "0274bb288cac7e163aa48d60c249fc3e6fee360dc939c5066ead0d8c11e0950e", func := "tansy/tansylaw10.DeriveGoes", spec := "deriveGoes", named := ["tansy/perm.turns"], apart := false, laid := [("tansy/perm.turns", laid_tansy_perm_turns)], narrowed := true }
def DeriveGoesUptoSaid : Prop := deriveGoesUptoRow.holds Tryd.pinned (OpenSpec.upto deriveGoesSpec)

/-- 'tansylaw10.DeriveKeys', WHERE WHAT IT READS IS OF BULK AT MOST 1048576: true; the input reads as it did. -/
def deriveKeysUptoRow : OpenClaim := { program := "ytbgefpmnncaifaadoor", sum := "0274bb288cac7e163aa48d60c249fc3e6fee360dc939c5066ead0d8c11e0950e", func := "tansy/tansylaw10.DeriveKeys", spec := "deriveKeys", named := ["tansy/perm.turns"], apart := false, laid := [("tansy/perm.turns", laid_tansy_perm_turns)], narrowed := true }
def DeriveKeysUptoSaid : Prop := deriveKeysUptoRow.holds Tryd.pinned (OpenSpec.upto deriveKeysSpec)

/-- 'tansylaw10.DeriveDoes', WHERE WHAT IT READS IS OF BULK AT MOST 1048576: true; the input reads as it did. -/
def deriveDoesUptoRow : OpenClaim := { program := "ytbgefpmnncaifaadoor", sum := "0274bb288cac7e163aa48d60c249fc3e6fee360dc939c5066ead0d8c11e0950e", func := "tansy/tansylaw10.DeriveDoes", spec := "deriveDoes", named := ["tansy/perm.turns"], apart := false, laid := [("tansy/perm.turns", laid_tansy_perm_turns)], narrowed := true }
def DeriveDoesUptoSaid : Prop := deriveDoesUptoRow.holds Tryd.pinned (OpenSpec.upto deriveDoesSpec)

/-- 'tansylaw10.DeriveMark', WHERE WHAT IT READS IS OF BULK AT MOST 1048576: true; the input reads as it did. -/
def deriveMarkUptoRow : OpenClaim := { program := "ytbgefpmnncaifaadoor", sum := "0274bb288cac7e163aa48d60c249fc3e6fee360dc939c5066ead0d8c11e0950e", func := "tansy/tansylaw10.DeriveMark", spec := "deriveMark", named := ["tansy/perm.turns"], apart := false, laid := [("tansy/perm.turns", laid_tansy_perm_turns)], narrowed := true }
def DeriveMarkUptoSaid : Prop := deriveMarkUptoRow.holds Tryd.pinned (OpenSpec.upto deriveMarkSpec)

end Rows
end Go.Proofs.YtbgefpmnncaifaaDoor
