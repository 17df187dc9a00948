/-
  NARROWER THAN 'FOR EVERY INPUT', by the rows' own cells (each row's printed sentence says how): SolidDoes: laid · SolidCuts: laid.
  DERIVED. THE GIVEN ROWS OF THIS SEAT. 2 by the template 'for every input the law returns true; each argument reads behind the call as it read before'; 0 by the template 'total and deterministic' (their statements: YtniibdglodnhoaaGreatDoorTotals.lean).
  GIVEN WITH THE SEED: the statements are not yours to turn. If you find one false, say at which input.
  Laid BY PROGRAM, IN A SANDBOX (cutbox-rows.mjs): the forced cells as the released guide's own fill.sh prints them over the translation d4a0753c36610e88… (all of the seat's roots in one cut). By AI agents, Wed Nov 11 2026. No macro, syntax, notation, axiom, sorry.
-/
import Derived.Test.YtniibdglodnhoaaGreatDoorChecked
import GoSem.Claim
import GoSem.ClaimJoined
import GoSem.ClaimMapViews
import Derived.JoinedTies
import Derived.KernelRfl
namespace Go.Proofs.YtniibdglodnhoaaGreatDoor
/- THE CELL 'sum', in the pinned program and in every row, IS THE sha256 OF THE DUMP (.gsa) THAT YtniibdglodnhoaaGreatDoorProg.lean LOADS. Nothing in Lean hashes anything: it is a label: what it is worth is what the hold of that sum in a sandbox is worth. -/
noncomputable def Tryz.pinned : Pinned := { name := "ytniibdglodnhoaagreatdoor", sum := "d4a0753c36610e88bf477fc7fa49d701ab31d21c5e40968356a9b22614121686", checked := Tryz.checked }
namespace Rows
def none {H : Type} : Left H := { results := [], args := [] }

/- WHAT THE LISTED PACKAGE-LEVEL VARIABLES READ AS WHEN THE CALL BEGINS. Each datum BY PROGRAM (the guide's laid-datum.mjs) off the statement by which the dump's own 'gosem.cut.vars' lays the variable. In a bare row this is a premise. The card (YtniibdglodnhoaaGreatDoorCards.lean) ties it to the program's text. -/
def laid_tansy_perm_turns {H : Type} : DataW H := .agg [.lit (.int .i64 16), .lit (.int .i64 12), .lit (.int .i64 8), .lit (.int .i64 7)]

/-- 'tansylaw15.SolidDoes': WHATEVER THE INPUT: true; the input reads as it did. -/
def solidDoesSpec : ChangeSpec := { name := "solidDoes", fn := fun _ => fun
  | [d1, d2, d3] => { results := [.lit (.bool true)], args := [d1, d2, d3] }
  | _ => none }
def solidDoesRow : OpenClaim := { program := "ytniibdglodnhoaagreatdoor", sum := "d4a0753c36610e88bf477fc7fa49d701ab31d21c5e40968356a9b22614121686", func := "tansy/tansylaw15.SolidDoes", spec := "solidDoes", unfollowed := true, recurses := true, named := ["tansy/perm.turns"], apart := false, laid := [("tansy/perm.turns", laid_tansy_perm_turns)] }
def SolidDoesSaid : Prop := solidDoesRow.holds Tryz.pinned (OpenSpec.ofChange solidDoesSpec)

/-- ITS FALSE NEIGHBOUR: 'it returns false'. Refute it at one input. -/
def solidDoesWrong : ChangeSpec := { name := "solidDoes", fn := fun _ => fun
  | [d1, d2, d3] => { results := [.lit (.bool false)], args := [d1, d2, d3] }
  | _ => none }
def SolidDoesWrongFalsely : Prop := solidDoesRow.holds Tryz.pinned (OpenSpec.ofChange solidDoesWrong)

/-- 'tansylaw15.SolidCuts': WHATEVER THE INPUT: true; the input reads as it did. -/
def solidCutsSpec : ChangeSpec := { name := "solidCuts", fn := fun _ => fun
  | [d1, d2, d3] => { results := [.lit (.bool true)], args := [d1, d2, d3] }
  | _ => none }
def solidCutsRow : OpenClaim := { program := "ytniibdglodnhoaagreatdoor", sum := "d4a0753c36610e88bf477fc7fa49d701ab31d21c5e40968356a9b22614121686", func := "tansy/tansylaw15.SolidCuts", spec := "solidCuts", unfollowed := true, recurses := true, named := ["tansy/perm.turns"], apart := false, laid := [("tansy/perm.turns", laid_tansy_perm_turns)] }
def SolidCutsSaid : Prop := solidCutsRow.holds Tryz.pinned (OpenSpec.ofChange solidCutsSpec)

/-- ITS FALSE NEIGHBOUR: 'it returns false'. Refute it at one input. -/
def solidCutsWrong : ChangeSpec := { name := "solidCuts", fn := fun _ => fun
  | [d1, d2, d3] => { results := [.lit (.bool false)], args := [d1, d2, d3] }
  | _ => none }
def SolidCutsWrongFalsely : Prop := solidCutsRow.holds Tryz.pinned (OpenSpec.ofChange solidCutsWrong)

/- THE SECOND FORM. 'bulk': how many values and letters a reading holds, each counted each time it is reached (what is shared counts as often as it is met; a slice's spare places count too). A statement '..UptoSaid' is the law's where the arguments, and the package variables that the reading takes, are together of bulk at most 1048576: NARROWER than '..Said'. Prove '..Said' where nothing that the law and all that it calls make is longer than what came in: it says more and counts as full. Else prove '..UptoSaid'. A law counts once. -/
mutual
def uptoBulk {H : Type} : DataW H → Nat
  | .lit (.string bytes) => bytes.length + 1
  | .lit _ => 1
  | .nil => 1
  | .ptr d => uptoBulk d + 1
  | .slice elems spare => uptoBulkAll elems + uptoBulkAll spare + 1
  | .agg parts => uptoBulkAll parts + 1
  | .iface _ d => uptoBulk d + 1
  | .map entries => uptoBulkEntries entries + 1
  | .held _ => 1
def uptoBulkAll {H : Type} : List (DataW H) → Nat
  | [] => 0
  | d :: r => uptoBulk d + uptoBulkAll r
def uptoBulkEntries {H : Type} : List (Lit × DataW H) → Nat
  | [] => 0
  | x :: r => uptoBulkEntry x + uptoBulkEntries r
def uptoBulkEntry {H : Type} : Lit × DataW H → Nat
  | (.string bytes, d) => bytes.length + uptoBulk d + 1
  | (_, d) => uptoBulk d + 1
 end
def uptoSmall : (H : Type) → List (DataW H) → Bool := fun _ ds => decide (uptoBulkAll ds ≤ 1048576)
def OpenSpec.upto (s : _root_.Go.ChangeSpec) : _root_.Go.OpenSpec := { _root_.Go.OpenSpec.ofChange s with cond := some uptoSmall }

/-- 'tansylaw15.SolidDoes', WHERE WHAT IT READS IS OF BULK AT MOST 1048576: true; the input reads as it did. -/
def solidDoesUptoRow : OpenClaim := { program := "ytniibdglodnhoaagreatdoor", sum := "d4a0753c36610e88bf477fc7fa49d701ab31d21c5e40968356a9b22614121686", func := "tansy/tansylaw15.SolidDoes", spec := "solidDoes", unfollowed := true, recurses := true, named := ["tansy/perm.turns"], apart := false, laid := [("tansy/perm.turns", laid_tansy_perm_turns)], narrowed := true }
def SolidDoesUptoSaid : Prop := solidDoesUptoRow.holds Tryz.pinned (OpenSpec.upto solidDoesSpec)

/-- 'tansylaw15.SolidCuts', WHERE WHAT IT READS IS OF BULK AT MOST 1048576: true; the input reads as it did. -/
def solidCutsUptoRow : OpenClaim := { program := "ytniibdglodnhoaagreatdoor", sum := "d4a0753c36610e88bf477fc7fa49d701ab31d21c5e40968356a9b22614121686", func := "tansy/tansylaw15.SolidCuts", spec := "solidCuts", unfollowed := true, recurses := true, named := ["tansy/perm.turns"], apart := false, laid := [("tansy/perm.turns", laid_tansy_perm_turns)], narrowed := true }
def SolidCutsUptoSaid : Prop := solidCutsUptoRow.holds Tryz.pinned (OpenSpec.upto solidCutsSpec)

end Rows
end Go.Proofs.YtniibdglodnhoaaGreatDoor
