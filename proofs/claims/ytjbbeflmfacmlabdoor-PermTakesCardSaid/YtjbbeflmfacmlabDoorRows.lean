/-
  NARROWER THAN 'FOR EVERY INPUT', by the rows' own cells (each row's printed sentence says how): PermTakes: laid.
  DERIVED. THE GIVEN ROWS OF THIS SEAT. 1 by the template 'for every input the law returns true; each argument reads behind the call as it read before'; 0 by the template 'total and deterministic' (their statements: YtjbbeflmfacmlabDoorTotals.lean).
  GIVEN WITH THE SEED: the statements are not yours to turn. If you find one false, say at which input.
  Laid BY PROGRAM, IN A SANDBOX (cutbox-rows.mjs): the forced cells as the released guide's own fill.sh prints them over the translation 311e715ac07d9afa… (all of the seat's roots in one cut). By AI agents, Wed Nov 11 2026. No macro, syntax, notation, axiom, sorry.
-/
import Derived.Test.YtjbbeflmfacmlabDoorChecked
import GoSem.Claim
import GoSem.ClaimJoined
import GoSem.ClaimMapViews
import Derived.JoinedTies
import Derived.KernelRfl
namespace Go.Proofs.YtjbbeflmfacmlabDoor
/- THE CELL 'sum', in the pinned program and in every row, IS THE sha256 OF THE DUMP (.gsa) THAT YtjbbeflmfacmlabDoorProg.lean LOADS. Nothing in Lean hashes anything: it is a label: what it is worth is what the hold of that sum in a sandbox is worth. -/
noncomputable def Tryd.pinned : Pinned := { name := "ytjbbeflmfacmlabdoor", sum := "311e715ac07d9afad67a3e374f07fe2ad42fe7383ead30e630c94bab8a2bc1e3", checked := Tryd.checked }
namespace Rows
def none {H : Type} : Left H := { results := [], args := [] }

/- WHAT THE LISTED PACKAGE-LEVEL VARIABLES READ AS WHEN THE CALL BEGINS. Each datum BY PROGRAM (the guide's laid-datum.mjs) off the statement by which the dump's own 'gosem.cut.vars' lays the variable. In a bare row this is a premise. The card (YtjbbeflmfacmlabDoorCards.lean) ties it to the program's text. -/
def laid_tansy_perm_turns {H : Type} : DataW H := .agg [.lit (.int .i64 16), .lit (.int .i64 12), .lit (.int .i64 8), .lit (.int .i64 7)]

/-- 'tansylaw08.PermTakes': WHATEVER THE INPUT: true; the input reads as it did. -/
def permTakesSpec : ChangeSpec := { name := "permTakes", fn := fun _ => fun
  | [d1, d2, d3] => { results := [.lit (.bool true)], args := [d1, d2, d3] }
  | _ => none }
def permTakesRow : OpenClaim := { program := "ytjbbeflmfacmlabdoor", sum := "311e715ac07d9afad67a3e374f07fe2ad42fe7383ead30e630c94bab8a2bc1e3", func := "tansy/tansylaw08.PermTakes", spec := "permTakes", named := ["tansy/perm.turns"], apart := false, laid := [("tansy/perm.turns", laid_tansy_perm_turns)] }
def PermTakesSaid : Prop := permTakesRow.holds Tryd.pinned (OpenSpec.ofChange permTakesSpec)

/-- ITS FALSE NEIGHBOUR: 'it returns false'. Refute it at one input. -/
def permTakesWrong : ChangeSpec := { name := "permTakes", fn := fun _ => fun
  | [d1, d2, d3] => { results := [.lit (.bool false)], args := [d1, d2, d3] }
  | _ => none }
def PermTakesWrongFalsely : Prop := permTakesRow.holds Tryd.pinned (OpenSpec.ofChange permTakesWrong)

/- THE SECOND FORM. 'bulk': how many values and letters a reading holds, each counted each time it is reached (what is shared counts as often as it is met; a slice's spare places count too). A statement '..UptoSaid' is the law's where the arguments, and the package variables that the reading takes, are together of bulk at most 1048576: NARROWER than '..Said'. Prove '..Said' where nothing that the law and all that it calls make is longer than what came in: it says more and counts as full. Else prove '..UptoSaid'. A law counts once. -/
mutual
def uptoBulk {H : Type} : DataW H → Nat
  | .lit (.string bytes) => bytes.length + 1
  | .lit _ => 1
  | .nil => 1
  | .ptr d => uptoBulk d + 1
  | .slice elems spare => uptoBulkAll elems + uptoBulkAll spare + 1
  | .agg parts => uptoBulkAll parts + 1
  | .iface _ d => uptoBulk d + 1
  | .map entries => uptoBulkEntries entries + 1
  | .held _ => 1
def uptoBulkAll {H : Type} : List (DataW H) → Nat
  | [] => 0
  | d :: r => uptoBulk d + uptoBulkAll r
def uptoBulkEntries {H : Type} : List (Lit × DataW H) → Nat
  | [] => 0
  | x :: r => uptoBulkEntry x + uptoBulkEntries r
def uptoBulkEntry {H : Type} : Lit × DataW H → Nat
  | (.string bytes, d) => bytes.length + uptoBulk d + 1
  | (_, d) => uptoBulk d + 1
 end
def uptoSmall : (H : Type) → List (DataW H) → Bool := fun _ ds => decide (uptoBulkAll ds ≤ 1048576)
def OpenSpec.upto (s : _root_.Go.ChangeSpec) : _root_.Go.OpenSpec := { _root_.Go.OpenSpec.ofChange s with cond := some uptoSmall }

/-- 'tansylaw08.PermTakes', WHERE WHAT IT READS IS OF BULK AT MOST 1048576: true; the input reads as it did. -/
def permTakesUptoRow : OpenClaim := { program := "ytjbbeflmfacmlabdoor", sum := "311e715ac07d9afad67a3e374f07fe2ad42fe7383ead30e630c94bab8a2bc1e3", func := "tansy/tansylaw08.PermTakes", spec := "permTakes", named := ["tansy/perm.turns"], apart := false, laid := [("tansy/perm.turns", laid_tansy_perm_turns)], narrowed := true }
def PermTakesUptoSaid : Prop := permTakesUptoRow.holds Tryd.pinned (OpenSpec.upto permTakesSpec)

end Rows
end Go.Proofs.YtjbbeflmfacmlabDoor
