/-
  NARROWER THAN 'FOR EVERY INPUT', by the rows' own cells (each row's printed sentence says how): PermDoes: laid · PermFewer: laid · PermBack: laid · PermApart: laid · PermBlocks: laid.
  DERIVED. THE GIVEN ROWS OF THIS SEAT. 5 by the template 'for every input the law returns true; each argument reads behind the call as it read before'; 0 by the template 'total and deterministic' (their statements: YtjbbeflmfacmlaaDoorTotals.lean).
  GIVEN WITH THE SEED: the statements are not yours to turn. If you find one false, say at which input.
  Laid BY PROGRAM, IN A SANDBOX (cutbox-rows.mjs): the forced cells as the released guide's own fill.sh prints them over the translation fb3a06af8a38badf… (all of the seat's roots in one cut). By AI agents, Wed Nov 11 2026. No macro, syntax, notation, axiom, sorry.
-/
import Derived.Test.YtjbbeflmfacmlaaDoorChecked
import GoSem.Claim
import GoSem.ClaimJoined
import GoSem.ClaimMapViews
import Derived.JoinedTies
import Derived.KernelRfl
namespace Go.Proofs.YtjbbeflmfacmlaaDoor
/- THE CELL 'sum', in the pinned program and in every row, IS THE sha256 OF THE DUMP (.gsa) THAT YtjbbeflmfacmlaaDoorProg.lean LOADS. Nothing in Lean hashes anything: it is a label: what it is worth is what the hold of that sum in a sandbox is worth. -/
noncomputable def Tryd.pinned : Pinned := { name := "ytjbbeflmfacmlaadoor", sum := "fb3a06af8a38badfea75afd17b0e781687c92c33117819e13108a455008fec03", checked := Tryd.checked }
namespace Rows
def none {H : Type} : Left H := { results := [], args := [] }

/- WHAT THE LISTED PACKAGE-LEVEL VARIABLES READ AS WHEN THE CALL BEGINS. Each datum BY PROGRAM (the guide's laid-datum.mjs) off the statement by which the dump's own 'gosem.cut.vars' lays the variable. In a bare row this is a premise. The card (YtjbbeflmfacmlaaDoorCards.lean) ties it to the program's text. -/
def laid_tansy_perm_turns {H : Type} : DataW H := .agg [.lit (.int .i64 16), .lit (.int .i64 12), .lit (.int .i64 8), .lit (.int .i64 7)]

/-- 'tansylaw08.PermDoes': WHATEVER THE INPUT: true; the input reads as it did. -/
def permDoesSpec : ChangeSpec := { name := "permDoes", fn := fun _ => fun
  | [d1, d2] => { results := [.lit (.bool true)], args := [d1, d2] }
  | _ => none }
def permDoesRow : OpenClaim := { program := "ytjbbeflmfacmlaadoor", sum := "fb3a06af8a38badfea75afd17b0e781687c92c33117819e13108a455008fec03", func := "tansy/tansylaw08.PermDoes", spec := "permDoes", named := ["tansy/perm.turns"], apart := false, laid := [("tansy/perm.turns", laid_tansy_perm_turns)] }
def PermDoesSaid : Prop := permDoesRow.holds Tryd.pinned (OpenSpec.ofChange permDoesSpec)

/-- ITS FALSE NEIGHBOUR: 'it returns false'. Refute it at one input. -/
def permDoesWrong : ChangeSpec := { name := "permDoes", fn := fun _ => fun
  | [d1, d2] => { results := [.lit (.bool false)], args := [d1, d2] }
  | _ => none }
def PermDoesWrongFalsely : Prop := permDoesRow.holds Tryd.pinned (OpenSpec.ofChange permDoesWrong)

/-- 'tansylaw08.PermFewer': WHATEVER THE INPUT: true; the input reads as it did. -/
def permFewerSpec : ChangeSpec := { name := "permFewer", fn := fun _ => fun
  | [d1, d2, d3] => { results := [.lit (.bool true)], args := [d1, d2, d3] }
  | _ => none }
def permFewerRow : OpenClaim := { program := "ytjbbeflmfacmlaadoor", sum := "fb3a06af8a38badfea75afd17b0e781687c92c33117819e13108a455008fec03", func := "tansy/tansylaw08.PermFewer", spec := "permFewer", named := ["tansy/perm.turns"], apart := false, laid := [("tansy/perm.turns", laid_tansy_perm_turns)] }
def PermFewerSaid : Prop := permFewerRow.holds Tryd.pinned (OpenSpec.ofChange permFewerSpec)

/-- ITS FALSE NEIGHBOUR: 'it returns false'. Refute it at one input. -/
def permFewerWrong : ChangeSpec := { name := "permFewer", fn := fun _ => fun
  | [d1, d2, d3] => { results := [.lit (.bool false)], args := [d1, d2, d3] }
  | _ => none }
def PermFewerWrongFalsely : Prop := permFewerRow.holds Tryd.pinned (OpenSpec.ofChange permFewerWrong)

/-- 'tansylaw08.PermBack': WHATEVER THE INPUT: true; the input reads as it did. -/
def permBackSpec : ChangeSpec := { name := "permBack", fn := fun _ => fun
  | [d1, d2] => { results := [.lit (.bool true)], args := [d1, d2] }
  | _ => none }
def permBackRow : OpenClaim := { program := "ytjbbeflmfacmlaadoor", sum := "fb3a06af8a38badfea75afd17b0e781687c92c33117819e13108a455008fec03", func := "tansy/tansylaw08.PermBack", spec := "permBack", named := ["tansy/perm.turns"], apart := false, laid := [("tansy/perm.turns", laid_tansy_perm_turns)] }
def PermBackSaid : Prop := permBackRow.holds Tryd.pinned (OpenSpec.ofChange permBackSpec)

/-- ITS FALSE NEIGHBOUR: 'it returns false'. Refute it at one input. -/
def permBackWrong : ChangeSpec := { name := "permBack", fn := fun _ => fun
  | [d1, d2] => { results := [.lit (.bool false)], args := [d1, d2] }
  | _ => none }
def PermBackWrongFalsely : Prop := permBackRow.holds Tryd.pinned (OpenSpec.ofChange permBackWrong)

/-- 'tansylaw08.PermApart': WHATEVER THE INPUT: true; the input reads as it did. -/
def permApartSpec : ChangeSpec := { name := "permApart", fn := fun _ => fun
  | [d1, d2, d3, d4, d5] => { results := [.lit (.bool true)], args := [d1, d2, d3, d4, d5] }
  | _ => none }
def permApartRow : OpenClaim := { program := "ytjbbeflmfacmlaadoor", sum := "fb3a06af8a38badfea75afd17b0e781687c92c33117819e13108a455008fec03", func := "tansy/tansylaw08.PermApart", spec := "permApart", named := ["tansy/perm.turns"], apart := false, laid := [("tansy/perm.turns", laid_tansy_perm_turns)] }
def PermApartSaid : Prop := permApartRow.holds Tryd.pinned (OpenSpec.ofChange permApartSpec)

/-- ITS FALSE NEIGHBOUR: 'it returns false'. Refute it at one input. -/
def permApartWrong : ChangeSpec := { name := "permApart", fn := fun _ => fun
  | [d1, d2, d3, d4, d5] => { results := [.lit (.bool false)], args := [d1, d2, d3, d4, d5] }
  | _ => none }
def PermApartWrongFalsely : Prop := permApartRow.holds Tryd.pinned (OpenSpec.ofChange permApartWrong)

/-- 'tansylaw08.PermBlocks': WHATEVER THE INPUT: true; the input reads as it did. -/
def permBlocksSpec : ChangeSpec := { name := "permBlocks", fn := fun _ => fun
  | [d1, d2] => { results := [.lit (.bool true)], args := [d1, d2] }
  | _ => none }
def permBlocksRow : OpenClaim := { program := "ytjbbeflmfacmlaadoor", sum := "fb3a06af8a38badfea75afd17b0e781687c92c33117819e13108a455008fec03", func := "tansy/tansylaw08.PermBlocks", spec := "permBlocks", named := ["tansy/perm.turns"], apart := false, laid := [("tansy/perm.turns", laid_tansy_perm_turns)] }
def PermBlocksSaid : Prop := permBlocksRow.holds Tryd.pinned (OpenSpec.ofChange permBlocksSpec)

/-- ITS FALSE NEIGHBOUR: 'it returns false'. Refute it at one input. -/
def permBlocksWrong : ChangeSpec := { name := "permBlocks", fn := fun _ => fun
  | [d1, d2] => { results := [.lit (.bool false)], args := [d1, d2] }
  | _ => none }
def PermBlocksWrongFalsely : Prop := permBlocksRow.holds Tryd.pinned (OpenSpec.ofChange permBlocksWrong)

/- THE SECOND FORM. 'bulk': how many values and letters a reading holds, each counted each time it is reached (what is shared counts as often as it is met; a slice's spare places count too). A statement '..UptoSaid' is the law's where the arguments, and the package variables that the reading takes, are together of bulk at most 1048576: NARROWER than '..Said'. Prove '..Said' where nothing that the law and all that it calls make is longer than what came in: it says more and counts as full. Else prove '..UptoSaid'. A law counts once. -/
mutual
def uptoBulk {H : Type} : DataW H → Nat
  | .lit (.string bytes) => bytes.length + 1
  | .lit _ => 1
  | .nil => 1
  | .ptr d => uptoBulk d + 1
  | .slice elems spare => uptoBulkAll elems + uptoBulkAll spare + 1
  | .agg parts => uptoBulkAll parts + 1
  | .iface _ d => uptoBulk d + 1
  | .map entries => uptoBulkEntries entries + 1
  | .held _ => 1
def uptoBulkAll {H : Type} : List (DataW H) → Nat
  | [] => 0
  | d :: r => uptoBulk d + uptoBulkAll r
def uptoBulkEntries {H : Type} : List (Lit × DataW H) → Nat
  | [] => 0
  | x :: r => uptoBulkEntry x + uptoBulkEntries r
def uptoBulkEntry {H : Type} : Lit × DataW H → Nat
  | (.string bytes, d) => bytes.length + uptoBulk d + 1
  | (_, d) => uptoBulk d + 1
 end
def uptoSmall : (H : Type) → List (DataW H) → Bool := fun _ ds => decide (uptoBulkAll ds ≤ 1048576)
def OpenSpec.upto (s : _root_.Go.ChangeSpec) : _root_.Go.OpenSpec := { _root_.Go.OpenSpec.ofChange s with cond := some uptoSmall }

/-- 'tansylaw08.PermDoes', WHERE WHAT IT READS IS OF BULK AT MOST 1048576: true; the input reads as it did. -/
def permDoesUptoRow : OpenClaim := { program := "ytjbbeflmfacmlaadoor", sum := "fb3a06af8a38badfea75afd17b0e781687c92c33117819e13108a455008fec03", func := "tansy/tansylaw08.PermDoes", spec := "permDoes", named := ["tansy/perm.turns"], apart := false, laid := [("tansy/perm.turns", laid_tansy_perm_turns)], narrowed := true }
def PermDoesUptoSaid : Prop := permDoesUptoRow.holds Tryd.pinned (OpenSpec.upto permDoesSpec)

/-- 'tansylaw08.PermFewer', WHERE WHAT IT READS IS OF BULK AT MOST 1048576: true; the input reads as it did. -/
def permFewerUptoRow : OpenClaim := { program := "ytjbbeflmfacmlaadoor", sum := "fb3a06af8a38badfea75afd17b0e781687c92c33117819e13108a455008fec03", func := "tansy/tansylaw08.PermFewer", spec := "permFewer", named := ["tansy/perm.turns"], apart := false, laid := [("tansy/perm.turns", laid_tansy_perm_turns)], narrowed := true }
def PermFewerUptoSaid : Prop := permFewerUptoRow.holds Tryd.pinned (OpenSpec.upto permFewerSpec)

/-- 'tansylaw08.PermBack', WHERE WHAT IT READS IS OF BULK AT MOST 1048576: true; the input reads as it did. -/
def permBackUptoRow : OpenClaim := { program := "ytjbbeflmfacmlaadoor", sum := "fb3a06af8a38badfea75afd17b0e781687c92c33117819e13108a455008fec03", func := "tansy/tansylaw08.PermBack", spec := "permBack", named := ["tansy/perm.turns"], apart := false, laid := [("tansy/perm.turns", laid_tansy_perm_turns)], narrowed := true }
def PermBackUptoSaid : Prop := permBackUptoRow.holds Tryd.pinned (OpenSpec.upto permBackSpec)

/-- 'tansylaw08.PermApart', WHERE WHAT IT READS IS OF BULK AT MOST 1048576: true; the input reads as it did. -/
def permApartUptoRow : OpenClaim := { program := "ytjbbeflmfacmlaadoor", sum := "fb3a06af8a38badfea75afd17b0e781687c92c33117819e13108a455008fec03", func := "tansy/tansylaw08.PermApart", spec := "permApart", named := ["tansy/perm.turns"], apart := false, laid := [("tansy/perm.turns", laid_tansy_perm_turns)], narrowed := true }
def PermApartUptoSaid : Prop := permApartUptoRow.holds Tryd.pinned (OpenSpec.upto permApartSpec)

/-- 'tansylaw08.PermBlocks', WHERE WHAT IT READS IS OF BULK AT MOST 1048576: true; the input reads as it did. -/
def permBlocksUptoRow : OpenClaim := { program := "ytjbbeflmfacmlaadoor", sum := "fb3a06af8a38badfea75afd17b0e781687c92c33117819e13108a455008fec03", func := "tansy/tansylaw08.PermBlocks", spec := "permBlocks", named := ["tansy/perm.turns"], apart := false, laid := [("tansy/perm.turns", laid_tansy_perm_turns)], narrowed := true }
def PermBlocksUptoSaid : Prop := permBlocksUptoRow.holds Tryd.pinned (OpenSpec.upto permBlocksSpec)

end Rows
end Go.Proofs.YtjbbeflmfacmlaaDoor
