/-
  NARROWER THAN 'FOR EVERY INPUT', by the rows' own cells (each row's printed sentence says how): EnvelopeTag: laid · EnvelopeRing: laid · EnvelopeStream: laid · EnvelopeBack: laid · EnvelopeDoes: laid · EnvelopeBytes: laid.
  DERIVED. THE GIVEN ROWS OF THIS SEAT. 6 by the template 'for every input the law returns true; each argument reads behind the call as it read before'; 0 by the template 'total and deterministic' (their statements: YtekiloagckkneaaDoorTotals.lean).
  GIVEN WITH THE SEED: the statements are not yours to turn. If you find one false, say at which input.
  Laid BY PROGRAM, IN A SANDBOX (cutbox-rows.mjs): the forced cells as the released guide's own fill.sh prints them over the translation 568848b096262eac… (all of the seat's roots in one cut). By AI agents, Wed Nov 11 2026. No macro, syntax, notation, axiom, sorry.
-/
import Derived.Test.YtekiloagckkneaaDoorChecked
import GoSem.Claim
import GoSem.ClaimJoined
import GoSem.ClaimMapViews
import Derived.JoinedTies
import Derived.KernelRfl
namespace Go.Proofs.YtekiloagckkneaaDoor
/- THE CELL 'sum', in the pinned program and in every row, IS THE sha256 OF THE DUMP (.gsa) THAT YtekiloagckkneaaDoorProg.lean LOADS. Nothing in Lean hashes anything: it is a label: what it is worth is what the hold of that sum in a sandbox is worth. -/
noncomputable def Tryd.pinned : Pinned := { name := "ytekiloagckkneaadoor", sum := "568848b096262eac1cb48a40b07828f773d6e553e6d15a0e8cf4fb0e13a935d4", checked := Tryd.checked }
namespace Rows
def none {H : Type} : Left H := { results := [], args := [] }

/- WHAT THE LISTED PACKAGE-LEVEL VARIABLES READ AS WHEN THE CALL BEGINS. Each datum BY PROGRAM (the guide's laid-datum.mjs) off the statement by which the dump's own 'gosem.cut.vars' lays the variable. In a bare row this is a premise. The card (YtekiloagckkneaaDoorCards.lean) ties it to the program's text. -/
def laid_tansy_perm_turns {H : Type} : DataW H := .agg [.lit (.int .i64 16), .lit (.int .i64 12), .lit (.int .i64 8), .lit (.int .i64 7)]

/-- 'tansylaw09.EnvelopeTag': WHATEVER THE INPUT: true; the input reads as it did. -/
def envelopeTagSpec : ChangeSpec := { name := "envelopeTag", fn := fun _ => fun
  | [d1, d2, d3, d4] => { results := [.lit (.bool true)], args := [d1, d2, d3, d4] }
  | _ => none }
def envelopeTagRow : OpenClaim := { program := "ytekiloagckkneaadoor", sum := "568848b096262eac1cb48a40b07828f773d6e553e6d15a0e8cf4fb0e13a935d4", func := "tansy/tansylaw09.EnvelopeTag", spec := "envelopeTag", named := ["tansy/perm.turns"], apart := false, laid := [("tansy/perm.turns", laid_tansy_perm_turns)] }
def EnvelopeTagSaid : Prop := envelopeTagRow.holds Tryd.pinned (OpenSpec.ofChange envelopeTagSpec)

/-- ITS FALSE NEIGHBOUR: 'it returns false'. Refute it at one input. -/
def envelopeTagWrong : ChangeSpec := { name := "envelopeTag", fn := fun _ => fun
  | [d1, d2, d3, d4] => { results := [.lit (.bool false)], args := [d1, d2, d3, d4] }
  | _ => none }
def EnvelopeTagWrongFalsely : Prop := envelopeTagRow.holds Tryd.pinned (OpenSpec.ofChange envelopeTagWrong)

/-- 'tansylaw09.EnvelopeRing': WHATEVER THE INPUT: true; the input reads as it did. -/
def envelopeRingSpec : ChangeSpec := { name := "envelopeRing", fn := fun _ => fun
  | [d1, d2] => { results := [.lit (.bool true)], args := [d1, d2] }
  | _ => none }
def envelopeRingRow : OpenClaim := { program := "ytekiloagckkneaadoor", sum := "568848b096262eac1cb48a40b07828f773d6e553e6d15a0e8cf4fb0e13a935d4", func := "tansy/tansylaw09.EnvelopeRing", spec := "envelopeRing", named := ["tansy/perm.turns"], apart := false, laid := [("tansy/perm.turns", laid_tansy_perm_turns)] }
def EnvelopeRingSaid : Prop := envelopeRingRow.holds Tryd.pinned (OpenSpec.ofChange envelopeRingSpec)

/-- ITS FALSE NEIGHBOUR: 'it returns false'. Refute it at one input. -/
def envelopeRingWrong : ChangeSpec := { name := "envelopeRing", fn := fun _ => fun
  | [d1, d2] => { results := [.lit (.bool false)], args := [d1, d2] }
  | _ => none }
def EnvelopeRingWrongFalsely : Prop := envelopeRingRow.holds Tryd.pinned (OpenSpec.ofChange envelopeRingWrong)

/-- 'tansylaw09.EnvelopeStream': WHATEVER THE INPUT: true; the input reads as it did. -/
def envelopeStreamSpec : ChangeSpec := { name := "envelopeStream", fn := fun _ => fun
  | [d1, d2, d3] => { results := [.lit (.bool true)], args := [d1, d2, d3] }
  | _ => none }
def envelopeStreamRow : OpenClaim := { program := "ytekiloagckkneaadoor", sum := "568848b096262eac1cb48a40b07828f773d6e553e6d15a0e8cf4fb0e13a935d4", func := "tansy/tansylaw09.EnvelopeStream", spec := "envelopeStream", named := ["tansy/perm.turns"], apart := false, laid := [("tansy/perm.turns", laid_tansy_perm_turns)] }
def EnvelopeStreamSaid : Prop := envelopeStreamRow.holds Tryd.pinned (OpenSpec.ofChange envelopeStreamSpec)

/-- ITS FALSE NEIGHBOUR: 'it returns false'. Refute it at one input. -/
def envelopeStreamWrong : ChangeSpec := { name := "envelopeStream", fn := fun _ => fun
  | [d1, d2, d3] => { results := [.lit (.bool false)], args := [d1, d2, d3] }
  | _ => none }
def EnvelopeStreamWrongFalsely : Prop := envelopeStreamRow.holds Tryd.pinned (OpenSpec.ofChange envelopeStreamWrong)

/-- 'tansylaw09.EnvelopeBack': WHATEVER THE INPUT: true; the input reads as it did. -/
def envelopeBackSpec : ChangeSpec := { name := "envelopeBack", fn := fun _ => fun
  | [d1, d2, d3, d4] => { results := [.lit (.bool true)], args := [d1, d2, d3, d4] }
  | _ => none }
def envelopeBackRow : OpenClaim := { program := "ytekiloagckkneaadoor", sum := "568848b096262eac1cb48a40b07828f773d6e553e6d15a0e8cf4fb0e13a935d4", func := "tansy/tansylaw09.EnvelopeBack", spec := "envelopeBack", named := ["tansy/perm.turns"], apart := false, laid := [("tansy/perm.turns", laid_tansy_perm_turns)] }
def EnvelopeBackSaid : Prop := envelopeBackRow.holds Tryd.pinned (OpenSpec.ofChange envelopeBackSpec)

/-- ITS FALSE NEIGHBOUR: 'it returns false'. Refute it at one input. -/
def envelopeBackWrong : ChangeSpec := { name := "envelopeBack", fn := fun _ => fun
  | [d1, d2, d3, d4] => { results := [.lit (.bool false)], args := [d1, d2, d3, d4] }
  | _ => none }
def EnvelopeBackWrongFalsely : Prop := envelopeBackRow.holds Tryd.pinned (OpenSpec.ofChange envelopeBackWrong)

/-- 'tansylaw09.EnvelopeDoes': WHATEVER THE INPUT: true; the input reads as it did. -/
def envelopeDoesSpec : ChangeSpec := { name := "envelopeDoes", fn := fun _ => fun
  | [d1, d2, d3, d4, d5] => { results := [.lit (.bool true)], args := [d1, d2, d3, d4, d5] }
  | _ => none }
def envelopeDoesRow : OpenClaim := { program := "ytekiloagckkneaadoor", sum := "568848b096262eac1cb48a40b07828f773d6e553e6d15a0e8cf4fb0e13a935d4", func := "tansy/tansylaw09.EnvelopeDoes", spec := "envelopeDoes", named := ["tansy/perm.turns"], apart := false, laid := [("tansy/perm.turns", laid_tansy_perm_turns)] }
def EnvelopeDoesSaid : Prop := envelopeDoesRow.holds Tryd.pinned (OpenSpec.ofChange envelopeDoesSpec)

/-- ITS FALSE NEIGHBOUR: 'it returns false'. Refute it at one input. -/
def envelopeDoesWrong : ChangeSpec := { name := "envelopeDoes", fn := fun _ => fun
  | [d1, d2, d3, d4, d5] => { results := [.lit (.bool false)], args := [d1, d2, d3, d4, d5] }
  | _ => none }
def EnvelopeDoesWrongFalsely : Prop := envelopeDoesRow.holds Tryd.pinned (OpenSpec.ofChange envelopeDoesWrong)

/-- 'tansylaw09.EnvelopeBytes': WHATEVER THE INPUT: true; the input reads as it did. -/
def envelopeBytesSpec : ChangeSpec := { name := "envelopeBytes", fn := fun _ => fun
  | [d1, d2] => { results := [.lit (.bool true)], args := [d1, d2] }
  | _ => none }
def envelopeBytesRow : OpenClaim := { program := "ytekiloagckkneaadoor", sum := "568848b096262eac1cb48a40b07828f773d6e553e6d15a0e8cf4fb0e13a935d4", func := "tansy/tansylaw09.EnvelopeBytes", spec := "envelopeBytes", named := ["tansy/perm.turns"], apart := false, laid := [("tansy/perm.turns", laid_tansy_perm_turns)] }
def EnvelopeBytesSaid : Prop := envelopeBytesRow.holds Tryd.pinned (OpenSpec.ofChange envelopeBytesSpec)

/-- ITS FALSE NEIGHBOUR: 'it returns false'. Refute it at one input. -/
def envelopeBytesWrong : ChangeSpec := { name := "envelopeBytes", fn := fun _ => fun
  | [d1, d2] => { results := [.lit (.bool false)], args := [d1, d2] }
  | _ => none }
def EnvelopeBytesWrongFalsely : Prop := envelopeBytesRow.holds Tryd.pinned (OpenSpec.ofChange envelopeBytesWrong)

/- THE SECOND FORM. 'bulk': how many values and letters a reading holds, each counted each time it is reached (what is shared counts as often as it is met; a slice's spare places count too). A statement '..UptoSaid' is the law's where the arguments, and the package variables that the reading takes, are together of bulk at most 1048576: NARROWER than '..Said'. Prove '..Said' where nothing that the law and all that it calls make is longer than what came in: it says more and counts as full. Else prove '..UptoSaid'. A law counts once. -/
mutual
def uptoBulk {H : Type} : DataW H → Nat
  | .lit (.string bytes) => bytes.length + 1
  | .lit _ => 1
  | .nil => 1
  | .ptr d => uptoBulk d + 1
  | .slice elems spare => uptoBulkAll elems + uptoBulkAll spare + 1
  | .agg parts => uptoBulkAll parts + 1
  | .iface _ d => uptoBulk d + 1
  | .map entries => uptoBulkEntries entries + 1
  | .held _ => 1
def uptoBulkAll {H : Type} : List (DataW H) → Nat
  | [] => 0
  | d :: r => uptoBulk d + uptoBulkAll r
def uptoBulkEntries {H : Type} : List (Lit × DataW H) → Nat
  | [] => 0
  | x :: r => uptoBulkEntry x + uptoBulkEntries r
def uptoBulkEntry {H : Type} : Lit × DataW H → Nat
  | (.string bytes, d) => bytes.length + uptoBulk d + 1
  | (_, d) => uptoBulk d + 1
 end
def uptoSmall : (H : Type) → List (DataW H) → Bool := fun _ ds => decide (uptoBulkAll ds ≤ 1048576)
def OpenSpec.upto (s : _root_.Go.ChangeSpec) : _root_.Go.OpenSpec := { _root_.Go.OpenSpec.ofChange s with cond := some uptoSmall }

/-- 'tansylaw09.EnvelopeTag', WHERE WHAT IT READS IS OF BULK AT MOST 1048576: true; the input reads as it did. -/
def envelopeTagUptoRow : OpenClaim := { program := "ytekiloagckkneaadoor", sum := "568848b096262eac1cb48a40b07828f773d6e553e6d15a0e8cf4fb0e13a935d4", func := "tansy/tansylaw09.EnvelopeTag", spec := "envelopeTag", named := ["tansy/perm.turns"], apart := false, laid := [("tansy/perm.turns", laid_tansy_perm_turns)], narrowed := true }
def EnvelopeTagUptoSaid : Prop := envelopeTagUptoRow.holds Tryd.pinned (OpenSpec.upto envelopeTagSpec)

/-- 'tansylaw09.EnvelopeRing', WHERE WHAT IT READS IS OF BULK AT MOST 1048576: true; the input reads as it did. -/
def envelopeRingUptoRow : OpenClaim := { program := "ytekiloagckkneaadoor", sum := "568848b096262eac1cb48a40b07828f773d6e553e6d15a0e8cf4fb0e13a935d4", func := "tansy/tansylaw09.EnvelopeRing", spec := "envelopeRing", named := ["tansy/perm.turns"], apart := false, laid := [("tansy/perm.turns", laid_tansy_perm_turns)], narrowed := true }
def EnvelopeRingUptoSaid : Prop := envelopeRingUptoRow.holds Tryd.pinned (OpenSpec.upto envelopeRingSpec)

/-- 'tansylaw09.EnvelopeStream', WHERE WHAT IT READS IS OF BULK AT MOST 1048576: true; the input reads as it did. -/
def envelopeStreamUptoRow : OpenClaim := { program := "ytekiloagckkneaadoor", sum := "568848b096262eac1cb48a40b07828f773d6e553e6d15a0e8cf4fb0e13a935d4", func := "tansy/tansylaw09.EnvelopeStream", spec := "envelopeStream", named := ["tansy/perm.turns"], apart := false, laid := [("tansy/perm.turns", laid_tansy_perm_turns)], narrowed := true }
def EnvelopeStreamUptoSaid : Prop := envelopeStreamUptoRow.holds Tryd.pinned (OpenSpec.upto envelopeStreamSpec)

/-- 'tansylaw09.EnvelopeBack', WHERE WHAT IT READS IS OF BULK AT MOST 1048576: true; the input reads as it did. -/
def envelopeBackUptoRow : OpenClaim := { program := "ytekiloagckkneaadoor", sum := "568848b096262eac1cb48a40b07828f773d6e553e6d15a0e8cf4fb0e13a935d4", func := "tansy/tansylaw09.EnvelopeBack", spec := "envelopeBack", named := ["tansy/perm.turns"], apart := false, laid := [("tansy/perm.turns", laid_tansy_perm_turns)], narrowed := true }
def EnvelopeBackUptoSaid : Prop := envelopeBackUptoRow.holds Tryd.pinned (OpenSpec.upto envelopeBackSpec)

/-- 'tansylaw09.EnvelopeDoes', WHERE WHAT IT READS IS OF BULK AT MOST 1048576: true; the input reads as it did. -/
def envelopeDoesUptoRow : OpenClaim := { program := "ytekiloagckkneaadoor", sum := "568848b096262eac1cb48a40b07828f773d6e553e6d15a0e8cf4fb0e13a935d4", func := "tansy/tansylaw09.EnvelopeDoes", spec := "envelopeDoes", named := ["tansy/perm.turns"], apart := false, laid := [("tansy/perm.turns", laid_tansy_perm_turns)], narrowed := true }
def EnvelopeDoesUptoSaid : Prop := envelopeDoesUptoRow.holds Tryd.pinned (OpenSpec.upto envelopeDoesSpec)

/-- 'tansylaw09.EnvelopeBytes', WHERE WHAT IT READS IS OF BULK AT MOST 1048576: true; the input reads as it did. -/
def envelopeBytesUptoRow : OpenClaim := { program := "ytekiloagckkneaadoor", sum := "568848b096262eac1cb48a40b07828f773d6e553e6d15a0e8cf4fb0e13a935d4", func := "tansy/tansylaw09.EnvelopeBytes", spec := "envelopeBytes", named := ["tansy/perm.turns"], apart := false, laid := [("tansy/perm.turns", laid_tansy_perm_turns)], narrowed := true }
def EnvelopeBytesUptoSaid : Prop := envelopeBytesUptoRow.holds Tryd.pinned (OpenSpec.upto envelopeBytesSpec)

end Rows
end Go.Proofs.YtekiloagckkneaaDoor
