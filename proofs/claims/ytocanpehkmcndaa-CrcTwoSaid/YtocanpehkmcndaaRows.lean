/-
  No cell of these rows narrows 'for every input' (looked for: loops, veiled, ifaces, maps, wideKeys, modest, calm, conditions, laid).
  DERIVED. THE GIVEN ROWS OF THIS SEAT. 5 by the template 'for every input the law returns true; each argument reads behind the call as it read before'; 0 by the template 'total and deterministic' (their statements: YtocanpehkmcndaaTotals.lean).
  GIVEN WITH THE SEED: the statements are not yours to turn. If you find one false, say at which input.
  Laid BY PROGRAM, IN A SANDBOX (cutbox-rows.mjs): the forced cells as the released guide's own fill.sh prints them over the translation 8f8f4fd0d6435e04… (all of the seat's roots in one cut). By AI agents, Wed Nov 11 2026. No macro, syntax, notation, axiom, sorry.
-/
import Derived.Test.YtocanpehkmcndaaChecked
import GoSem.Claim
import GoSem.ClaimJoined
import GoSem.ClaimMapViews
import Derived.JoinedTies
import Derived.KernelRfl
namespace Go.Proofs.Ytocanpehkmcndaa
/- THE CELL 'sum', in the pinned program and in every row, IS THE sha256 OF THE DUMP (.gsa) THAT YtocanpehkmcndaaProg.lean LOADS. Nothing in Lean hashes anything: it is a label: what it is worth is what the hold of that sum in a sandbox is worth. -/
noncomputable def Try.pinned : Pinned := { name := "ytocanpehkmcndaa", sum := "8f8f4fd0d6435e04f53d0cfb57ad05199bc8d1317163f974ba6b8735a9a797c0", checked := Try.checked }
namespace Rows
def none {H : Type} : Left H := { results := [], args := [] }

/-- 'tansylaw03.CrcXor': WHATEVER THE INPUT: true; the input reads as it did. -/
def crcXorSpec : ChangeSpec := { name := "crcXor", fn := fun _ => fun
  | [d1, d2, d3] => { results := [.lit (.bool true)], args := [d1, d2, d3] }
  | _ => none }
def crcXorRow : OpenClaim := { program := "ytocanpehkmcndaa", sum := "8f8f4fd0d6435e04f53d0cfb57ad05199bc8d1317163f974ba6b8735a9a797c0", func := "tansy/tansylaw03.CrcXor", spec := "crcXor", apart := false }
def CrcXorSaid : Prop := crcXorRow.holds Try.pinned (OpenSpec.ofChange crcXorSpec)

/-- ITS FALSE NEIGHBOUR: 'it returns false'. Refute it at one input. -/
def crcXorWrong : ChangeSpec := { name := "crcXor", fn := fun _ => fun
  | [d1, d2, d3] => { results := [.lit (.bool false)], args := [d1, d2, d3] }
  | _ => none }
def CrcXorWrongFalsely : Prop := crcXorRow.holds Try.pinned (OpenSpec.ofChange crcXorWrong)

/-- 'tansylaw03.CrcTail': WHATEVER THE INPUT: true; the input reads as it did. -/
def crcTailSpec : ChangeSpec := { name := "crcTail", fn := fun _ => fun
  | [d] => { results := [.lit (.bool true)], args := [d] }
  | _ => none }
def crcTailRow : OpenClaim := { program := "ytocanpehkmcndaa", sum := "8f8f4fd0d6435e04f53d0cfb57ad05199bc8d1317163f974ba6b8735a9a797c0", func := "tansy/tansylaw03.CrcTail", spec := "crcTail", apart := false }
def CrcTailSaid : Prop := crcTailRow.holds Try.pinned (OpenSpec.ofChange crcTailSpec)

/-- ITS FALSE NEIGHBOUR: 'it returns false'. Refute it at one input. -/
def crcTailWrong : ChangeSpec := { name := "crcTail", fn := fun _ => fun
  | [d] => { results := [.lit (.bool false)], args := [d] }
  | _ => none }
def CrcTailWrongFalsely : Prop := crcTailRow.holds Try.pinned (OpenSpec.ofChange crcTailWrong)

/-- 'tansylaw03.CrcDoes': WHATEVER THE INPUT: true; the input reads as it did. -/
def crcDoesSpec : ChangeSpec := { name := "crcDoes", fn := fun _ => fun
  | [d1, d2] => { results := [.lit (.bool true)], args := [d1, d2] }
  | _ => none }
def crcDoesRow : OpenClaim := { program := "ytocanpehkmcndaa", sum := "8f8f4fd0d6435e04f53d0cfb57ad05199bc8d1317163f974ba6b8735a9a797c0", func := "tansy/tansylaw03.CrcDoes", spec := "crcDoes", apart := false }
def CrcDoesSaid : Prop := crcDoesRow.holds Try.pinned (OpenSpec.ofChange crcDoesSpec)

/-- ITS FALSE NEIGHBOUR: 'it returns false'. Refute it at one input. -/
def crcDoesWrong : ChangeSpec := { name := "crcDoes", fn := fun _ => fun
  | [d1, d2] => { results := [.lit (.bool false)], args := [d1, d2] }
  | _ => none }
def CrcDoesWrongFalsely : Prop := crcDoesRow.holds Try.pinned (OpenSpec.ofChange crcDoesWrong)

/-- 'tansylaw03.CrcOne': WHATEVER THE INPUT: true; the input reads as it did. -/
def crcOneSpec : ChangeSpec := { name := "crcOne", fn := fun _ => fun
  | [d1, d2, d3, d4, d5] => { results := [.lit (.bool true)], args := [d1, d2, d3, d4, d5] }
  | _ => none }
def crcOneRow : OpenClaim := { program := "ytocanpehkmcndaa", sum := "8f8f4fd0d6435e04f53d0cfb57ad05199bc8d1317163f974ba6b8735a9a797c0", func := "tansy/tansylaw03.CrcOne", spec := "crcOne", apart := false }
def CrcOneSaid : Prop := crcOneRow.holds Try.pinned (OpenSpec.ofChange crcOneSpec)

/-- ITS FALSE NEIGHBOUR: 'it returns false'. Refute it at one input. -/
def crcOneWrong : ChangeSpec := { name := "crcOne", fn := fun _ => fun
  | [d1, d2, d3, d4, d5] => { results := [.lit (.bool false)], args := [d1, d2, d3, d4, d5] }
  | _ => none }
def CrcOneWrongFalsely : Prop := crcOneRow.holds Try.pinned (OpenSpec.ofChange crcOneWrong)

/-- 'tansylaw03.CrcTwo': WHATEVER THE INPUT: true; the input reads as it did. -/
def crcTwoSpec : ChangeSpec := { name := "crcTwo", fn := fun _ => fun
  | [d1, d2, d3] => { results := [.lit (.bool true)], args := [d1, d2, d3] }
  | _ => none }
def crcTwoRow : OpenClaim := { program := "ytocanpehkmcndaa", sum := "8f8f4fd0d6435e04f53d0cfb57ad05199bc8d1317163f974ba6b8735a9a797c0", func := "tansy/tansylaw03.CrcTwo", spec := "crcTwo", apart := false }
def CrcTwoSaid : Prop := crcTwoRow.holds Try.pinned (OpenSpec.ofChange crcTwoSpec)

/-- ITS FALSE NEIGHBOUR: 'it returns false'. Refute it at one input. -/
def crcTwoWrong : ChangeSpec := { name := "crcTwo", fn := fun _ => fun
  | [d1, d2, d3] => { results := [.lit (.bool false)], args := [d1, d2, d3] }
  | _ => none }
def CrcTwoWrongFalsely : Prop := crcTwoRow.holds Try.pinned (OpenSpec.ofChange crcTwoWrong)

/- THE SECOND FORM. 'bulk': how many values and letters a reading holds, each counted each time it is reached (what is shared counts as often as it is met; a slice's spare places count too). A statement '..UptoSaid' is the law's where the arguments, and the package variables that the reading takes, are together of bulk at most 1048576: NARROWER than '..Said'. Prove '..Said' where nothing that the law and all that it calls make is longer than what came in: it says more and counts as full. Else prove '..UptoSaid'. A law counts once. -/
mutual
def uptoBulk {H : Type} : DataW H → Nat
  | .lit (.string bytes) => bytes.length + 1
  | .lit _ => 1
  | .nil => 1
  | .ptr d => uptoBulk d + 1
  | .slice elems spare => uptoBulkAll elems + uptoBulkAll spare + 1
  | .agg parts => uptoBulkAll parts + 1
  | .iface _ d => uptoBulk d + 1
  | .map entries => uptoBulkEntries entries + 1
  | .held _ => 1
def uptoBulkAll {H : Type} : List (DataW H) → Nat
  | [] => 0
  | d :: r => uptoBulk d + uptoBulkAll r
def uptoBulkEntries {H : Type} : List (Lit × DataW H) → Nat
  | [] => 0
  | x :: r => uptoBulkEntry x + uptoBulkEntries r
def uptoBulkEntry {H : Type} : Lit × DataW H → Nat
  | (.string bytes, d) => bytes.length + uptoBulk d + 1
  | (_, d) => uptoBulk d + 1
 end
def uptoSmall : (H : Type) → List (DataW H) → Bool := fun _ ds => decide (uptoBulkAll ds ≤ 1048576)
def OpenSpec.upto (s : _root_.Go.ChangeSpec) : _root_.Go.OpenSpec := { _root_.Go.OpenSpec.ofChange s with cond := some uptoSmall }

/-- 'tansylaw03.CrcXor', WHERE WHAT IT READS IS OF BULK AT MOST 1048576: true; the input reads as it did. -/
def crcXorUptoRow : OpenClaim := { program := "ytocanpehkmcndaa", sum := "8f8f4fd0d6435e04f53d0cfb57ad05199bc8d1317163f974ba6b8735a9a797c0", func := "tansy/tansylaw03.CrcXor", spec := "crcXor", apart := false, narrowed := true }
def CrcXorUptoSaid : Prop := crcXorUptoRow.holds Try.pinned (OpenSpec.upto crcXorSpec)

/-- 'tansylaw03.CrcTail', WHERE WHAT IT READS IS OF BULK AT MOST 1048576: true; the input reads as it did. -/
def crcTailUptoRow : OpenClaim := { program := "ytocanpehkmcndaa", sum := "8f8f4fd0d6435e04f53d0cfb57ad05199bc8d1317163f974ba6b8735a9a797c0", func := "tansy/tansylaw03.CrcTail", spec := "crcTail", apart := false, narrowed := true }
def CrcTailUptoSaid : Prop := crcTailUptoRow.holds Try.pinned (OpenSpec.upto crcTailSpec)

/-- 'tansylaw03.CrcDoes', WHERE WHAT IT READS IS OF BULK AT MOST 1048576: true; the input reads as it did. -/
def crcDoesUptoRow : OpenClaim := { program := "ytocanpehkmcndaa", sum := "8f8f4fd0d6435e04f53d0cfb57ad05199bc8d1317163f974ba6b8735a9a797c0", func := "tansy/tansylaw03.CrcDoes", spec := "crcDoes", apart := false, narrowed := true }
def CrcDoesUptoSaid : Prop := crcDoesUptoRow.holds Try.pinned (OpenSpec.upto crcDoesSpec)

/-- 'tansylaw03.CrcOne', WHERE WHAT IT READS IS OF BULK AT MOST 1048576: true; the input reads as it did. -/
def crcOneUptoRow : OpenClaim := { program := "ytocanpehkmcndaa", sum := "8f8f4fd0d6435e04f53d0cfb57ad05199bc8d1317163f974ba6b8735a9a797c0", func := "tansy/tansylaw03.CrcOne", spec := "crcOne", apart := false, narrowed := true }
def CrcOneUptoSaid : Prop := crcOneUptoRow.holds Try.pinned (OpenSpec.upto crcOneSpec)

/-- 'tansylaw03.CrcTwo', WHERE WHAT IT READS IS OF BULK AT MOST 1048576: true; the input reads as it did. -/
def crcTwoUptoRow : OpenClaim := { program := "ytocanpehkmcndaa", sum := "8f8f4fd0d6435e04f53d0cfb57ad05199bc8d1317163f974ba6b8735a9a797c0", func := "tansy/tansylaw03.CrcTwo", spec := "crcTwo", apart := false, narrowed := true }
def CrcTwoUptoSaid : Prop := crcTwoUptoRow.holds Try.pinned (OpenSpec.upto crcTwoSpec)

end Rows
end Go.Proofs.Ytocanpehkmcndaa
