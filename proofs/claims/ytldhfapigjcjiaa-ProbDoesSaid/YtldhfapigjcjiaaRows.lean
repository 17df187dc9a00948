/-
  No cell of these rows narrows 'for every input' (looked for: loops, veiled, ifaces, maps, wideKeys, modest, calm, conditions, laid).
  DERIVED. THE GIVEN ROWS OF THIS SEAT. 5 by the template 'for every input the law returns true; each argument reads behind the call as it read before'; 0 by the template 'total and deterministic' (their statements: YtldhfapigjcjiaaTotals.lean).
  GIVEN WITH THE SEED: the statements are not yours to turn. If you find one false, say at which input.
  Laid BY PROGRAM, IN A SANDBOX (cutbox-rows.mjs): the forced cells as the released guide's own fill.sh prints them over the translation dfd2769596ed7afd… (all of the seat's roots in one cut). By AI agents, Wed Nov 11 2026. No macro, syntax, notation, axiom, sorry.
-/
import Derived.Test.YtldhfapigjcjiaaChecked
import GoSem.Claim
import GoSem.ClaimJoined
import GoSem.ClaimMapViews
import Derived.JoinedTies
import Derived.KernelRfl
namespace Go.Proofs.Ytldhfapigjcjiaa
/- THE CELL 'sum', in the pinned program and in every row, IS THE sha256 OF THE DUMP (.gsa) THAT YtldhfapigjcjiaaProg.lean LOADS. Nothing in Lean hashes anything: it is a label: what it is worth is what the hold of that sum in a sandbox is worth. -/
noncomputable def Try.pinned : Pinned := { name := "ytldhfapigjcjiaa", sum := "dfd2769596ed7afdd5151fe4508bb7d463a998ee4d41489d1541219023fc153c", checked := Try.checked }
namespace Rows
def none {H : Type} : Left H := { results := [], args := [] }

/-- 'tansylaw05.ProbStays': WHATEVER THE INPUT: true; the input reads as it did. -/
def probStaysSpec : ChangeSpec := { name := "probStays", fn := fun _ => fun
  | [d1, d2] => { results := [.lit (.bool true)], args := [d1, d2] }
  | _ => none }
def probStaysRow : OpenClaim := { program := "ytldhfapigjcjiaa", sum := "dfd2769596ed7afdd5151fe4508bb7d463a998ee4d41489d1541219023fc153c", func := "tansy/tansylaw05.ProbStays", spec := "probStays", unfollowed := true, recurses := true, apart := false }
def ProbStaysSaid : Prop := probStaysRow.holds Try.pinned (OpenSpec.ofChange probStaysSpec)

/-- ITS FALSE NEIGHBOUR: 'it returns false'. Refute it at one input. -/
def probStaysWrong : ChangeSpec := { name := "probStays", fn := fun _ => fun
  | [d1, d2] => { results := [.lit (.bool false)], args := [d1, d2] }
  | _ => none }
def ProbStaysWrongFalsely : Prop := probStaysRow.holds Try.pinned (OpenSpec.ofChange probStaysWrong)

/-- 'tansylaw05.ProbEnds': WHATEVER THE INPUT: true; the input reads as it did. -/
def probEndsSpec : ChangeSpec := { name := "probEnds", fn := fun _ => fun
  | [d1, d2] => { results := [.lit (.bool true)], args := [d1, d2] }
  | _ => none }
def probEndsRow : OpenClaim := { program := "ytldhfapigjcjiaa", sum := "dfd2769596ed7afdd5151fe4508bb7d463a998ee4d41489d1541219023fc153c", func := "tansy/tansylaw05.ProbEnds", spec := "probEnds", unfollowed := true, recurses := true, apart := false }
def ProbEndsSaid : Prop := probEndsRow.holds Try.pinned (OpenSpec.ofChange probEndsSpec)

/-- ITS FALSE NEIGHBOUR: 'it returns false'. Refute it at one input. -/
def probEndsWrong : ChangeSpec := { name := "probEnds", fn := fun _ => fun
  | [d1, d2] => { results := [.lit (.bool false)], args := [d1, d2] }
  | _ => none }
def ProbEndsWrongFalsely : Prop := probEndsRow.holds Try.pinned (OpenSpec.ofChange probEndsWrong)

/-- 'tansylaw05.ProbSplits': WHATEVER THE INPUT: true; the input reads as it did. -/
def probSplitsSpec : ChangeSpec := { name := "probSplits", fn := fun _ => fun
  | [d1, d2] => { results := [.lit (.bool true)], args := [d1, d2] }
  | _ => none }
def probSplitsRow : OpenClaim := { program := "ytldhfapigjcjiaa", sum := "dfd2769596ed7afdd5151fe4508bb7d463a998ee4d41489d1541219023fc153c", func := "tansy/tansylaw05.ProbSplits", spec := "probSplits", unfollowed := true, recurses := true, apart := false }
def ProbSplitsSaid : Prop := probSplitsRow.holds Try.pinned (OpenSpec.ofChange probSplitsSpec)

/-- ITS FALSE NEIGHBOUR: 'it returns false'. Refute it at one input. -/
def probSplitsWrong : ChangeSpec := { name := "probSplits", fn := fun _ => fun
  | [d1, d2] => { results := [.lit (.bool false)], args := [d1, d2] }
  | _ => none }
def ProbSplitsWrongFalsely : Prop := probSplitsRow.holds Try.pinned (OpenSpec.ofChange probSplitsWrong)

/-- 'tansylaw05.ProbOrder': WHATEVER THE INPUT: true; the input reads as it did. -/
def probOrderSpec : ChangeSpec := { name := "probOrder", fn := fun _ => fun
  | [d1, d2, d3, d4] => { results := [.lit (.bool true)], args := [d1, d2, d3, d4] }
  | _ => none }
def probOrderRow : OpenClaim := { program := "ytldhfapigjcjiaa", sum := "dfd2769596ed7afdd5151fe4508bb7d463a998ee4d41489d1541219023fc153c", func := "tansy/tansylaw05.ProbOrder", spec := "probOrder", unfollowed := true, recurses := true, apart := false }
def ProbOrderSaid : Prop := probOrderRow.holds Try.pinned (OpenSpec.ofChange probOrderSpec)

/-- ITS FALSE NEIGHBOUR: 'it returns false'. Refute it at one input. -/
def probOrderWrong : ChangeSpec := { name := "probOrder", fn := fun _ => fun
  | [d1, d2, d3, d4] => { results := [.lit (.bool false)], args := [d1, d2, d3, d4] }
  | _ => none }
def ProbOrderWrongFalsely : Prop := probOrderRow.holds Try.pinned (OpenSpec.ofChange probOrderWrong)

/-- 'tansylaw05.ProbDoes': WHATEVER THE INPUT: true; the input reads as it did. -/
def probDoesSpec : ChangeSpec := { name := "probDoes", fn := fun _ => fun
  | [d1, d2, d3, d4, d5, d6] => { results := [.lit (.bool true)], args := [d1, d2, d3, d4, d5, d6] }
  | _ => none }
def probDoesRow : OpenClaim := { program := "ytldhfapigjcjiaa", sum := "dfd2769596ed7afdd5151fe4508bb7d463a998ee4d41489d1541219023fc153c", func := "tansy/tansylaw05.ProbDoes", spec := "probDoes", unfollowed := true, recurses := true, apart := false }
def ProbDoesSaid : Prop := probDoesRow.holds Try.pinned (OpenSpec.ofChange probDoesSpec)

/-- ITS FALSE NEIGHBOUR: 'it returns false'. Refute it at one input. -/
def probDoesWrong : ChangeSpec := { name := "probDoes", fn := fun _ => fun
  | [d1, d2, d3, d4, d5, d6] => { results := [.lit (.bool false)], args := [d1, d2, d3, d4, d5, d6] }
  | _ => none }
def ProbDoesWrongFalsely : Prop := probDoesRow.holds Try.pinned (OpenSpec.ofChange probDoesWrong)

/- THE SECOND FORM. 'bulk': how many values and letters a reading holds, each counted each time it is reached (what is shared counts as often as it is met; a slice's spare places count too). A statement '..UptoSaid' is the law's where the arguments, and the package variables that the reading takes, are together of bulk at most 1048576: NARROWER than '..Said'. Prove '..Said' where nothing that the law and all that it calls make is longer than what came in: it says more and counts as full. Else prove '..UptoSaid'. A law counts once. -/
mutual
def uptoBulk {H : Type} : DataW H → Nat
  | .lit (.string bytes) => bytes.length + 1
  | .lit _ => 1
  | .nil => 1
  | .ptr d => uptoBulk d + 1
  | .slice elems spare => uptoBulkAll elems + uptoBulkAll spare + 1
  | .agg parts => uptoBulkAll parts + 1
  | .iface _ d => uptoBulk d + 1
  | .map entries => uptoBulkEntries entries + 1
  | .held _ => 1
def uptoBulkAll {H : Type} : List (DataW H) → Nat
  | [] => 0
  | d :: r => uptoBulk d + uptoBulkAll r
def uptoBulkEntries {H : Type} : List (Lit × DataW H) → Nat
  | [] => 0
  | x :: r => uptoBulkEntry x + uptoBulkEntries r
def uptoBulkEntry {H : Type} : Lit × DataW H → Nat
  | (.string bytes, d) => bytes.length + uptoBulk d + 1
  | (_, d) => uptoBulk d + 1
 end
def uptoSmall : (H : Type) → List (DataW H) → Bool := fun _ ds => decide (uptoBulkAll ds ≤ 1048576)
def OpenSpec.upto (s : _root_.Go.ChangeSpec) : _root_.Go.OpenSpec := { _root_.Go.OpenSpec.ofChange s with cond := some uptoSmall }

/-- 'tansylaw05.ProbStays', WHERE WHAT IT READS IS OF BULK AT MOST 1048576: true; the input reads as it did. -/
def probStaysUptoRow : OpenClaim := { program := "ytldhfapigjcjiaa", sum := "dfd2769596ed7afdd5151fe4508bb7d463a998ee4d41489d1541219023fc153c", func := "tansy/tansylaw05.ProbStays", spec := "probStays", unfollowed := true, recurses := true, apart := false, narrowed := true }
def ProbStaysUptoSaid : Prop := probStaysUptoRow.holds Try.pinned (OpenSpec.upto probStaysSpec)

/-- 'tansylaw05.ProbEnds', WHERE WHAT IT READS IS OF BULK AT MOST 1048576: true; the input reads as it did. -/
def probEndsUptoRow : OpenClaim := { program := "ytldhfapigjcjiaa", sum := "dfd2769596ed7afdd5151fe4508bb7d463a998ee4d41489d1541219023fc153c", func := "tansy/tansylaw05.ProbEnds", spec := "probEnds", unfollowed := true, recurses := true, apart := false, narrowed := true }
def ProbEndsUptoSaid : Prop := probEndsUptoRow.holds Try.pinned (OpenSpec.upto probEndsSpec)

/-- 'tansylaw05.ProbSplits', WHERE WHAT IT READS IS OF BULK AT MOST 1048576: true; the input reads as it did. -/
def probSplitsUptoRow : OpenClaim := { program := "ytldhfapigjcjiaa", sum := "dfd2769596ed7afdd5151fe4508bb7d463a998ee4d41489d1541219023fc153c", func := "tansy/tansylaw05.ProbSplits", spec := "probSplits", unfollowed := true, recurses := true, apart := false, narrowed := true }
def ProbSplitsUptoSaid : Prop := probSplitsUptoRow.holds Try.pinned (OpenSpec.upto probSplitsSpec)

/-- 'tansylaw05.ProbOrder', WHERE WHAT IT READS IS OF BULK AT MOST 1048576: true; the input reads as it did. -/
def probOrderUptoRow : OpenClaim := { program := "ytldhfapigjcjiaa", sum := "dfd2769596ed7afdd5151fe4508bb7d463a998ee4d41489d1541219023fc153c", func := "tansy/tansylaw05.ProbOrder", spec := "probOrder", unfollowed := true, recurses := true, apart := false, narrowed := true }
def ProbOrderUptoSaid : Prop := probOrderUptoRow.holds Try.pinned (OpenSpec.upto probOrderSpec)

/-- 'tansylaw05.ProbDoes', WHERE WHAT IT READS IS OF BULK AT MOST 1048576: true; the input reads as it did. -/
def probDoesUptoRow : OpenClaim := { program := "ytldhfapigjcjiaa", sum := "dfd2769596ed7afdd5151fe4508bb7d463a998ee4d41489d1541219023fc153c", func := "tansy/tansylaw05.ProbDoes", spec := "probDoes", unfollowed := true, recurses := true, apart := false, narrowed := true }
def ProbDoesUptoSaid : Prop := probDoesUptoRow.holds Try.pinned (OpenSpec.upto probDoesSpec)

end Rows
end Go.Proofs.Ytldhfapigjcjiaa
