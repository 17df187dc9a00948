/-
  No cell of these rows narrows 'for every input' (looked for: loops, veiled, ifaces, maps, wideKeys, modest, calm, conditions, laid).
  DERIVED. THE GIVEN ROWS OF THIS SEAT. 6 by the template 'for every input the law returns true; each argument reads behind the call as it read before'; 0 by the template 'total and deterministic' (their statements: YtmfeknamdjjbhaaTotals.lean).
  GIVEN WITH THE SEED: the statements are not yours to turn. If you find one false, say at which input.
  Laid BY PROGRAM, IN A SANDBOX (cutbox-rows.mjs): the forced cells as the released guide's own fill.sh prints them over the translation b9d24474dc5b09b8… (all of the seat's roots in one cut). By AI agents, Wed Nov 11 2026. No macro, syntax, notation, axiom, sorry.
-/
import Derived.Test.YtmfeknamdjjbhaaChecked
import GoSem.Claim
import GoSem.ClaimJoined
import GoSem.ClaimMapViews
import Derived.JoinedTies
import Derived.KernelRfl
namespace Go.Proofs.Ytmfeknamdjjbhaa
/- THE CELL 'sum', in the pinned program and in every row, IS THE sha256 OF THE DUMP (.gsa) THAT YtmfeknamdjjbhaaProg.lean LOADS. Nothing in Lean hashes anything: it is a label: what it is worth is what the hold of that sum in a sandbox is worth. -/
noncomputable def Try.pinned : Pinned := { name := "ytmfeknamdjjbhaa", sum := "b9d24474dc5b09b8b87ae1a4466d0966eb97216a440a39b37546ece127284a86", checked := Try.checked }
namespace Rows
def none {H : Type} : Left H := { results := [], args := [] }

/-- 'tansylaw06.CoderApart': WHATEVER THE INPUT: true; the input reads as it did. -/
def coderApartSpec : ChangeSpec := { name := "coderApart", fn := fun _ => fun
  | [d1, d2, d3] => { results := [.lit (.bool true)], args := [d1, d2, d3] }
  | _ => none }
def coderApartRow : OpenClaim := { program := "ytmfeknamdjjbhaa", sum := "b9d24474dc5b09b8b87ae1a4466d0966eb97216a440a39b37546ece127284a86", func := "tansy/tansylaw06.CoderApart", spec := "coderApart", unfollowed := true, recurses := true, apart := false }
def CoderApartSaid : Prop := coderApartRow.holds Try.pinned (OpenSpec.ofChange coderApartSpec)

/-- ITS FALSE NEIGHBOUR: 'it returns false'. Refute it at one input. -/
def coderApartWrong : ChangeSpec := { name := "coderApart", fn := fun _ => fun
  | [d1, d2, d3] => { results := [.lit (.bool false)], args := [d1, d2, d3] }
  | _ => none }
def CoderApartWrongFalsely : Prop := coderApartRow.holds Try.pinned (OpenSpec.ofChange coderApartWrong)

/-- 'tansylaw06.CoderReads': WHATEVER THE INPUT: true; the input reads as it did. -/
def coderReadsSpec : ChangeSpec := { name := "coderReads", fn := fun _ => fun
  | [d1, d2, d3] => { results := [.lit (.bool true)], args := [d1, d2, d3] }
  | _ => none }
def coderReadsRow : OpenClaim := { program := "ytmfeknamdjjbhaa", sum := "b9d24474dc5b09b8b87ae1a4466d0966eb97216a440a39b37546ece127284a86", func := "tansy/tansylaw06.CoderReads", spec := "coderReads", unfollowed := true, recurses := true, apart := false }
def CoderReadsSaid : Prop := coderReadsRow.holds Try.pinned (OpenSpec.ofChange coderReadsSpec)

/-- ITS FALSE NEIGHBOUR: 'it returns false'. Refute it at one input. -/
def coderReadsWrong : ChangeSpec := { name := "coderReads", fn := fun _ => fun
  | [d1, d2, d3] => { results := [.lit (.bool false)], args := [d1, d2, d3] }
  | _ => none }
def CoderReadsWrongFalsely : Prop := coderReadsRow.holds Try.pinned (OpenSpec.ofChange coderReadsWrong)

/-- 'tansylaw06.CoderDoes': WHATEVER THE INPUT: true; the input reads as it did. -/
def coderDoesSpec : ChangeSpec := { name := "coderDoes", fn := fun _ => fun
  | [d1, d2, d3, d4] => { results := [.lit (.bool true)], args := [d1, d2, d3, d4] }
  | _ => none }
def coderDoesRow : OpenClaim := { program := "ytmfeknamdjjbhaa", sum := "b9d24474dc5b09b8b87ae1a4466d0966eb97216a440a39b37546ece127284a86", func := "tansy/tansylaw06.CoderDoes", spec := "coderDoes", unfollowed := true, recurses := true, apart := false }
def CoderDoesSaid : Prop := coderDoesRow.holds Try.pinned (OpenSpec.ofChange coderDoesSpec)

/-- ITS FALSE NEIGHBOUR: 'it returns false'. Refute it at one input. -/
def coderDoesWrong : ChangeSpec := { name := "coderDoes", fn := fun _ => fun
  | [d1, d2, d3, d4] => { results := [.lit (.bool false)], args := [d1, d2, d3, d4] }
  | _ => none }
def CoderDoesWrongFalsely : Prop := coderDoesRow.holds Try.pinned (OpenSpec.ofChange coderDoesWrong)

/-- 'tansylaw06.CoderBack': WHATEVER THE INPUT: true; the input reads as it did. -/
def coderBackSpec : ChangeSpec := { name := "coderBack", fn := fun _ => fun
  | [d1, d2, d3] => { results := [.lit (.bool true)], args := [d1, d2, d3] }
  | _ => none }
def coderBackRow : OpenClaim := { program := "ytmfeknamdjjbhaa", sum := "b9d24474dc5b09b8b87ae1a4466d0966eb97216a440a39b37546ece127284a86", func := "tansy/tansylaw06.CoderBack", spec := "coderBack", unfollowed := true, recurses := true, apart := false }
def CoderBackSaid : Prop := coderBackRow.holds Try.pinned (OpenSpec.ofChange coderBackSpec)

/-- ITS FALSE NEIGHBOUR: 'it returns false'. Refute it at one input. -/
def coderBackWrong : ChangeSpec := { name := "coderBack", fn := fun _ => fun
  | [d1, d2, d3] => { results := [.lit (.bool false)], args := [d1, d2, d3] }
  | _ => none }
def CoderBackWrongFalsely : Prop := coderBackRow.holds Try.pinned (OpenSpec.ofChange coderBackWrong)

/-- 'tansylaw06.CoderShort': WHATEVER THE INPUT: true; the input reads as it did. -/
def coderShortSpec : ChangeSpec := { name := "coderShort", fn := fun _ => fun
  | [d1, d2] => { results := [.lit (.bool true)], args := [d1, d2] }
  | _ => none }
def coderShortRow : OpenClaim := { program := "ytmfeknamdjjbhaa", sum := "b9d24474dc5b09b8b87ae1a4466d0966eb97216a440a39b37546ece127284a86", func := "tansy/tansylaw06.CoderShort", spec := "coderShort", unfollowed := true, recurses := true, apart := false }
def CoderShortSaid : Prop := coderShortRow.holds Try.pinned (OpenSpec.ofChange coderShortSpec)

/-- ITS FALSE NEIGHBOUR: 'it returns false'. Refute it at one input. -/
def coderShortWrong : ChangeSpec := { name := "coderShort", fn := fun _ => fun
  | [d1, d2] => { results := [.lit (.bool false)], args := [d1, d2] }
  | _ => none }
def CoderShortWrongFalsely : Prop := coderShortRow.holds Try.pinned (OpenSpec.ofChange coderShortWrong)

/-- 'tansylaw06.CoderPrefix': WHATEVER THE INPUT: true; the input reads as it did. -/
def coderPrefixSpec : ChangeSpec := { name := "coderPrefix", fn := fun _ => fun
  | [d1, d2, d3] => { results := [.lit (.bool true)], args := [d1, d2, d3] }
  | _ => none }
def coderPrefixRow : OpenClaim := { program := "ytmfeknamdjjbhaa", sum := "b9d24474dc5b09b8b87ae1a4466d0966eb97216a440a39b37546ece127284a86", func := "tansy/tansylaw06.CoderPrefix", spec := "coderPrefix", unfollowed := true, recurses := true, apart := false }
def CoderPrefixSaid : Prop := coderPrefixRow.holds Try.pinned (OpenSpec.ofChange coderPrefixSpec)

/-- ITS FALSE NEIGHBOUR: 'it returns false'. Refute it at one input. -/
def coderPrefixWrong : ChangeSpec := { name := "coderPrefix", fn := fun _ => fun
  | [d1, d2, d3] => { results := [.lit (.bool false)], args := [d1, d2, d3] }
  | _ => none }
def CoderPrefixWrongFalsely : Prop := coderPrefixRow.holds Try.pinned (OpenSpec.ofChange coderPrefixWrong)

/- THE SECOND FORM. 'bulk': how many values and letters a reading holds, each counted each time it is reached (what is shared counts as often as it is met; a slice's spare places count too). A statement '..UptoSaid' is the law's where the arguments, and the package variables that the reading takes, are together of bulk at most 1048576: NARROWER than '..Said'. Prove '..Said' where nothing that the law and all that it calls make is longer than what came in: it says more and counts as full. Else prove '..UptoSaid'. A law counts once. -/
mutual
def uptoBulk {H : Type} : DataW H → Nat
  | .lit (.string bytes) => bytes.length + 1
  | .lit _ => 1
  | .nil => 1
  | .ptr d => uptoBulk d + 1
  | .slice elems spare => uptoBulkAll elems + uptoBulkAll spare + 1
  | .agg parts => uptoBulkAll parts + 1
  | .iface _ d => uptoBulk d + 1
  | .map entries => uptoBulkEntries entries + 1
  | .held _ => 1
def uptoBulkAll {H : Type} : List (DataW H) → Nat
  | [] => 0
  | d :: r => uptoBulk d + uptoBulkAll r
def uptoBulkEntries {H : Type} : List (Lit × DataW H) → Nat
  | [] => 0
  | x :: r => uptoBulkEntry x + uptoBulkEntries r
def uptoBulkEntry {H : Type} : Lit × DataW H → Nat
  | (.string bytes, d) => bytes.length + uptoBulk d + 1
  | (_, d) => uptoBulk d + 1
 end
def uptoSmall : (H : Type) → List (DataW H) → Bool := fun _ ds => decide (uptoBulkAll ds ≤ 1048576)
def OpenSpec.upto (s : _root_.Go.ChangeSpec) : _root_.Go.OpenSpec := { _root_.Go.OpenSpec.ofChange s with cond := some uptoSmall }

/-- 'tansylaw06.CoderApart', WHERE WHAT IT READS IS OF BULK AT MOST 1048576: true; the input reads as it did. -/
def coderApartUptoRow : OpenClaim := { program := "ytmfeknamdjjbhaa", sum := "b9d24474dc5b09b8b87ae1a4466d0966eb97216a440a39b37546ece127284a86", func := "tansy/tansylaw06.CoderApart", spec := "coderApart", unfollowed := true, recurses := true, apart := false, narrowed := true }
def CoderApartUptoSaid : Prop := coderApartUptoRow.holds Try.pinned (OpenSpec.upto coderApartSpec)

/-- 'tansylaw06.CoderReads', WHERE WHAT IT READS IS OF BULK AT MOST 1048576: true; the input reads as it did. -/
def coderReadsUptoRow : OpenClaim := { program := "ytmfeknamdjjbhaa", sum := "b9d24474dc5b09b8b87ae1a4466d0966eb97216a440a39b37546ece127284a86", func := "tansy/tansylaw06.CoderReads", spec := "coderReads", unfollowed := true, recurses := true, apart := false, narrowed := true }
def CoderReadsUptoSaid : Prop := coderReadsUptoRow.holds Try.pinned (OpenSpec.upto coderReadsSpec)

/-- 'tansylaw06.CoderDoes', WHERE WHAT IT READS IS OF BULK AT MOST 1048576: true; the input reads as it did. -/
def coderDoesUptoRow : OpenClaim := { program := "ytmfeknamdjjbhaa", sum := "b9d24474dc5b09b8b87ae1a4466d0966eb97216a440a39b37546ece127284a86", func := "tansy/tansylaw06.CoderDoes", spec := "coderDoes", unfollowed := true, recurses := true, apart := false, narrowed := true }
def CoderDoesUptoSaid : Prop := coderDoesUptoRow.holds Try.pinned (OpenSpec.upto coderDoesSpec)

/-- 'tansylaw06.CoderBack', WHERE WHAT IT READS IS OF BULK AT MOST 1048576: true; the input reads as it did. -/
def coderBackUptoRow : OpenClaim := { program := "ytmfeknamdjjbhaa", sum := "b9d24474dc5b09b8b87ae1a4466d0966eb97216a440a39b37546ece127284a86", func := "tansy/tansylaw06.CoderBack", spec := "coderBack", unfollowed := true, recurses := true, apart := false, narrowed := true }
def CoderBackUptoSaid : Prop := coderBackUptoRow.holds Try.pinned (OpenSpec.upto coderBackSpec)

/-- 'tansylaw06.CoderShort', WHERE WHAT IT READS IS OF BULK AT MOST 1048576: true; the input reads as it did. -/
def coderShortUptoRow : OpenClaim := { program := "ytmfeknamdjjbhaa", sum := "b9d24474dc5b09b8b87ae1a4466d0966eb97216a440a39b37546ece127284a86", func := "tansy/tansylaw06.CoderShort", spec := "coderShort", unfollowed := true, recurses := true, apart := false, narrowed := true }
def CoderShortUptoSaid : Prop := coderShortUptoRow.holds Try.pinned (OpenSpec.upto coderShortSpec)

/-- 'tansylaw06.CoderPrefix', WHERE WHAT IT READS IS OF BULK AT MOST 1048576: true; the input reads as it did. -/
def coderPrefixUptoRow : OpenClaim := { program := "ytmfeknamdjjbhaa", sum := "b9d24474dc5b09b8b87ae1a4466d0966eb97216a440a39b37546ece127284a86", func := "tansy/tansylaw06.CoderPrefix", spec := "coderPrefix", unfollowed := true, recurses := true, apart := false, narrowed := true }
def CoderPrefixUptoSaid : Prop := coderPrefixUptoRow.holds Try.pinned (OpenSpec.upto coderPrefixSpec)

end Rows
end Go.Proofs.Ytmfeknamdjjbhaa
