/-
  No cell of these rows narrows 'for every input' (looked for: loops, veiled, ifaces, maps, wideKeys, modest, calm, conditions, laid).
  DERIVED. THE GIVEN ROWS OF THIS SEAT. 6 by the template 'for every input the law returns true; each argument reads behind the call as it read before'; 0 by the template 'total and deterministic' (their statements: YtdhcmnblfkhndaaTotals.lean).
  GIVEN WITH THE SEED: the statements are not yours to turn. If you find one false, say at which input.
  Laid BY PROGRAM, IN A SANDBOX (cutbox-rows.mjs): the forced cells as the released guide's own fill.sh prints them over the translation 7bf7a0f6abcaeb6e… (all of the seat's roots in one cut). By AI agents, Wed Nov 11 2026. No macro, syntax, notation, axiom, sorry.
-/
import Derived.Test.YtdhcmnblfkhndaaChecked
import GoSem.Claim
import GoSem.ClaimJoined
import GoSem.ClaimMapViews
import Derived.JoinedTies
import Derived.KernelRfl
namespace Go.Proofs.Ytdhcmnblfkhndaa
/- THE CELL 'sum', in the pinned program and in every row, IS THE sha256 OF THE DUMP (.gsa) THAT YtdhcmnblfkhndaaProg.lean LOADS. Nothing in Lean hashes anything: it is a label: what it is worth is what the hold of that sum in a sandbox is worth. -/
noncomputable def Try.pinned : Pinned := { name := "ytdhcmnblfkhndaa", sum := "7bf7a0f6abcaeb6e25a324ebdca3926d221aabf7dbbf7f157b22779452933dc1", checked := Try.checked }
namespace Rows
def none {H : Type} : Left H := { results := [], args := [] }

/-- 'tansylaw04.MatchRuns': WHATEVER THE INPUT: true; the input reads as it did. -/
def matchRunsSpec : ChangeSpec := { name := "matchRuns", fn := fun _ => fun
  | [d1, d2] => { results := [.lit (.bool true)], args := [d1, d2] }
  | _ => none }
def matchRunsRow : OpenClaim := { program := "ytdhcmnblfkhndaa", sum := "7bf7a0f6abcaeb6e25a324ebdca3926d221aabf7dbbf7f157b22779452933dc1", func := "tansy/tansylaw04.MatchRuns", spec := "matchRuns", apart := false }
def MatchRunsSaid : Prop := matchRunsRow.holds Try.pinned (OpenSpec.ofChange matchRunsSpec)

/-- ITS FALSE NEIGHBOUR: 'it returns false'. Refute it at one input. -/
def matchRunsWrong : ChangeSpec := { name := "matchRuns", fn := fun _ => fun
  | [d1, d2] => { results := [.lit (.bool false)], args := [d1, d2] }
  | _ => none }
def MatchRunsWrongFalsely : Prop := matchRunsRow.holds Try.pinned (OpenSpec.ofChange matchRunsWrong)

/-- 'tansylaw04.MatchDoes': WHATEVER THE INPUT: true; the input reads as it did. -/
def matchDoesSpec : ChangeSpec := { name := "matchDoes", fn := fun _ => fun
  | [d1, d2] => { results := [.lit (.bool true)], args := [d1, d2] }
  | _ => none }
def matchDoesRow : OpenClaim := { program := "ytdhcmnblfkhndaa", sum := "7bf7a0f6abcaeb6e25a324ebdca3926d221aabf7dbbf7f157b22779452933dc1", func := "tansy/tansylaw04.MatchDoes", spec := "matchDoes", apart := false }
def MatchDoesSaid : Prop := matchDoesRow.holds Try.pinned (OpenSpec.ofChange matchDoesSpec)

/-- ITS FALSE NEIGHBOUR: 'it returns false'. Refute it at one input. -/
def matchDoesWrong : ChangeSpec := { name := "matchDoes", fn := fun _ => fun
  | [d1, d2] => { results := [.lit (.bool false)], args := [d1, d2] }
  | _ => none }
def MatchDoesWrongFalsely : Prop := matchDoesRow.holds Try.pinned (OpenSpec.ofChange matchDoesWrong)

/-- 'tansylaw04.MatchLongest': WHATEVER THE INPUT: true; the input reads as it did. -/
def matchLongestSpec : ChangeSpec := { name := "matchLongest", fn := fun _ => fun
  | [d1, d2, d3] => { results := [.lit (.bool true)], args := [d1, d2, d3] }
  | _ => none }
def matchLongestRow : OpenClaim := { program := "ytdhcmnblfkhndaa", sum := "7bf7a0f6abcaeb6e25a324ebdca3926d221aabf7dbbf7f157b22779452933dc1", func := "tansy/tansylaw04.MatchLongest", spec := "matchLongest", apart := false }
def MatchLongestSaid : Prop := matchLongestRow.holds Try.pinned (OpenSpec.ofChange matchLongestSpec)

/-- ITS FALSE NEIGHBOUR: 'it returns false'. Refute it at one input. -/
def matchLongestWrong : ChangeSpec := { name := "matchLongest", fn := fun _ => fun
  | [d1, d2, d3] => { results := [.lit (.bool false)], args := [d1, d2, d3] }
  | _ => none }
def MatchLongestWrongFalsely : Prop := matchLongestRow.holds Try.pinned (OpenSpec.ofChange matchLongestWrong)

/-- 'tansylaw04.MatchMost': WHATEVER THE INPUT: true; the input reads as it did. -/
def matchMostSpec : ChangeSpec := { name := "matchMost", fn := fun _ => fun
  | [d] => { results := [.lit (.bool true)], args := [d] }
  | _ => none }
def matchMostRow : OpenClaim := { program := "ytdhcmnblfkhndaa", sum := "7bf7a0f6abcaeb6e25a324ebdca3926d221aabf7dbbf7f157b22779452933dc1", func := "tansy/tansylaw04.MatchMost", spec := "matchMost", apart := false }
def MatchMostSaid : Prop := matchMostRow.holds Try.pinned (OpenSpec.ofChange matchMostSpec)

/-- ITS FALSE NEIGHBOUR: 'it returns false'. Refute it at one input. -/
def matchMostWrong : ChangeSpec := { name := "matchMost", fn := fun _ => fun
  | [d] => { results := [.lit (.bool false)], args := [d] }
  | _ => none }
def MatchMostWrongFalsely : Prop := matchMostRow.holds Try.pinned (OpenSpec.ofChange matchMostWrong)

/-- 'tansylaw04.MatchParts': WHATEVER THE INPUT: true; the input reads as it did. -/
def matchPartsSpec : ChangeSpec := { name := "matchParts", fn := fun _ => fun
  | [d1, d2] => { results := [.lit (.bool true)], args := [d1, d2] }
  | _ => none }
def matchPartsRow : OpenClaim := { program := "ytdhcmnblfkhndaa", sum := "7bf7a0f6abcaeb6e25a324ebdca3926d221aabf7dbbf7f157b22779452933dc1", func := "tansy/tansylaw04.MatchParts", spec := "matchParts", apart := false }
def MatchPartsSaid : Prop := matchPartsRow.holds Try.pinned (OpenSpec.ofChange matchPartsSpec)

/-- ITS FALSE NEIGHBOUR: 'it returns false'. Refute it at one input. -/
def matchPartsWrong : ChangeSpec := { name := "matchParts", fn := fun _ => fun
  | [d1, d2] => { results := [.lit (.bool false)], args := [d1, d2] }
  | _ => none }
def MatchPartsWrongFalsely : Prop := matchPartsRow.holds Try.pinned (OpenSpec.ofChange matchPartsWrong)

/-- 'tansylaw04.MatchTells': WHATEVER THE INPUT: true; the input reads as it did. -/
def matchTellsSpec : ChangeSpec := { name := "matchTells", fn := fun _ => fun
  | [d1, d2] => { results := [.lit (.bool true)], args := [d1, d2] }
  | _ => none }
def matchTellsRow : OpenClaim := { program := "ytdhcmnblfkhndaa", sum := "7bf7a0f6abcaeb6e25a324ebdca3926d221aabf7dbbf7f157b22779452933dc1", func := "tansy/tansylaw04.MatchTells", spec := "matchTells", apart := false }
def MatchTellsSaid : Prop := matchTellsRow.holds Try.pinned (OpenSpec.ofChange matchTellsSpec)

/-- ITS FALSE NEIGHBOUR: 'it returns false'. Refute it at one input. -/
def matchTellsWrong : ChangeSpec := { name := "matchTells", fn := fun _ => fun
  | [d1, d2] => { results := [.lit (.bool false)], args := [d1, d2] }
  | _ => none }
def MatchTellsWrongFalsely : Prop := matchTellsRow.holds Try.pinned (OpenSpec.ofChange matchTellsWrong)

/- THE SECOND FORM. 'bulk': how many values and letters a reading holds, each counted each time it is reached (what is shared counts as often as it is met; a slice's spare places count too). A statement '..UptoSaid' is the law's where the arguments, and the package variables that the reading takes, are together of bulk at most 1048576: NARROWER than '..Said'. Prove '..Said' where nothing that the law and all that it calls make is longer than what came in: it says more and counts as full. Else prove '..UptoSaid'. A law counts once. -/
mutual
def uptoBulk {H : Type} : DataW H → Nat
  | .lit (.string bytes) => bytes.length + 1
  | .lit _ => 1
  | .nil => 1
  | .ptr d => uptoBulk d + 1
  | .slice elems spare => uptoBulkAll elems + uptoBulkAll spare + 1
  | .agg parts => uptoBulkAll parts + 1
  | .iface _ d => uptoBulk d + 1
  | .map entries => uptoBulkEntries entries + 1
  | .held _ => 1
def uptoBulkAll {H : Type} : List (DataW H) → Nat
  | [] => 0
  | d :: r => uptoBulk d + uptoBulkAll r
def uptoBulkEntries {H : Type} : List (Lit × DataW H) → Nat
  | [] => 0
  | x :: r => uptoBulkEntry x + uptoBulkEntries r
def uptoBulkEntry {H : Type} : Lit × DataW H → Nat
  | (.string bytes, d) => bytes.length + uptoBulk d + 1
  | (_, d) => uptoBulk d + 1
 end
def uptoSmall : (H : Type) → List (DataW H) → Bool := fun _ ds => decide (uptoBulkAll ds ≤ 1048576)
def OpenSpec.upto (s : _root_.Go.ChangeSpec) : _root_.Go.OpenSpec := { _root_.Go.OpenSpec.ofChange s with cond := some uptoSmall }

/-- 'tansylaw04.MatchRuns', WHERE WHAT IT READS IS OF BULK AT MOST 1048576: true; the input reads as it did. -/
def matchRunsUptoRow : OpenClaim := { program := "ytdhcmnblfkhndaa", sum := "7bf7a0f6abcaeb6e25a324ebdca3926d221aabf7dbbf7f157b22779452933dc1", func := "tansy/tansylaw04.MatchRuns", spec := "matchRuns", apart := false, narrowed := true }
def MatchRunsUptoSaid : Prop := matchRunsUptoRow.holds Try.pinned (OpenSpec.upto matchRunsSpec)

/-- 'tansylaw04.MatchDoes', WHERE WHAT IT READS IS OF BULK AT MOST 1048576: true; the input reads as it did. -/
def matchDoesUptoRow : OpenClaim := { program := "ytdhcmnblfkhndaa", sum := "7bf7a0f6abcaeb6e25a324ebdca3926d221aabf7dbbf7f157b22779452933dc1", func := "tansy/tansylaw04.MatchDoes", spec := "matchDoes", apart := false, narrowed := true }
def MatchDoesUptoSaid : Prop := matchDoesUptoRow.holds Try.pinned (OpenSpec.upto matchDoesSpec)

/-- 'tansylaw04.MatchLongest', WHERE WHAT IT READS IS OF BULK AT MOST 1048576: true; the input reads as it did. -/
def matchLongestUptoRow : OpenClaim := { program := "ytdhcmnblfkhndaa", sum := "7bf7a0f6abcaeb6e25a324ebdca3926d221aabf7dbbf7f157b22779452933dc1", func := "tansy/tansylaw04.MatchLongest", spec := "matchLongest", apart := false, narrowed := true }
def MatchLongestUptoSaid : Prop := matchLongestUptoRow.holds Try.pinned (OpenSpec.upto matchLongestSpec)

/-- 'tansylaw04.MatchMost', WHERE WHAT IT READS IS OF BULK AT MOST 1048576: true; the input reads as it did. -/
def matchMostUptoRow : OpenClaim := { program := "ytdhcmnblfkhndaa", sum := "7bf7a0f6abcaeb6e25a324ebdca3926d221aabf7dbbf7f157b22779452933dc1", func := "tansy/tansylaw04.MatchMost", spec := "matchMost", apart := false, narrowed := true }
def MatchMostUptoSaid : Prop := matchMostUptoRow.holds Try.pinned (OpenSpec.upto matchMostSpec)

/-- 'tansylaw04.MatchParts', WHERE WHAT IT READS IS OF BULK AT MOST 1048576: true; the input reads as it did. -/
def matchPartsUptoRow : OpenClaim := { program := "ytdhcmnblfkhndaa", sum := "7bf7a0f6abcaeb6e25a324ebdca3926d221aabf7dbbf7f157b22779452933dc1", func := "tansy/tansylaw04.MatchParts", spec := "matchParts", apart := false, narrowed := true }
def MatchPartsUptoSaid : Prop := matchPartsUptoRow.holds Try.pinned (OpenSpec.upto matchPartsSpec)

/-- 'tansylaw04.MatchTells', WHERE WHAT IT READS IS OF BULK AT MOST 1048576: true; the input reads as it did. -/
def matchTellsUptoRow : OpenClaim := { program := "ytdhcmnblfkhndaa", sum := "7bf7a0f6abcaeb6e25a324ebdca3926d221aabf7dbbf7f157b22779452933dc1", func := "tansy/tansylaw04.MatchTells", spec := "matchTells", apart := false, narrowed := true }
def MatchTellsUptoSaid : Prop := matchTellsUptoRow.holds Try.pinned (OpenSpec.upto matchTellsSpec)

end Rows
end Go.Proofs.Ytdhcmnblfkhndaa
