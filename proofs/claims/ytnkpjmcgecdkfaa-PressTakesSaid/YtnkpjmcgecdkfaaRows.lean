/-
  No cell of these rows narrows 'for every input' (looked for: loops, veiled, ifaces, maps, wideKeys, modest, calm, conditions, laid).
  DERIVED. THE GIVEN ROWS OF THIS SEAT. 6 by the template 'for every input the law returns true; each argument reads behind the call as it read before'; 0 by the template 'total and deterministic' (their statements: YtnkpjmcgecdkfaaTotals.lean).
  GIVEN WITH THE SEED: the statements are not yours to turn. If you find one false, say at which input.
  Laid BY PROGRAM, IN A SANDBOX (cutbox-rows.mjs): the forced cells as the released guide's own fill.sh prints them over the translation 2f6e8aa91ea96693… (all of the seat's roots in one cut). By AI agents, Wed Nov 11 2026. No macro, syntax, notation, axiom, sorry.
-/
import Derived.Test.YtnkpjmcgecdkfaaChecked
import GoSem.Claim
import GoSem.ClaimJoined
import GoSem.ClaimMapViews
import Derived.JoinedTies
import Derived.KernelRfl
namespace Go.Proofs.Ytnkpjmcgecdkfaa
/- THE CELL 'sum', in the pinned program and in every row, IS THE sha256 OF THE DUMP (.gsa) THAT YtnkpjmcgecdkfaaProg.lean LOADS. Nothing in Lean hashes anything: it is a label: what it is worth is what the hold of that sum in a sandbox is worth. -/
noncomputable def Try.pinned : Pinned := { name := "ytnkpjmcgecdkfaa", sum := "2f6e8aa91ea9669303bf4755f24df8c1137a222a2740c2bd33eb6378d5c167b2", checked := Try.checked }
namespace Rows
def none {H : Type} : Left H := { results := [], args := [] }

/-- 'tansylaw07.PressBits': WHATEVER THE INPUT: true; the input reads as it did. -/
def pressBitsSpec : ChangeSpec := { name := "pressBits", fn := fun _ => fun
  | [d] => { results := [.lit (.bool true)], args := [d] }
  | _ => none }
def pressBitsRow : OpenClaim := { program := "ytnkpjmcgecdkfaa", sum := "2f6e8aa91ea9669303bf4755f24df8c1137a222a2740c2bd33eb6378d5c167b2", func := "tansy/tansylaw07.PressBits", spec := "pressBits", unfollowed := true, recurses := true, apart := false }
def PressBitsSaid : Prop := pressBitsRow.holds Try.pinned (OpenSpec.ofChange pressBitsSpec)

/-- ITS FALSE NEIGHBOUR: 'it returns false'. Refute it at one input. -/
def pressBitsWrong : ChangeSpec := { name := "pressBits", fn := fun _ => fun
  | [d] => { results := [.lit (.bool false)], args := [d] }
  | _ => none }
def PressBitsWrongFalsely : Prop := pressBitsRow.holds Try.pinned (OpenSpec.ofChange pressBitsWrong)

/-- 'tansylaw07.PressSame': WHATEVER THE INPUT: true; the input reads as it did. -/
def pressSameSpec : ChangeSpec := { name := "pressSame", fn := fun _ => fun
  | [d1, d2, d3] => { results := [.lit (.bool true)], args := [d1, d2, d3] }
  | _ => none }
def pressSameRow : OpenClaim := { program := "ytnkpjmcgecdkfaa", sum := "2f6e8aa91ea9669303bf4755f24df8c1137a222a2740c2bd33eb6378d5c167b2", func := "tansy/tansylaw07.PressSame", spec := "pressSame", unfollowed := true, recurses := true, apart := false }
def PressSameSaid : Prop := pressSameRow.holds Try.pinned (OpenSpec.ofChange pressSameSpec)

/-- ITS FALSE NEIGHBOUR: 'it returns false'. Refute it at one input. -/
def pressSameWrong : ChangeSpec := { name := "pressSame", fn := fun _ => fun
  | [d1, d2, d3] => { results := [.lit (.bool false)], args := [d1, d2, d3] }
  | _ => none }
def PressSameWrongFalsely : Prop := pressSameRow.holds Try.pinned (OpenSpec.ofChange pressSameWrong)

/-- 'tansylaw07.PressDoes': WHATEVER THE INPUT: true; the input reads as it did. -/
def pressDoesSpec : ChangeSpec := { name := "pressDoes", fn := fun _ => fun
  | [d1, d2] => { results := [.lit (.bool true)], args := [d1, d2] }
  | _ => none }
def pressDoesRow : OpenClaim := { program := "ytnkpjmcgecdkfaa", sum := "2f6e8aa91ea9669303bf4755f24df8c1137a222a2740c2bd33eb6378d5c167b2", func := "tansy/tansylaw07.PressDoes", spec := "pressDoes", unfollowed := true, recurses := true, apart := false }
def PressDoesSaid : Prop := pressDoesRow.holds Try.pinned (OpenSpec.ofChange pressDoesSpec)

/-- ITS FALSE NEIGHBOUR: 'it returns false'. Refute it at one input. -/
def pressDoesWrong : ChangeSpec := { name := "pressDoes", fn := fun _ => fun
  | [d1, d2] => { results := [.lit (.bool false)], args := [d1, d2] }
  | _ => none }
def PressDoesWrongFalsely : Prop := pressDoesRow.holds Try.pinned (OpenSpec.ofChange pressDoesWrong)

/-- 'tansylaw07.PressTakes': WHATEVER THE INPUT: true; the input reads as it did. -/
def pressTakesSpec : ChangeSpec := { name := "pressTakes", fn := fun _ => fun
  | [d1, d2] => { results := [.lit (.bool true)], args := [d1, d2] }
  | _ => none }
def pressTakesRow : OpenClaim := { program := "ytnkpjmcgecdkfaa", sum := "2f6e8aa91ea9669303bf4755f24df8c1137a222a2740c2bd33eb6378d5c167b2", func := "tansy/tansylaw07.PressTakes", spec := "pressTakes", unfollowed := true, recurses := true, apart := false }
def PressTakesSaid : Prop := pressTakesRow.holds Try.pinned (OpenSpec.ofChange pressTakesSpec)

/-- ITS FALSE NEIGHBOUR: 'it returns false'. Refute it at one input. -/
def pressTakesWrong : ChangeSpec := { name := "pressTakes", fn := fun _ => fun
  | [d1, d2] => { results := [.lit (.bool false)], args := [d1, d2] }
  | _ => none }
def PressTakesWrongFalsely : Prop := pressTakesRow.holds Try.pinned (OpenSpec.ofChange pressTakesWrong)

/-- 'tansylaw07.PressBack': WHATEVER THE INPUT: true; the input reads as it did. -/
def pressBackSpec : ChangeSpec := { name := "pressBack", fn := fun _ => fun
  | [d1, d2] => { results := [.lit (.bool true)], args := [d1, d2] }
  | _ => none }
def pressBackRow : OpenClaim := { program := "ytnkpjmcgecdkfaa", sum := "2f6e8aa91ea9669303bf4755f24df8c1137a222a2740c2bd33eb6378d5c167b2", func := "tansy/tansylaw07.PressBack", spec := "pressBack", unfollowed := true, recurses := true, apart := false }
def PressBackSaid : Prop := pressBackRow.holds Try.pinned (OpenSpec.ofChange pressBackSpec)

/-- ITS FALSE NEIGHBOUR: 'it returns false'. Refute it at one input. -/
def pressBackWrong : ChangeSpec := { name := "pressBack", fn := fun _ => fun
  | [d1, d2] => { results := [.lit (.bool false)], args := [d1, d2] }
  | _ => none }
def PressBackWrongFalsely : Prop := pressBackRow.holds Try.pinned (OpenSpec.ofChange pressBackWrong)

/-- 'tansylaw07.PressMost': WHATEVER THE INPUT: true; the input reads as it did. -/
def pressMostSpec : ChangeSpec := { name := "pressMost", fn := fun _ => fun
  | [d1, d2] => { results := [.lit (.bool true)], args := [d1, d2] }
  | _ => none }
def pressMostRow : OpenClaim := { program := "ytnkpjmcgecdkfaa", sum := "2f6e8aa91ea9669303bf4755f24df8c1137a222a2740c2bd33eb6378d5c167b2", func := "tansy/tansylaw07.PressMost", spec := "pressMost", unfollowed := true, recurses := true, apart := false }
def PressMostSaid : Prop := pressMostRow.holds Try.pinned (OpenSpec.ofChange pressMostSpec)

/-- ITS FALSE NEIGHBOUR: 'it returns false'. Refute it at one input. -/
def pressMostWrong : ChangeSpec := { name := "pressMost", fn := fun _ => fun
  | [d1, d2] => { results := [.lit (.bool false)], args := [d1, d2] }
  | _ => none }
def PressMostWrongFalsely : Prop := pressMostRow.holds Try.pinned (OpenSpec.ofChange pressMostWrong)

/- THE SECOND FORM. 'bulk': how many values and letters a reading holds, each counted each time it is reached (what is shared counts as often as it is met; a slice's spare places count too). A statement '..UptoSaid' is the law's where the arguments, and the package variables that the reading takes, are together of bulk at most 1048576: NARROWER than '..Said'. Prove '..Said' where nothing that the law and all that it calls make is longer than what came in: it says more and counts as full. Else prove '..UptoSaid'. A law counts once. -/
mutual
def uptoBulk {H : Type} : DataW H → Nat
  | .lit (.string bytes) => bytes.length + 1
  | .lit _ => 1
  | .nil => 1
  | .ptr d => uptoBulk d + 1
  | .slice elems spare => uptoBulkAll elems + uptoBulkAll spare + 1
  | .agg parts => uptoBulkAll parts + 1
  | .iface _ d => uptoBulk d + 1
  | .map entries => uptoBulkEntries entries + 1
  | .held _ => 1
def uptoBulkAll {H : Type} : List (DataW H) → Nat
  | [] => 0
  | d :: r => uptoBulk d + uptoBulkAll r
def uptoBulkEntries {H : Type} : List (Lit × DataW H) → Nat
  | [] => 0
  | x :: r => uptoBulkEntry x + uptoBulkEntries r
def uptoBulkEntry {H : Type} : Lit × DataW H → Nat
  | (.string bytes, d) => bytes.length + uptoBulk d + 1
  | (_, d) => uptoBulk d + 1
 end
def uptoSmall : (H : Type) → List (DataW H) → Bool := fun _ ds => decide (uptoBulkAll ds ≤ 1048576)
def OpenSpec.upto (s : _root_.Go.ChangeSpec) : _root_.Go.OpenSpec := { _root_.Go.OpenSpec.ofChange s with cond := some uptoSmall }

/-- 'tansylaw07.PressBits', WHERE WHAT IT READS IS OF BULK AT MOST 1048576: true; the input reads as it did. -/
def pressBitsUptoRow : OpenClaim := { program := "ytnkpjmcgecdkfaa", sum := "2f6e8aa91ea9669303bf4755f24df8c1137a222a2740c2bd33eb6378d5c167b2", func := "tansy/tansylaw07.PressBits", spec := "pressBits", unfollowed := true, recurses := true, apart := false, narrowed := true }
def PressBitsUptoSaid : Prop := pressBitsUptoRow.holds Try.pinned (OpenSpec.upto pressBitsSpec)

/-- 'tansylaw07.PressSame', WHERE WHAT IT READS IS OF BULK AT MOST 1048576: true; the input reads as it did. -/
def pressSameUptoRow : OpenClaim := { program := "ytnkpjmcgecdkfaa", sum := "2f6e8aa91ea9669303bf4755f24df8c1137a222a2740c2bd33eb6378d5c167b2", func := "tansy/tansylaw07.PressSame", spec := "pressSame", unfollowed := true, recurses := true, apart := false, narrowed := true }
def PressSameUptoSaid : Prop := pressSameUptoRow.holds Try.pinned (OpenSpec.upto pressSameSpec)

/-- 'tansylaw07.PressDoes', WHERE WHAT IT READS IS OF BULK AT MOST 1048576: true; the input reads as it did. -/
def pressDoesUptoRow : OpenClaim := { program := "ytnkpjmcgecdkfaa", sum := "2f6e8aa91ea9669303bf4755f24df8c1137a222a2740c2bd33eb6378d5c167b2", func := "tansy/tansylaw07.PressDoes", spec := "pressDoes", unfollowed := true, recurses := true, apart := false, narrowed := true }
def PressDoesUptoSaid : Prop := pressDoesUptoRow.holds Try.pinned (OpenSpec.upto pressDoesSpec)

/-- 'tansylaw07.PressTakes', WHERE WHAT IT READS IS OF BULK AT MOST 1048576: true; the input reads as it did. -/
def pressTakesUptoRow : OpenClaim := { program := "ytnkpjmcgecdkfaa", sum := "2f6e8aa91ea9669303bf4755f24df8c1137a222a2740c2bd33eb6378d5c167b2", func := "tansy/tansylaw07.PressTakes", spec := "pressTakes", unfollowed := true, recurses := true, apart := false, narrowed := true }
def PressTakesUptoSaid : Prop := pressTakesUptoRow.holds Try.pinned (OpenSpec.upto pressTakesSpec)

/-- 'tansylaw07.PressBack', WHERE WHAT IT READS IS OF BULK AT MOST 1048576: true; the input reads as it did. -/
def pressBackUptoRow : OpenClaim := { program := "ytnkpjmcgecdkfaa", sum := "2f6e8aa91ea9669303bf4755f24df8c1137a222a2740c2bd33eb6378d5c167b2", func := "tansy/tansylaw07.PressBack", spec := "pressBack", unfollowed := true, recurses := true, apart := false, narrowed := true }
def PressBackUptoSaid : Prop := pressBackUptoRow.holds Try.pinned (OpenSpec.upto pressBackSpec)

/-- 'tansylaw07.PressMost', WHERE WHAT IT READS IS OF BULK AT MOST 1048576: true; the input reads as it did. -/
def pressMostUptoRow : OpenClaim := { program := "ytnkpjmcgecdkfaa", sum := "2f6e8aa91ea9669303bf4755f24df8c1137a222a2740c2bd33eb6378d5c167b2", func := "tansy/tansylaw07.PressMost", spec := "pressMost", unfollowed := true, recurses := true, apart := false, narrowed := true }
def PressMostUptoSaid : Prop := pressMostUptoRow.holds Try.pinned (OpenSpec.upto pressMostSpec)

end Rows
end Go.Proofs.Ytnkpjmcgecdkfaa
