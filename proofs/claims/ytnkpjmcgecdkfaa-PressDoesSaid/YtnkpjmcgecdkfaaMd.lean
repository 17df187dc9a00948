/- The walk of match.Find. -/
import Derived.Test.YtnkpjmcgecdkfaaMs
namespace Go.Mt
def findT (n : Nat) (bs : List (BitVec 8)) (x : Int) : Tok := if 65536 < n then zT else if x < 0 ∨ (n : Int) ≤ x then zT else if 3 ≤ (found bs x.toNat).1 then ⟨0, (found bs x.toNat).1, (found bs x.toNat).2⟩ else zT
def findE (n : Nat) (bs : List (BitVec 8)) (x : Int) : Int := if 65536 < n then 3 else if x < 0 ∨ (n : Int) ≤ x then 1 else if 3 ≤ (found bs x.toNat).1 then 0 else 4
end Go.Mt
namespace Go.Proofs.Ytnkpjmcgecdkfaa
open Go.RowKit Go.Own Go.Bv Go.Ord Go.Eq Go.Mt

end Go.Proofs.Ytnkpjmcgecdkfaa
