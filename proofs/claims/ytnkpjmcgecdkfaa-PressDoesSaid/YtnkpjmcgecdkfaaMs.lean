/- Walks: the document's Same; the law's live. -/
import Derived.Test.YtnkpjmcgecdkfaaMk
namespace Go.Own
open Go.RowKit Go.Ord Go.Mt
section
variable {P : Program} {ops : Array Oper} {Q : Exit → Act → World → Prop} {a : Act} {w : World} {rest : List Oper}
variable {d : Option Tmp} {ty : TypeId} {pos : String} {aft : Array Edge}
/-- a token out of a row of them -/
theorem ld_tok {T : TypeId} {x : Operand} {b off j k n cap : Nat} {l : List Tok} {t : Tok} (hR : Rd w 3 (some ⟨b, off, none⟩) n cap (tks l)) (ht : l[k]? = some t)
    (hx : a.eval x = .pointer (some ⟨b, j, none⟩)) (hj : j = off + k * 3) (hT : aggT P T = some true) (hs : (P.info? T).map (·.size) = some 3)
    (h : wpList P ops Q rest (a.put d (.agg t.C)) w) :
    wpList P ops Q ({ dst := d, op := .load T x, type := ty, pos := pos, after := aft, guard := none } :: rest) a w := by
  obtain ⟨hk, he⟩ := List.getElem?_eq_some_iff.1 ht
  subst hj
  exact ld_rds t.C.toList hR hx (fun i v hv => tks_get l k hk i v (by rw [he]; exact hv)) hT hs (by show 0 < 3; omega) h
end
end Go.Own
namespace Go.Mt
theorem take_same {l r : List Tok} {k : Nat} (h : l.take k = r.take k) {s : Tok} (h1 : l[k]? = some s) (h2 : r[k]? = some s) : l.take (k + 1) = r.take (k + 1) := by
  rw [List.take_add_one, List.take_add_one, h, h1, h2]
theorem tokens_live : tokens [97, 97, 97, 97, 97] = [⟨97, 0, 0⟩, ⟨0, 4, 1⟩] := by decide +kernel
end Go.Mt
namespace Go.Proofs.Ytnkpjmcgecdkfaa
open Go.RowKit Go.Own Go.Bv Go.Ord Go.Eq Go.Mt

end Go.Proofs.Ytnkpjmcgecdkfaa
