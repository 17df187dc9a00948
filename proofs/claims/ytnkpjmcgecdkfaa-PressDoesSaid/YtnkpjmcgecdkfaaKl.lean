/- Walk: live of the coder's laws; cells of bits; SameBytes. -/
import Derived.Test.YtnkpjmcgecdkfaaKo
import Derived.Test.YtnkpjmcgecdkfaaA
import Derived.Test.YtnkpjmcgecdkfaaV
namespace Go.Own
open Go.RowKit Go.Bv Go.Ord Go.Eq
section
variable {P : Program} {ops : Array Oper} {Q : Exit → Act → World → Prop} {a : Act} {w : World} {rest : List Oper}
variable {d : Option Tmp} {ty : TypeId} {pos : String} {aft : Array Edge}
/-- string(b) -/
theorem cnvS {s t e : TypeId} {x : Operand} {ao : Option Addr} {n cap : Nat} {bs : List (BitVec 8)} (hR : Rd w 1 ao n cap (Go.Bv.u8s bs)) (hs : P.underlying s = some (.slice e)) (he : P.underlying e = some (.int .u8)) (ht : P.underlying t = some .string) (hx : a.eval x = .slice ao n cap)
    (h : wpList P ops Q rest (a.put d (.string (strB bs))) w) :
    wpList P ops Q ({ dst := d, op := .convert s t x, type := ty, pos := pos, after := aft, guard := none } :: rest) a w :=
  Go.Bva.step_val (run_value hx (run_bytes_string w hs he ht hR)) h
end
end Go.Own
namespace Go.Proofs.Ytnkpjmcgecdkfaa
open Go.RowKit Go.Own Go.Bv Go.Ord Go.Eq Go.Opn Go.Pb

theorem bt_cells {w0 w : World} {L : List Res} (hO : Own w0 w L) {b o n c k : Nat} {l : List Bt} {x : Bt} (hR : Rd w0 2 (some ⟨b, o, none⟩) n c (bts l)) (hx : l[k]? = some x) : w.cell? ⟨b, o + k * 2, none⟩ = some (.int .i64 x.at_) ∧ w.cell? ⟨b, o + k * 2 + 1, none⟩ = some (.bool x.b) := by
  obtain ⟨hk, he⟩ := List.getElem?_eq_some_iff.1 hx
  have hl : l.length * 2 = n * 2 := by rw [← bts_length, hR.len]
  obtain ⟨b', o', he2, _, hc⟩ := (hO.rd hR).at' (by omega)
  simp only [Option.some.injEq, Addr.mk.injEq, and_true] at he2
  obtain ⟨rfl, rfl⟩ := he2
  have h0 := bts_get l k hk 0 (.int .i64 x.at_) (by rw [he]; rfl)
  have h1 := bts_get l k hk 1 (.bool x.b) (by rw [he]; rfl)
  exact ⟨by rw [hc _ (by omega)]; exact h0, by rw [Nat.add_assoc, hc _ (by omega)]; exact h1⟩

set_option maxHeartbeats 1000000 in
theorem same_calls (a1 a2 : Option Addr) (n1 c1 n2 c2 : Nat) (b1 b2 : List (BitVec 8)) (w : World) (h1 : Rd w 1 a1 n1 c1 (u8s b1)) (h2 : Rd w 1 a2 n2 c2 (u8s b2)) :
    Calls Try.prog 18 #[.slice a1 n1 c1, .slice a2 n2 c2] w fun e w' => e = .returned (.bool (decide (b1 = b2))) ∧ w = w' := by
  have r1 := run_bytes_string (P := Try.prog) w Try.underlying34 Try.underlying5 Try.underlying9 h1
  have r2 := run_bytes_string (P := Try.prog) w Try.underlying34 Try.underlying5 Try.underlying9 h2
  clear h1 h2
  go_enter Try.func18, Try.ntmps18
  go_wp2
  go_ret
  exact ⟨by rw [strB_beq]; rfl, rfl⟩

theorem live_text : encE 1 [] = 0 ∧ encO 1 [] = [0, 0, 0, 0, 0] := ⟨by decide, by decide⟩

end Go.Proofs.Ytnkpjmcgecdkfaa
