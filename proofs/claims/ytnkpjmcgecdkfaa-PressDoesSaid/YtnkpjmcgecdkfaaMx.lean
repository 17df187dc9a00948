/- Walks: SameBytes, match.Check, Text. -/
import Derived.Test.YtnkpjmcgecdkfaaMl
namespace Go.Mt
theorem again_next (d j : Nat) (b : List (BitVec 8)) (M : Nat) (hb : b.length = M) (hd : 1 ≤ d) (hdM : d ≤ M) : ∃ x, (again d j b)[M - d + j]? = some x ∧ again d (j + 1) b = again d j b ++ [x] := by
  have hl := again_length d j b
  have h : M - d + j < (again d j b).length := by rw [hl, hb]; omega
  refine ⟨(again d j b)[M - d + j], List.getElem?_eq_getElem h, ?_⟩
  rw [again_succ, hl, hb, show M + j - d = M - d + j by omega, List.getD_eq_getElem?_getD, List.getElem?_eq_getElem h]
  rfl
end Go.Mt
namespace Go.Proofs.Ytnkpjmcgecdkfaa
open Go.RowKit Go.Own Go.Bv Go.Ord Go.Eq Go.Mt

set_option maxHeartbeats 1000000 in
theorem msame_calls (a1 a2 : Option Addr) (n1 c1 n2 c2 : Nat) (b1 b2 : List (BitVec 8)) (w : World) (h1 : Rd w 1 a1 n1 c1 (u8s b1)) (h2 : Rd w 1 a2 n2 c2 (u8s b2)) :
    Calls Try.prog 18 #[.slice a1 n1 c1, .slice a2 n2 c2] w fun e w' => e = .returned (.bool (decide (b1 = b2))) ∧ w = w' := by
  have r1 := run_bytes_string (P := Try.prog) w Try.underlying34 Try.underlying5 Try.underlying9 h1
  have r2 := run_bytes_string (P := Try.prog) w Try.underlying34 Try.underlying5 Try.underlying9 h2
  clear h1 h2
  go_enter Try.func18, Try.ntmps18
  go_wp2
  go_ret
  exact ⟨by rw [strB_beq]; rfl, rfl⟩

set_option maxHeartbeats 1000000 in
theorem check_calls (a : Option Addr) (n c : Nat) (l : List Tok) (w : World) (hR : Rd w 3 a n c (tks l)) (E : Int) (hok : n ≤ 65536 → okFrom 0 l → E = 0) (hno : 65536 < n ∨ ¬ okFrom 0 l → E = 1) :
    Calls Try.prog 11 #[.slice a n c] w fun e w' => e = .returned (.int .i64 E) ∧ Below w.heap.size w w' := by
  have hO := Own.start w
  obtain ⟨N, hN⟩ : ∃ N : Int, (n ≤ 65536 → okFrom 0 l → N = told l ∧ E = 0) ∧ (65536 < n ∨ ¬ okFrom 0 l → N = 0 ∧ E = 1) := by
    by_cases h : n ≤ 65536 ∧ okFrom 0 l
    · exact ⟨told l, fun h1 h2 => ⟨rfl, hok h1 h2⟩, fun h1 => by rcases h1 with h1 | h1; omega; exact absurd h.2 h1⟩
    · exact ⟨0, fun h1 h2 => absurd ⟨h1, h2⟩ h, fun h1 => ⟨rfl, hno h1⟩⟩
  have HC := Lib.hid (fun w h => long_calls a n c l w h N E hN.1 hN.2)
  have HR := Lib.hid hR
  clear hN hok hno hR
  generalize hW : w = wn at hO HR ⊢
  clear hW w
  go_enter Try.func11, Try.ntmps11
  go_wp2_with (first
    | (go_at_call 22; refine (HC.out _ (hO.rd HR.out)).mono ?_; rintro e ww ⟨rfl, hb⟩; replace hO := hO.call hb; clear hb))
  go_ret
  exact ⟨rfl, hO.below⟩

end Go.Proofs.Ytnkpjmcgecdkfaa
