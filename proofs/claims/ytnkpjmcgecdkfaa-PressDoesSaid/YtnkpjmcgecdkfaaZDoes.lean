/- The walk of PressDoes. -/
import Derived.Test.YtnkpjmcgecdkfaaY
namespace Go.Proofs.Ytnkpjmcgecdkfaa
open Go.RowKit Go.Own Go.Bv Go.Ord Go.Eq Go.Opn Go.Pb Go.Mt

theorem press_same_refl (a1 a2 : Option Addr) (n c1 c2 : Nat) (b : List (BitVec 8)) (w : World) (h1 : Rd w 1 a1 n c1 (u8s b)) (h2 : Rd w 1 a2 n c2 (u8s b)) :
    Calls Try.prog 18 #[.slice a1 n c1, .slice a2 n c2] w fun e w' => e = .returned (.bool true) ∧ w = w' := by
  refine (same_calls a1 a2 n c1 n c2 b b w h1 h2).mono fun e w' h => ?_
  rw [decide_eq_true rfl] at h
  exact h
/-- each pair of the program's function and the document's, for whatever comes in -/
theorem pBits (a : Option Addr) (n c : Nat) (l : List Tok) : ∃ (K : Nat) (B : List Bt) (E : Int), B.length = K ∧ (∀ w, Rd w 3 a n c (tks l) → Calls Try.prog 10 #[.slice a n c] w fun e w' => ∃ a' c', e = .returned (.tuple #[.slice a' K c', .int .i64 E]) ∧ Below w.heap.size w w' ∧ w'.ownsRow w.heap.size 32 2 (.slice a' K c') K (bts B)) ∧
    (∀ w, Rd w 3 a n c (tks l) → Calls Try.prog 13 #[.slice a n c] w fun e w' => ∃ a' c', e = .returned (.tuple #[.slice a' K c', .int .i64 E]) ∧ Below w.heap.size w w' ∧ w'.ownsRow w.heap.size 32 2 (.slice a' K c') K (bts B)) := by
  by_cases h : n ≤ 65536 ∧ okFrom 0 l
  · exact ⟨_, _, 0, rfl, fun w hR => bits_ok a n c l w hR h.1 h.2 _ rfl _ rfl, fun w hR => rbits_ok a n c l w hR h.1 h.2 _ rfl _ rfl⟩
  · have h' : 65536 < n ∨ ¬ okFrom 0 l := by
      by_cases h1 : n ≤ 65536
      · exact .inr fun h2 => h ⟨h1, h2⟩
      · exact .inl (by omega)
    exact ⟨0, [], 1, rfl, fun w hR => (bits_bad a n c l w hR h').mono fun e w' q => ⟨none, 0, q.1, q.2, World.ownsRow_nil _ _ _ _⟩, fun w hR => (rbits_bad a n c l w hR h').mono fun e w' q => ⟨none, 0, q.1, q.2, World.ownsRow_nil _ _ _ _⟩⟩
theorem pPack (a : Option Addr) (n c : Nat) (b : List (BitVec 8)) : ∃ (M : Nat) (T : List (BitVec 8)) (E : Int), (∀ w, Rd w 1 a n c (u8s b) → Calls Try.prog 12 #[.slice a n c] w fun e w' => ∃ a' c', e = .returned (.tuple #[.slice a' M c', .int .i64 E]) ∧ Below w.heap.size w w' ∧ w'.ownsRow w.heap.size 5 1 (.slice a' M c') M (u8s T)) ∧
    (∀ w, Rd w 1 a n c (u8s b) → Calls Try.prog 14 #[.slice a n c] w fun e w' => ∃ a' c', e = .returned (.tuple #[.slice a' M c', .int .i64 E]) ∧ Below w.heap.size w w' ∧ w'.ownsRow w.heap.size 5 1 (.slice a' M c') M (u8s T)) := by
  by_cases h : n ≤ 65536
  · exact ⟨_, _, 0, fun w hR => pack_ok a n c b w hR h _ rfl _ rfl, fun w hR => rpack_ok a n c b w hR h _ rfl _ rfl⟩
  · exact ⟨0, [], 3, fun w _ => (pack_long a n c w (by omega)).mono fun e w' q => ⟨none, 0, q.1, q.2, World.ownsRow_nil _ _ _ _⟩, fun w _ => (rpack_long a n c w (by omega)).mono fun e w' q => ⟨none, 0, q.1, q.2, World.ownsRow_nil _ _ _ _⟩⟩

set_option maxHeartbeats 4000000 in
set_option maxRecDepth 100000 in
theorem pdoes_in (D1 D2 D3 D4 : Bool) (hb : (D1 || (D2 && D3) || D4) = false) (a1 : Option Addr) (n1 c1 : Nat) (l : List Tok) (a2 : Option Addr) (n2 c2 : Nat) (b : List (BitVec 8)) (w : World) (hR1 : Rd w 3 a1 n1 c1 (tks l)) (hR2 : Rd w 1 a2 n2 c2 (u8s b))
    (d1 : decide ((100 : Int) < (n1 : Int)) = D1) (d2 : decide ((120 : Int) < (n2 : Int)) = D2) (d3 : decide ((n2 : Int) ≤ 65536) = D3) (d4 : decide ((70000 : Int) < (n2 : Int)) = D4) :
    Calls Try.prog 5 #[.slice a1 n1 c1, .slice a2 n2 c2] w fun e w' => e = .returned (.bool true) ∧ Below w.heap.size w w' := by
  have hO := Own.start w
  obtain ⟨K, B, E1, hK, g1, g1'⟩ := pBits a1 n1 c1 l
  obtain ⟨M, T, E2, g2, g2'⟩ := pPack a2 n2 c2 b
  obtain ⟨V, hV⟩ : ∃ V, Go.Pz.longV b = V := ⟨_, rfl⟩
  obtain ⟨E3, hE⟩ : ∃ V, Go.Pz.longE b = V := ⟨_, rfl⟩
  have G1 := Lib.hid g1
  have G1' := Lib.hid g1'
  have G2 := Lib.hid g2
  have G2' := Lib.hid g2'
  have G3 := Lib.hid (fun w h => plong_calls a2 n2 c2 b w h V E3 hV hE)
  have G3' := Lib.hid (fun w h => rplong_calls a2 n2 c2 b w h V E3 hV hE)
  have HR1 := Lib.hid hR1
  have HR2 := Lib.hid hR2
  clear g1 g1' g2 g2' hV hE hR1 hR2 hK
  generalize hW : w = wn at hO HR1 HR2 ⊢
  clear hW w
  cases D1 <;> cases D2 <;> cases D3 <;> cases D4 <;> first
    | (exfalso; revert hb; decide)
    | (exfalso; simp at d2 d3 d4; omega)
    | (clear hb
       go_enter Try.func5, Try.ntmps5
       go_wp2_with (first
         | ((with_reducible refine gG ?_); refine wpList_want rfl ?_)
         | ((with_reducible refine Go.Bva.gCnv (s := 34) (t := 9) ?_); refine Go.Bva.step_val (run_value rfl (run_bytes_string _ Try.underlying34 Try.underlying5 Try.underlying9 (hO.rd HR2.out))) ?_)
         | (go_at_call 9; refine (live7_calls _).mono ?_; rintro e ww ⟨rfl, hb⟩; replace hO := hO.call hb; clear hb)
         | (go_at_call 10; refine (G1.out _ (hO.rd HR1.out)).mono ?_; rintro e ww ⟨a3, c3, rfl, hb, hr⟩; replace hO := hO.addRow hb hr; clear hb hr)
         | (go_at_call 13; refine (G1'.out _ (hO.rd HR1.out)).mono ?_; rintro e ww ⟨a4, c4, rfl, hb, hr⟩; replace hO := hO.addRow hb hr; clear hb hr)
         | (go_at_call 12; refine (G2.out _ (hO.rd HR2.out)).mono ?_; rintro e ww ⟨a5, c5, rfl, hb, hr⟩; replace hO := hO.addRow hb hr; clear hb hr)
         | (go_at_call 14; refine (G2'.out _ (hO.rd HR2.out)).mono ?_; rintro e ww ⟨a6, c6, rfl, hb, hr⟩; replace hO := hO.addRow hb hr; clear hb hr)
         | (go_at_call 15; refine (G3.out _ (hO.rd HR2.out)).mono ?_; rintro e w1 ⟨rfl, rfl⟩)
         | (go_at_call 16; refine (G3'.out _ (hO.rd HR2.out)).mono ?_; rintro e ww ⟨rfl, hb⟩; replace hO := hO.call hb; clear hb)
         | (go_at_call 17; refine (sameb_refl _ _ _ _ _ _ _ (hO.rdAt 3 rfl) (hO.rdAt 2 rfl)).mono ?_; rintro e ww ⟨rfl, hb⟩; replace hO := hO.call hb; clear hb)
         | (go_at_call 18; refine (press_same_refl _ _ _ _ _ _ _ (hO.rdAt 1 rfl) (hO.rdAt 0 rfl)).mono ?_; rintro e w1 ⟨rfl, rfl⟩))
       go_ret
       exact ⟨rfl, hO.below⟩)

set_option maxHeartbeats 4000000 in
set_option maxRecDepth 100000 in
theorem pdoes_out (D1 D2 D3 D4 : Bool) (hb : (D1 || (D2 && D3) || D4) = true) (a1 : Option Addr) (n1 c1 : Nat) (a2 : Option Addr) (n2 c2 : Nat) (w : World)
    (d1 : decide ((100 : Int) < (n1 : Int)) = D1) (d2 : decide ((120 : Int) < (n2 : Int)) = D2) (d3 : decide ((n2 : Int) ≤ 65536) = D3) (d4 : decide ((70000 : Int) < (n2 : Int)) = D4) :
    Calls Try.prog 5 #[.slice a1 n1 c1, .slice a2 n2 c2] w fun e w' => e = .returned (.bool true) ∧ Below w.heap.size w w' := by
  have hO := Own.start w
  generalize hW : w = wn at hO ⊢
  clear hW w
  cases D1 <;> cases D2 <;> cases D3 <;> cases D4 <;> first
    | (exfalso; revert hb; decide)
    | (clear hb
       go_enter Try.func5, Try.ntmps5
       go_wp2_with (first
         | ((with_reducible refine gG ?_); refine wpList_want rfl ?_)
         | (go_at_call 9; refine (live7_calls _).mono ?_; rintro e ww ⟨rfl, hb⟩; replace hO := hO.call hb; clear hb))
       go_ret
       exact ⟨rfl, hO.below⟩)
    | (exfalso; simp at d2 d3 d4; omega)

theorem pdoes_walk (a1 : Option Addr) (n1 c1 : Nat) (l : List Tok) (a2 : Option Addr) (n2 c2 : Nat) (b : List (BitVec 8)) (w : World) (hR1 : Rd w 3 a1 n1 c1 (tks l)) (hR2 : Rd w 1 a2 n2 c2 (u8s b)) :
    Calls Try.prog 5 #[.slice a1 n1 c1, .slice a2 n2 c2] w fun e w' => e = .returned (.bool true) ∧ Below w.heap.size w w' := by
  by_cases hb : (decide ((100 : Int) < (n1 : Int)) || (decide ((120 : Int) < (n2 : Int)) && decide ((n2 : Int) ≤ 65536)) || decide ((70000 : Int) < (n2 : Int))) = true
  · exact pdoes_out _ _ _ _ hb a1 n1 c1 a2 n2 c2 w rfl rfl rfl rfl
  · exact pdoes_in _ _ _ _ (Bool.eq_false_iff.2 hb) a1 n1 c1 l a2 n2 c2 b w hR1 hR2 rfl rfl rfl rfl
end Go.Proofs.Ytnkpjmcgecdkfaa
