/- The walk of CoderDoes. -/
import Derived.Test.YtmfeknamdjjbhaaKz
namespace Go.Proofs.Ytmfeknamdjjbhaa
open Go.RowKit Go.Own Go.Bv Go.Ord Go.Eq Go.Opn Go.Pb

def badK (x : Int) (m n N : Nat) : Prop := 300 < m ∨ 500 < n ∨ 300 < N ∨ (60 < x ∧ x ≤ 1024)

set_option maxHeartbeats 8000000 in
set_option maxRecDepth 100000 in
theorem kdoes_out (x : Int) (a : Option Addr) (m c : Nat) (a2 : Option Addr) (n c2 : Nat) (a3 : Option Addr) (N c3 : Nat) (w : World) (h : badK x m n N) :
    Calls Try.prog 5 #[.int .i64 x, .slice a m c, .slice a2 n c2, .slice a3 N c3] w fun e w' => e = .returned (.bool true) ∧ Below w.heap.size w w' := by
  have hO := Own.start w
  generalize hW : w = wn at hO ⊢
  clear hW w
  obtain ⟨D1, hD1⟩ : ∃ D, decide ((300 : Int) < (m : Int)) = D := ⟨_, rfl⟩
  obtain ⟨D2, hD2⟩ : ∃ D, decide ((500 : Int) < (n : Int)) = D := ⟨_, rfl⟩
  obtain ⟨D3, hD3⟩ : ∃ D, decide ((300 : Int) < (N : Int)) = D := ⟨_, rfl⟩
  obtain ⟨D5, hD5⟩ : ∃ D, decide ((60 : Int) < x) = D := ⟨_, rfl⟩
  obtain ⟨D6, hD6⟩ : ∃ D, decide (x ≤ 1024) = D := ⟨_, rfl⟩
  have hb : (D1 || D2 || D3 || (D5 && D6)) = true := by
    rw [← hD1, ← hD2, ← hD3, ← hD5, ← hD6]
    unfold badK at h
    simp
    omega
  clear h
  cases D1 <;> cases D2 <;> cases D3 <;> cases D5 <;> cases D6 <;> first
    | (exfalso; revert hb; decide)
    | (clear hb
       go_enter Try.func5, Try.ntmps5
       go_wp2_with (first
         | ((with_reducible refine gG ?_); refine wpList_want rfl ?_)
         | (go_at_call 9; refine (live_calls _).mono ?_; rintro e ww ⟨rfl, hb⟩; replace hO := hO.call hb; clear hb))
       go_ret
       exact ⟨rfl, hO.below⟩)
    | (exfalso; simp at hD1 hD2 hD3 hD5 hD6; omega)

set_option maxHeartbeats 16000000 in
set_option maxRecDepth 100000 in
theorem kdoes_in (x : Int) (a : Option Addr) (m c : Nat) (l : List Bt) (a2 : Option Addr) (n c2 : Nat) (b : List (BitVec 8)) (a3 : Option Addr) (N c3 : Nat) (at_ : List Int) (w : World)
    (hR : Rd w 2 a m c (bts l)) (hB : Rd w 1 a2 n c2 (u8s b)) (hA : Rd w 1 a3 N c3 (i64s at_)) (h : ¬ badK x m n N) :
    Calls Try.prog 5 #[.int .i64 x, .slice a m c, .slice a2 n c2, .slice a3 N c3] w fun e w' => e = .returned (.bool true) ∧ Below w.heap.size w w' := by
  have hO := Own.start w
  have HR := Lib.hid hR
  have HB := Lib.hid hB
  have HA := Lib.hid hA
  obtain ⟨D5, hD5⟩ : ∃ D, decide ((60 : Int) < x) = D := ⟨_, rfl⟩
  obtain ⟨D6, hD6⟩ : ∃ D, decide (x ≤ 1024) = D := ⟨_, rfl⟩
  have d1 : decide ((300 : Int) < (m : Int)) = false := by unfold badK at h; simp; omega
  have d2 : decide ((500 : Int) < (n : Int)) = false := by unfold badK at h; simp; omega
  have d3 : decide ((300 : Int) < (N : Int)) = false := by unfold badK at h; simp; omega
  have hDD : (D5 = false ∨ D5 = true ∧ D6 = false) := by
    rw [← hD5, ← hD6]
    unfold badK at h
    simp only [decide_eq_false_iff_not, decide_eq_true_eq]
    omega
  have hn : n ≤ 10000000 := by unfold badK at h; omega
  have hN : N ≤ 1000000 := by unfold badK at h; omega
  obtain ⟨T1, hT1⟩ : ∃ T, encO x l = T := ⟨_, rfl⟩
  obtain ⟨E1, hE1⟩ : ∃ E, encE x l = E := ⟨_, rfl⟩
  obtain ⟨N1, hN1⟩ : ∃ N, T1.length = N := ⟨_, rfl⟩
  have H1 := Lib.hid (fun w h => encode_calls x a m c l w h N1 T1 E1 hE1 hT1 hN1)
  have H2 := Lib.hid (fun w h => rencode_calls x a m c l w h N1 T1 E1 hE1 hT1 hN1)
  obtain ⟨E2, hE2⟩ : ∃ E, Go.Kc.decE x b at_ = E := ⟨_, rfl⟩
  obtain ⟨Q2, hQ2⟩ : ∃ E, Go.Kc.decQ x b at_ = E := ⟨_, rfl⟩
  obtain ⟨U2, hU2⟩ : ∃ E, Go.Kc.decU x b at_ = E := ⟨_, rfl⟩
  obtain ⟨N2, hN2⟩ : ∃ N, Q2.length = N := ⟨_, rfl⟩
  have H3 := Lib.hid (fun w h h' => dec_calls x a2 n c2 b a3 N c3 at_ w h h' hn hN E2 Q2 N2 U2 hE2 hQ2 hN2 hU2)
  have H4 := Lib.hid (fun w h h' => rdec_calls x a2 n c2 b a3 N c3 at_ w h h' hn hN E2 Q2 N2 U2 hE2 hQ2 hN2 hU2)
  have HS1 := Lib.hid (fun (b1 b2 : Option Addr) (e1 e2 : Nat) w h h' => by have := same_calls b1 b2 N1 e1 N1 e2 T1 T1 w h h'; rw [decide_eq_true rfl] at this; exact this)
  have HS2 := Lib.hid (fun (b1 b2 : Option Addr) (e1 e2 : Nat) w h h' => by have := sbits_calls b1 b2 N2 e1 N2 e2 Q2 Q2 w h h'; rw [decide_eq_true rfl] at this; exact this)
  clear hR hB hA h hT1 hE1 hN1 hE2 hQ2 hU2 hN2 hn hN
  generalize hW : w = wn at hO HR HB HA ⊢
  clear hW w
  rcases hDD with rfl | ⟨rfl, rfl⟩
  all_goals
    go_enter Try.func5, Try.ntmps5
    go_wp2_with (first
      | ((with_reducible refine gG ?_); refine wpList_want rfl ?_)
      | (go_at_call 9; refine (live_calls _).mono ?_; rintro e ww ⟨rfl, hb⟩; replace hO := hO.call hb; clear hb)
      | ((with_reducible refine Go.Bva.gCnv ?_); refine cnvS (hO.rd HB.out) Try.underlying26 Try.underlying5 Try.underlying9 rfl ?_)
      | (go_at_call 10; refine (H1.out _ (hO.rd HR.out)).mono ?_; rintro e ww ⟨aQ, cQ, rfl, hb, hr⟩; replace hO := hO.addRow hb hr; clear hb hr)
      | (go_at_call 17; refine (H2.out _ (hO.rd HR.out)).mono ?_; rintro e ww ⟨aR, cR, rfl, hb, hr⟩; replace hO := hO.addRow hb hr; clear hb hr)
      | (go_at_call 18; refine (H3.out _ (hO.rd HB.out) (hO.rd HA.out)).mono ?_; rintro e ww ⟨aS, cS, rfl, hb, hr⟩; replace hO := hO.addRow hb hr; clear hb hr)
      | (go_at_call 19; refine (H4.out _ (hO.rd HB.out) (hO.rd HA.out)).mono ?_; rintro e ww ⟨aT, cT, rfl, hb, hr⟩; replace hO := hO.addRow hb hr; clear hb hr)
      | (go_at_call 11; refine (HS1.out _ _ _ _ _ (hO.rdAt 3 rfl) (hO.rdAt 2 rfl)).mono ?_; rintro e w1 ⟨rfl, rfl⟩)
      | (go_at_call 20; refine (HS2.out _ _ _ _ _ (hO.rdAt 1 rfl) (hO.rdAt 0 rfl)).mono ?_; rintro e ww ⟨rfl, hb⟩; replace hO := hO.call hb; clear hb))
    go_ret
    exact ⟨rfl, hO.below⟩

theorem kdoes_walk (x : Int) (a : Option Addr) (m c : Nat) (l : List Bt) (a2 : Option Addr) (n c2 : Nat) (b : List (BitVec 8)) (a3 : Option Addr) (N c3 : Nat) (at_ : List Int) (w : World)
    (hR : Rd w 2 a m c (bts l)) (hB : Rd w 1 a2 n c2 (u8s b)) (hA : Rd w 1 a3 N c3 (i64s at_)) :
    Calls Try.prog 5 #[.int .i64 x, .slice a m c, .slice a2 n c2, .slice a3 N c3] w fun e w' => e = .returned (.bool true) ∧ Below w.heap.size w w' := by
  by_cases h : badK x m n N
  · exact kdoes_out x a m c a2 n c2 a3 N c3 w h
  · exact kdoes_in x a m c l a2 n c2 b a3 N c3 at_ w hR hB hA h
end Go.Proofs.Ytmfeknamdjjbhaa
