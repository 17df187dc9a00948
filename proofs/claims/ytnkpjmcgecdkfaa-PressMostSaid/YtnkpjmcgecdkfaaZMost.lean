/- The walk of PressMost. -/
import Derived.Test.YtnkpjmcgecdkfaaZw
namespace Go.Proofs.Ytnkpjmcgecdkfaa
open Go.RowKit Go.Own Go.Bv Go.Ord Go.Eq Go.Opn Go.Pb Go.Mt

set_option maxHeartbeats 16000000 in
set_option maxRecDepth 100000 in
theorem pmost_walk (a : Option Addr) (n c : Nat) (b : List (BitVec 8)) (most : Int) (w : World) (hR : Rd w 1 a n c (u8s b)) :
    Calls Try.prog 8 #[.slice a n c, .int .i64 most] w fun e w' => e = .returned (.bool true) ∧ Below w.heap.size w w' := by
  have hO := Own.start w
  obtain ⟨V, hV⟩ : ∃ V, Go.Pz.longV b = V := ⟨_, rfl⟩
  obtain ⟨LE, hLE⟩ : ∃ V, Go.Pz.longE b = V := ⟨_, rfl⟩
  have HLO := Lib.hid (fun w h => plong_calls a n c b w h V LE hV hLE)
  have HR := Lib.hid hR
  by_cases h1 : 300 < n
  · have d1 : decide ((300 : Int) < (n : Int)) = true := decide_eq_true (by omega)
    clear hR hV hLE h1
    generalize hW : w = wn at hO HR ⊢
    clear hW w
    go_enter Try.func8, Try.ntmps8
    go_wp2_with (first
      | ((with_reducible refine gG ?_); refine wpList_want rfl ?_)
      | (go_at_call 9; refine (live7_calls _).mono ?_; rintro e ww ⟨rfl, hb⟩; replace hO := hO.call hb; clear hb)
      | (go_at_call 15; refine (HLO.out _ (hO.rd HR.out)).mono ?_; rintro e w1 ⟨rfl, rfl⟩))
    go_ret
    exact ⟨rfl, hO.below⟩
  have d1 : decide ((300 : Int) < (n : Int)) = false := decide_eq_false (by omega)
  have hlE : LE = 0 ∨ LE = 2 := by rw [← hLE]; unfold Go.Pz.longE; split; exact .inr rfl; split; exact .inr rfl; exact .inl rfl
  by_cases h2 : LE = 0 ∧ 2000 < V
  · obtain ⟨rfl, h2⟩ := h2
    have d2 : decide ((2000 : Int) < (V : Int)) = true := decide_eq_true (by omega)
    clear hR hV hLE h1 h2 hlE
    generalize hW : w = wn at hO HR ⊢
    clear hW w
    go_enter Try.func8, Try.ntmps8
    go_wp2_with (first
      | ((with_reducible refine gG ?_); refine wpList_want rfl ?_)
      | (go_at_call 9; refine (live7_calls _).mono ?_; rintro e ww ⟨rfl, hb⟩; replace hO := hO.call hb; clear hb)
      | (go_at_call 15; refine (HLO.out _ (hO.rd HR.out)).mono ?_; rintro e w1 ⟨rfl, rfl⟩))
    go_ret
    exact ⟨rfl, hO.below⟩
  obtain ⟨T, hT⟩ : ∃ T, Go.Pz.unT b most = T := ⟨_, rfl⟩
  obtain ⟨E, hE⟩ : ∃ T, Go.Pz.unE b most = T := ⟨_, rfl⟩
  obtain ⟨M, hM⟩ : ∃ M, T.length = M := ⟨_, rfl⟩
  have HUN := Lib.hid (fun w h => unpack_calls a n c b most w h (by omega) T E M hT hE hM)
  obtain ⟨f1, f2⟩ := Go.Pz.unT_facts b most
  rw [hE, hT, hV, hLE] at f1
  rw [hE, hT, hV, hLE] at f2
  rw [hM] at f1
  by_cases hE0 : E = 0
  · obtain ⟨g1, g2, g3, g4⟩ := f1 hE0
    subst hE0
    subst g1
    subst g2
    have d2 : decide ((2000 : Int) < (M : Int)) = false := decide_eq_false (by omega)
    have d3 : decide ((M : Int) ≤ most) = true := decide_eq_true g3
    clear hR hV hLE h1 h2 hlE f1 f2 hT hE hM g3 g4
    generalize hW : w = wn at hO HR ⊢
    clear hW w
    go_enter Try.func8, Try.ntmps8
    go_wp2_with (first
      | ((with_reducible refine gG ?_); refine wpList_want rfl ?_)
      | (go_at_call 9; refine (live7_calls _).mono ?_; rintro e ww ⟨rfl, hb⟩; replace hO := hO.call hb; clear hb)
      | (go_at_call 15; refine (HLO.out _ (hO.rd HR.out)).mono ?_; rintro e w1 ⟨rfl, rfl⟩)
      | (go_at_call 19; refine (HUN.out _ (hO.rd HR.out)).mono ?_; rintro e ww ⟨a3, c3, rfl, hb, hr⟩; replace hO := hO.addRow hb hr; clear hb hr))
    go_ret
    exact ⟨rfl, hO.below⟩
  · obtain ⟨g1, g2⟩ := f2 hE0
    have hM0 : M = 0 := by rw [← hM, g1]; rfl
    subst hM0
    clear f1 f2 hT hE hM g1 hE0 hR hV hLE h1
    generalize hW : w = wn at hO HR ⊢
    clear hW w
    rcases g2 with rfl | ⟨rfl, rfl, g3⟩ | ⟨rfl, g3⟩
    · rcases hlE with rfl | rfl
      · have d2 : decide ((2000 : Int) < (V : Int)) = false := decide_eq_false (by omega)
        clear h2
        go_enter Try.func8, Try.ntmps8
        go_wp2_with (first
          | ((with_reducible refine gG ?_); refine wpList_want rfl ?_)
          | (go_at_call 9; refine (live7_calls _).mono ?_; rintro e ww ⟨rfl, hb⟩; replace hO := hO.call hb; clear hb)
          | (go_at_call 15; refine (HLO.out _ (hO.rd HR.out)).mono ?_; rintro e w1 ⟨rfl, rfl⟩)
          | (go_at_call 19; refine (HUN.out _ (hO.rd HR.out)).mono ?_; rintro e ww ⟨a3, c3, rfl, hb, hr⟩; replace hO := hO.addRow hb hr; clear hb hr))
        go_ret
        exact ⟨rfl, hO.below⟩
      · clear h2
        go_enter Try.func8, Try.ntmps8
        go_wp2_with (first
          | ((with_reducible refine gG ?_); refine wpList_want rfl ?_)
          | (go_at_call 9; refine (live7_calls _).mono ?_; rintro e ww ⟨rfl, hb⟩; replace hO := hO.call hb; clear hb)
          | (go_at_call 15; refine (HLO.out _ (hO.rd HR.out)).mono ?_; rintro e w1 ⟨rfl, rfl⟩)
          | (go_at_call 19; refine (HUN.out _ (hO.rd HR.out)).mono ?_; rintro e ww ⟨a3, c3, rfl, hb, hr⟩; replace hO := hO.addRow hb hr; clear hb hr))
        go_ret
        exact ⟨rfl, hO.below⟩
    · have d2 : decide ((2000 : Int) < (V : Int)) = false := decide_eq_false (by omega)
      have d3 : decide (most < (V : Int)) = true := decide_eq_true g3
      clear h2 hlE g3
      go_enter Try.func8, Try.ntmps8
      go_wp2_with (first
        | ((with_reducible refine gG ?_); refine wpList_want rfl ?_)
        | (go_at_call 9; refine (live7_calls _).mono ?_; rintro e ww ⟨rfl, hb⟩; replace hO := hO.call hb; clear hb)
        | (go_at_call 15; refine (HLO.out _ (hO.rd HR.out)).mono ?_; rintro e w1 ⟨rfl, rfl⟩)
        | (go_at_call 19; refine (HUN.out _ (hO.rd HR.out)).mono ?_; rintro e ww ⟨a3, c3, rfl, hb, hr⟩; replace hO := hO.addRow hb hr; clear hb hr))
      go_ret
      exact ⟨rfl, hO.below⟩
    · have d3 : decide (most < (0 : Int)) = true := decide_eq_true g3
      rcases hlE with rfl | rfl
      · have d2 : decide ((2000 : Int) < (V : Int)) = false := decide_eq_false (by omega)
        clear h2 g3
        go_enter Try.func8, Try.ntmps8
        go_wp2_with (first
          | ((with_reducible refine gG ?_); refine wpList_want rfl ?_)
          | (go_at_call 9; refine (live7_calls _).mono ?_; rintro e ww ⟨rfl, hb⟩; replace hO := hO.call hb; clear hb)
          | (go_at_call 15; refine (HLO.out _ (hO.rd HR.out)).mono ?_; rintro e w1 ⟨rfl, rfl⟩)
          | (go_at_call 19; refine (HUN.out _ (hO.rd HR.out)).mono ?_; rintro e ww ⟨a3, c3, rfl, hb, hr⟩; replace hO := hO.addRow hb hr; clear hb hr))
        go_ret
        exact ⟨rfl, hO.below⟩
      · clear h2 g3
        go_enter Try.func8, Try.ntmps8
        go_wp2_with (first
          | ((with_reducible refine gG ?_); refine wpList_want rfl ?_)
          | (go_at_call 9; refine (live7_calls _).mono ?_; rintro e ww ⟨rfl, hb⟩; replace hO := hO.call hb; clear hb)
          | (go_at_call 15; refine (HLO.out _ (hO.rd HR.out)).mono ?_; rintro e w1 ⟨rfl, rfl⟩)
          | (go_at_call 19; refine (HUN.out _ (hO.rd HR.out)).mono ?_; rintro e ww ⟨a3, c3, rfl, hb, hr⟩; replace hO := hO.addRow hb hr; clear hb hr))
        go_ret
        exact ⟨rfl, hO.below⟩
end Go.Proofs.Ytnkpjmcgecdkfaa
