/- The walk of MatchMost. -/
import Derived.Test.YtdhcmnblfkhndaaMx
namespace Go.Proofs.Ytdhcmnblfkhndaa
open Go.RowKit Go.Own Go.Bv Go.Ord Go.Eq Go.Mt

set_option maxHeartbeats 4000000 in
set_option maxRecDepth 100000 in
theorem most_walk (a : Option Addr) (n c : Nat) (l : List Tok) (w : World) (hR : Rd w 3 a n c (tks l)) :
    Calls Try.prog 6 #[.slice a n c] w fun e w' => e = .returned (.bool true) ∧ Below w.heap.size w w' := by
  have hO := Own.start w
  have HR := Lib.hid hR
  by_cases h2 : 200 < n
  · have d1 : decide ((200 : Int) < (n : Int)) = true := by simp; omega
    clear hR HR
    generalize hW : w = wn at hO ⊢
    clear hW w
    go_enter Try.func6, Try.ntmps6
    go_wp2_with (first
      | (go_at_call 9; refine (live_calls _).mono ?_; rintro e ww ⟨rfl, hb⟩; replace hO := hO.call hb; clear hb))
    go_ret
    exact ⟨rfl, hO.below⟩
  have hl : l.length = n := by have := hR.len; rw [tks_length] at this; omega
  have d1 : decide ((200 : Int) < (n : Int)) = false := by simp; omega
  by_cases hk : okFrom 0 l
  · have hbd := told_bounds 0 l hk
    rw [hl] at hbd
    have HC := Lib.hid (fun w h => long_calls a n c l w h (told l) 0 (fun _ _ => ⟨rfl, rfl⟩) (fun h1 => by rcases h1 with h1 | h1; omega; exact absurd hk h1))
    have HT := Lib.hid (fun w h => text_okN a n c l (told l) (told l) rfl w h (by omega) hk (Int.le_refl _) (by omega))
    have ht := fun h1 w h => text_long a n c l ((told l : Int) - 1) w h (by omega) hk h1 (.inl (by omega))
    obtain ⟨N, hN⟩ : ∃ N, told l = N := ⟨_, rfl⟩
    rw [hN] at HC HT ht hbd
    have e1 : wrap64 (18 * (n : Int)) = 18 * (n : Int) := by unfold wrap64; omega
    have e2 : decide (18 * (n : Int) < (N : Int)) = false := by simp; omega
    have e3 : decide ((N : Int) < (n : Int)) = false := by simp; omega
    by_cases h0 : N = 0
    · have f1 : ((N : Int) == 0) = true := by simp [h0]
      clear hR hl hk hN ht
      have H0 := Lib.hid h0
      clear h0
      generalize hW : w = wn at hO HR ⊢
      clear hW w
      go_enter Try.func6, Try.ntmps6
      go_wp2_with (first
        | ((with_reducible refine gG ?_); refine wpList_want rfl ?_)
        | (go_at_call 9; refine (live_calls _).mono ?_; rintro e ww ⟨rfl, hb⟩; replace hO := hO.call hb; clear hb)
        | (go_at_call 15; refine (HC.out _ (hO.rd HR.out)).mono ?_; rintro e ww ⟨rfl, hb⟩; replace hO := hO.call hb; clear hb)
        | (go_at_call 16; refine (HT.out _ (hO.rd HR.out)).mono ?_; rintro e ww ⟨aT, cT, rfl, hb, hr⟩; replace hO := hO.addRow hb hr; clear hb hr))
      go_ret
      exact ⟨rfl, hO.below⟩
    · have f1 : ((N : Int) == 0) = false := by simp [h0]
      have e4 : wrap64 ((N : Int) - 1) = (N : Int) - 1 := by unfold wrap64; omega
      have HL := Lib.hid (ht (by omega))
      have h1 : 1 ≤ N := by omega
      clear hR hl hk hN ht h0
      generalize hW : w = wn at hO HR ⊢
      clear hW w
      go_enter Try.func6, Try.ntmps6
      go_wp2_with (first
        | ((with_reducible refine gG ?_); refine wpList_want rfl ?_)
        | (go_at_call 9; refine (live_calls _).mono ?_; rintro e ww ⟨rfl, hb⟩; replace hO := hO.call hb; clear hb)
        | (go_at_call 15; refine (HC.out _ (hO.rd HR.out)).mono ?_; rintro e ww ⟨rfl, hb⟩; replace hO := hO.call hb; clear hb)
        | (go_at_call 16; (with_reducible refine gCall #[_, .int .i64 (N : Int)] ?_); refine (HT.out _ (hO.rd HR.out)).mono ?_; rintro e ww ⟨aT, cT, rfl, hb, hr⟩; replace hO := hO.addRow hb hr; clear hb hr)
        | (go_at_call 16; (with_reducible refine gCall #[_, .int .i64 ((N : Int) - 1)] ?_); refine (HL.out _ (hO.rd HR.out)).mono ?_; rintro e ww ⟨rfl, hb⟩; replace hO := hO.call hb; clear hb))
      go_ret
      exact ⟨rfl, hO.below⟩
  · have HC := Lib.hid (fun w h => long_calls a n c l w h 0 1 (fun h1 h2 => absurd h2 hk) (fun _ => ⟨rfl, rfl⟩))
    clear hR hl hk
    generalize hW : w = wn at hO HR ⊢
    clear hW w
    go_enter Try.func6, Try.ntmps6
    go_wp2_with (first
      | ((with_reducible refine gG ?_); refine wpList_want rfl ?_)
      | (go_at_call 9; refine (live_calls _).mono ?_; rintro e ww ⟨rfl, hb⟩; replace hO := hO.call hb; clear hb)
      | (go_at_call 15; refine (HC.out _ (hO.rd HR.out)).mono ?_; rintro e ww ⟨rfl, hb⟩; replace hO := hO.call hb; clear hb))
    go_ret
    exact ⟨rfl, hO.below⟩
end Go.Proofs.Ytdhcmnblfkhndaa
