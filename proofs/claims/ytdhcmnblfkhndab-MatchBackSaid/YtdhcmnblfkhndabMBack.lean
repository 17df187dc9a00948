/- The walk of MatchBack. -/
import Derived.Test.YtdhcmnblfkhndabMx
namespace Go.Proofs.Ytdhcmnblfkhndab
open Go.RowKit Go.Own Go.Bv Go.Ord Go.Eq Go.Mt

set_option maxHeartbeats 4000000 in
set_option maxRecDepth 100000 in
theorem back_walk (a : Option Addr) (n c : Nat) (bs : List (BitVec 8)) (w : World) (hR : Rd w 1 a n c (u8s bs)) :
    Calls Try.prog 3 #[.slice a n c] w fun e w' => e = .returned (.bool true) ∧ Below w.heap.size w w' := by
  have hO := Own.start w
  by_cases h2 : 500 < n
  · have d1 : decide ((500 : Int) < (n : Int)) = true := by simp; omega
    clear hR
    generalize hW : w = wn at hO ⊢
    clear hW w
    go_enter Try.func3, Try.ntmps3
    go_wp2_with (first
      | (go_at_call 4; refine (live_calls _).mono ?_; rintro e ww ⟨rfl, hb⟩; replace hO := hO.call hb; clear hb))
    go_ret
    exact ⟨rfl, hO.below⟩
  have d1 : decide ((500 : Int) < (n : Int)) = false := by simp; omega
  have hlen : bs.length = n := by have := hR.len; rw [u8s_length] at this; omega
  obtain ⟨s1, s2, s3⟩ := tokens_spec bs
  have hbd := told_bounds 0 _ s1
  rw [hlen] at s2
  rw [s2] at hbd
  obtain ⟨T, hT⟩ : ∃ T, (tokens bs).length = T := ⟨_, rfl⟩
  have ht := fun w h => tokens_callsN a n c bs T hT w h (by omega)
  rw [hT] at hbd
  obtain ⟨L, hL⟩ : ∃ L, tokens bs = L := ⟨_, rfl⟩
  rw [hL] at ht s1 s2 s3
  have HT := Lib.hid ht
  have hx := fun a d w h => text_okN a T d L (n : Int) n s2 w h (by omega) s1 (Int.le_refl _) (by omega)
  rw [s3] at hx
  have HX := Lib.hid hx
  have HC := Lib.hid (fun a d w h => long_calls a T d L w h n 0 (fun _ _ => ⟨by rw [s2], rfl⟩) (fun h1 => by rcases h1 with h1 | h1; omega; exact absurd s1 h1))
  have HK := Lib.hid (fun a d w h => check_calls a T d L w h 0 (fun _ _ => rfl) (fun h1 => by rcases h1 with h1 | h1; omega; exact absurd s1 h1))
  have HS := Lib.hid (fun (b : Option Addr) (d : Nat) w h1 h2 => by have := same_calls b a n d n c bs bs w h1 h2; rw [decide_eq_true rfl] at this; exact this)
  have HR := Lib.hid hR
  have e1 : decide ((T : Int) ≤ (n : Int)) = true := by simp; omega
  have e1' : decide (T ≤ n) = true := by simp; omega
  clear hR hlen s1 s2 s3 hbd hT ht hL hx
  generalize hW : w = wn at hO HR ⊢
  clear hW w
  go_enter Try.func3, Try.ntmps3
  go_wp2_with (first
    | ((with_reducible refine gG ?_); refine wpList_want rfl ?_)
    | (go_at_call 5; refine (HT.out _ (hO.rd HR.out)).mono ?_; rintro e ww ⟨aT, cT, rfl, hb, hr⟩; replace hO := hO.addRow hb hr; clear hb hr)
    | (go_at_call 6; refine (HX.out _ _ _ (rd_clip (hO.rdAt 0 rfl))).mono ?_; rintro e ww ⟨aX, cX, rfl, hb, hr⟩; replace hO := hO.addRow hb hr; clear hb hr)
    | (go_at_call 7; refine (HC.out _ _ _ (rd_clip (hO.rdAt 1 rfl))).mono ?_; rintro e ww ⟨rfl, hb⟩; replace hO := hO.call hb; clear hb)
    | (go_at_call 9; refine (HK.out _ _ _ (rd_clip (hO.rdAt 1 rfl))).mono ?_; rintro e ww ⟨rfl, hb⟩; replace hO := hO.call hb; clear hb)
    | (go_at_call 8; refine (HS.out _ _ _ (hO.rdAt 0 rfl) (hO.rd HR.out)).mono ?_; rintro e ww ⟨rfl, rfl⟩)
    | (go_at_call 4; refine (live_calls _).mono ?_; rintro e ww ⟨rfl, hb⟩; replace hO := hO.call hb; clear hb))
  go_ret
  exact ⟨rfl, hO.below⟩
end Go.Proofs.Ytdhcmnblfkhndab
