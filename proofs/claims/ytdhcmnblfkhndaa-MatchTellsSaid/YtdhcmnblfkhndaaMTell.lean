/- The walk of MatchTells. -/
import Derived.Test.YtdhcmnblfkhndaaMo
namespace Go.Proofs.Ytdhcmnblfkhndaa
open Go.RowKit Go.Own Go.Bv Go.Ord Go.Eq Go.Mt

theorem rd_nil8 (w : World) : Rd w 1 none 0 0 (u8s []) := ⟨rfl, Nat.le_refl _, by simp [maxLen], fun _ => ⟨rfl, rfl⟩, fun h => absurd rfl h⟩

set_option maxHeartbeats 4000000 in
set_option maxRecDepth 100000 in
theorem tells_walk (a : Option Addr) (n c : Nat) (l : List Tok) (most : Int) (w : World) (hR : Rd w 3 a n c (tks l)) :
    Calls Try.prog 8 #[.slice a n c, .int .i64 most] w fun e w' => e = .returned (.bool true) ∧ Below w.heap.size w w' := by
  have hO := Own.start w
  by_cases h2 : 200 < n ∧ n ≤ 65536
  · have d1 : decide ((200 : Int) < (n : Int)) = true := by simp; omega
    have d2 : decide ((n : Int) ≤ 65536) = true := by simp; omega
    clear hR
    generalize hW : w = wn at hO ⊢
    clear hW w
    go_enter Try.func8, Try.ntmps8
    go_wp2_with (first
      | ((with_reducible refine gG ?_); refine wpList_want rfl ?_)
      | (go_at_call 9; refine (live_calls _).mono ?_; rintro e ww ⟨rfl, hb⟩; replace hO := hO.call hb; clear hb))
    go_ret
    exact ⟨rfl, hO.below⟩
  by_cases h7 : 70000 < n
  · have d1 : decide ((200 : Int) < (n : Int)) = true := by simp; omega
    have d2 : decide ((n : Int) ≤ 65536) = false := by simp; omega
    have d3 : decide ((70000 : Int) < (n : Int)) = true := by simp; omega
    clear hR
    generalize hW : w = wn at hO ⊢
    clear hW w
    go_enter Try.func8, Try.ntmps8
    go_wp2_with (first
      | ((with_reducible refine gG ?_); refine wpList_want rfl ?_)
      | (go_at_call 9; refine (live_calls _).mono ?_; rintro e ww ⟨rfl, hb⟩; replace hO := hO.call hb; clear hb))
    go_ret
    exact ⟨rfl, hO.below⟩
  have d3 : decide ((70000 : Int) < (n : Int)) = false := by simp; omega
  obtain ⟨D1, hD1⟩ : ∃ D, decide ((200 : Int) < (n : Int)) = D := ⟨_, rfl⟩
  obtain ⟨D2, hD2⟩ : ∃ D, decide ((n : Int) ≤ 65536) = D := ⟨_, rfl⟩
  have hDD : D1 = false ∨ D1 = true ∧ D2 = false := by
    rw [← hD1, ← hD2]
    by_cases h : 200 < n
    · exact .inr ⟨by simp; omega, by simp; omega⟩
    · exact .inl (by simp; omega)
  have HR := Lib.hid hR
  -- how much they tell
  obtain ⟨N, E, hok, hno⟩ : ∃ N E : Int, (n ≤ 65536 → okFrom 0 l → N = told l ∧ E = 0) ∧ (65536 < n ∨ ¬ okFrom 0 l → N = 0 ∧ E = 1) := by
    by_cases h : n ≤ 65536 ∧ okFrom 0 l
    · exact ⟨told l, 0, fun h1 h2 => ⟨rfl, rfl⟩, fun h1 => by rcases h1 with h1 | h1; omega; exact absurd h.2 h1⟩
    · exact ⟨0, 1, fun h1 h2 => absurd ⟨h1, h2⟩ h, fun h1 => ⟨rfl, rfl⟩⟩
  have HL1 := Lib.hid (fun w h => long_calls a n c l w h N E hok hno)
  have HL2 := Lib.hid (fun w h => rlong_calls a n c l w h N E hok hno)
  have HC1 := Lib.hid (fun w h => check_calls a n c l w h E (fun h1 h2 => (hok h1 h2).2) (fun h1 => (hno h1).2))
  have HC2 := Lib.hid (fun w h => rcheck_calls a n c l w h E (fun h1 h2 => (hok h1 h2).2) (fun h1 => (hno h1).2))
  have HS := Lib.hid (fun (a2 : Option Addr) (c2 : Nat) w h1 h2 => by have := samet_calls a a2 n c n c2 l l w h1 h2; rw [decide_eq_true rfl] at this; exact this)
  by_cases hT : n ≤ 65536 ∧ okFrom 0 l ∧ (told l : Int) ≤ most ∧ told l ≤ 65536
  · obtain ⟨t1, t2, t3, t4⟩ := hT
    obtain ⟨Q, hQ⟩ : ∃ Q, told l = Q := ⟨_, rfl⟩
    rw [hQ] at t3 t4
    have HT1 := Lib.hid (fun w h => text_okN a n c l most Q hQ w h t1 t2 t3 t4)
    have HT2 := Lib.hid (fun w h => rtext_ok a n c l most Q hQ w h t1 t2 t3 t4)
    obtain ⟨tx, htx⟩ : ∃ tx, text l = tx := ⟨_, rfl⟩
    rw [htx] at HT1 HT2
    have HSB := Lib.hid (fun (a1 a2 : Option Addr) (c1 c2 : Nat) w h1 h2 => by have := same_calls a1 a2 Q c1 Q c2 tx tx w h1 h2; rw [decide_eq_true rfl] at this; exact this)
    clear hR hok hno t1 t2 t3 t4 hQ htx
    have hd1 := Lib.hid hD1
    have hd2 := Lib.hid hD2
    generalize hW : w = wn at hO HR ⊢
    clear hW w
    rcases hDD with rfl | ⟨rfl, rfl⟩
    all_goals
      go_enter Try.func8, Try.ntmps8
      go_wp2_with (first
        | ((with_reducible refine gG ?_); refine wpList_want rfl ?_)
        | ((with_reducible refine gAppendNil ?_); refine own_appendNil hO _ _ 26 etk rfl rfl (hO.rd HR.out) (tks_one _) (by simp [maxLen]; omega) (by omega) ?_; clear hO; intro a5 c5 ww hO)
        | (go_at_call 16; refine (HT1.out _ (hO.rd HR.out)).mono ?_; rintro e ww ⟨aX, cX, rfl, hb, hr⟩; replace hO := hO.addRow hb hr; clear hb hr)
        | (go_at_call 18; refine (HT2.out _ (hO.rd HR.out)).mono ?_; rintro e ww ⟨aY, cY, rfl, hb, hr⟩; replace hO := hO.addRow hb hr; clear hb hr)
        | (go_at_call 15; refine (HL1.out _ (hO.rd HR.out)).mono ?_; rintro e ww ⟨rfl, hb⟩; replace hO := hO.call hb; clear hb)
        | (go_at_call 19; refine (HL2.out _ (hO.rd HR.out)).mono ?_; rintro e ww ⟨rfl, hb⟩; replace hO := hO.call hb; clear hb)
        | (go_at_call 20; refine (HC1.out _ (hO.rd HR.out)).mono ?_; rintro e ww ⟨rfl, hb⟩; replace hO := hO.call hb; clear hb)
        | (go_at_call 21; refine (HC2.out _ (hO.rd HR.out)).mono ?_; rintro e ww ⟨rfl, hb⟩; replace hO := hO.call hb; clear hb)
        | (go_at_call 17; refine (HSB.out _ _ _ _ _ (hO.rdAt 1 rfl) (hO.rdAt 0 rfl)).mono ?_; rintro e ww ⟨rfl, rfl⟩)
        | (go_at_call 11; refine (HS.out _ _ _ (hO.rd HR.out) (hO.rdAt 2 rfl)).mono ?_; rintro e ww ⟨rfl, hb⟩; replace hO := hO.call hb; clear hb)
        | (go_at_call 9; refine (live_calls _).mono ?_; rintro e ww ⟨rfl, hb⟩; replace hO := hO.call hb; clear hb))
      go_ret
      exact ⟨rfl, hO.below⟩
  · obtain ⟨E2, HT1, HT2⟩ : ∃ E2 : Int, Hid (∀ w, Rd w 3 a n c (tks l) → Calls Try.prog 16 #[.slice a n c, .int .i64 most] w fun e w' => e = .returned (.tuple #[.slice none 0 0, .int .i64 E2]) ∧ Below w.heap.size w w') ∧
        Hid (∀ w, Rd w 3 a n c (tks l) → Calls Try.prog 18 #[.slice a n c, .int .i64 most] w fun e w' => e = .returned (.tuple #[.slice none 0 0, .int .i64 E2]) ∧ Below w.heap.size w w') := by
      by_cases hb : (65536 < n ∨ ¬ okFrom 0 l) ∨ most < 0
      · exact ⟨1, fun w h => text_bad a n c l most w h hb, fun w h => rtext_bad a n c l most w h hb⟩
      · have hk : okFrom 0 l := by
          by_cases h : okFrom 0 l
          · exact h
          · exact absurd (.inl (.inr h)) hb
        have hn6 : n ≤ 65536 := by omega
        have hlg : most < (told l : Int) ∨ 65536 < told l := by
          by_cases h : most < (told l : Int)
          · exact .inl h
          · by_cases h' : 65536 < told l
            · exact .inr h'
            · exact absurd ⟨hn6, hk, by omega, by omega⟩ hT
        exact ⟨3, fun w h => text_long a n c l most w h hn6 hk (by omega) hlg, fun w h => rtext_long a n c l most w h hn6 hk (by omega) hlg⟩
    have HSB := Lib.hid (fun w => by have := same_calls none none 0 0 0 0 [] [] w (rd_nil8 w) (rd_nil8 w); rw [decide_eq_true rfl] at this; exact this)
    clear hR hok hno hT
    have hd1 := Lib.hid hD1
    have hd2 := Lib.hid hD2
    generalize hW : w = wn at hO HR ⊢
    clear hW w
    rcases hDD with rfl | ⟨rfl, rfl⟩
    all_goals
      go_enter Try.func8, Try.ntmps8
      go_wp2_with (first
        | ((with_reducible refine gG ?_); refine wpList_want rfl ?_)
        | ((with_reducible refine gAppendNil ?_); refine own_appendNil hO _ _ 26 etk rfl rfl (hO.rd HR.out) (tks_one _) (by simp [maxLen]; omega) (by omega) ?_; clear hO; intro a5 c5 ww hO)
        | (go_at_call 16; refine (HT1.out _ (hO.rd HR.out)).mono ?_; rintro e ww ⟨rfl, hb⟩; replace hO := hO.call hb; clear hb)
        | (go_at_call 18; refine (HT2.out _ (hO.rd HR.out)).mono ?_; rintro e ww ⟨rfl, hb⟩; replace hO := hO.call hb; clear hb)
        | (go_at_call 15; refine (HL1.out _ (hO.rd HR.out)).mono ?_; rintro e ww ⟨rfl, hb⟩; replace hO := hO.call hb; clear hb)
        | (go_at_call 19; refine (HL2.out _ (hO.rd HR.out)).mono ?_; rintro e ww ⟨rfl, hb⟩; replace hO := hO.call hb; clear hb)
        | (go_at_call 20; refine (HC1.out _ (hO.rd HR.out)).mono ?_; rintro e ww ⟨rfl, hb⟩; replace hO := hO.call hb; clear hb)
        | (go_at_call 21; refine (HC2.out _ (hO.rd HR.out)).mono ?_; rintro e ww ⟨rfl, hb⟩; replace hO := hO.call hb; clear hb)
        | (go_at_call 17; refine (HSB.out _).mono ?_; rintro e ww ⟨rfl, rfl⟩)
        | (go_at_call 11; refine (HS.out _ _ _ (hO.rd HR.out) (hO.rdAt 0 rfl)).mono ?_; rintro e ww ⟨rfl, hb⟩; replace hO := hO.call hb; clear hb)
        | (go_at_call 9; refine (live_calls _).mono ?_; rintro e ww ⟨rfl, hb⟩; replace hO := hO.call hb; clear hb))
      go_ret
      exact ⟨rfl, hO.below⟩
end Go.Proofs.Ytdhcmnblfkhndaa
