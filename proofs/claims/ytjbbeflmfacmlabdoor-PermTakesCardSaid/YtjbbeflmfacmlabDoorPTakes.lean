/- The walk of PermTakes. -/
import Derived.Test.YtjbbeflmfacmlabDoorPk
import Derived.Test.YtjbbeflmfacmlabDoorPOctEq
namespace Go.Proofs.YtjbbeflmfacmlabDoor
open Go.RowKit Go.Own Go.Bv Go.Ord Go.Eq

theorem tk_egW : Tryd.prog.eqGuardType Tryd.prog.depth 24 = false := by kernel_rfl

set_option maxHeartbeats 4000000 in
set_option maxRecDepth 100000 in
theorem takes_walk (s : St) (a : Option Addr) (n cap : Nat) (bs : List (BitVec 8)) (N : Int) (w : World) (hR : Rd w 1 a n cap (u8s bs)) (hT : Turns w) :
    Calls Tryd.prog 3 #[.agg s.C, .slice a n cap, .int .i64 N] w fun e w' => e = .returned (.bool true) ∧ Below w.heap.size w w' := by
  have hO := Own.start w
  have ga := fun w hR hT => absorb_calls s a n cap bs w hR hT
  have gb := fun w hR => rabsorb_calls s a n cap bs w hR
  have gs := fun w hT => squeeze_calls' s N w hT
  have gr := fun w => rsqueeze_calls s N w
  obtain ⟨X, hX⟩ : ∃ X, absT s bs = X := ⟨_, rfl⟩
  obtain ⟨E, hE⟩ : ∃ E, absE bs = E := ⟨_, rfl⟩
  obtain ⟨Y, hY⟩ : ∃ Y, sqT s N = Y := ⟨_, rfl⟩
  obtain ⟨F, hF⟩ : ∃ F, sqE N = F := ⟨_, rfl⟩
  rw [hX, hE] at ga gb
  rw [hY, hF] at gs gr
  have GA := Lib.hid ga
  have GB := Lib.hid gb
  have GS := Lib.hid gs
  have GR := Lib.hid gr
  have HR := Lib.hid hR
  have HT := Lib.hid hT
  clear hR hT ga gb gs gr hX hE hY hF
  generalize hW : w = wn at hO HR HT ⊢
  clear hW w
  by_cases h1 : 300 < n
  · have d1 : decide ((300 : Int) < (n : Int)) = true := by simp; omega
    by_cases h2 : n ≤ 131072
    · have d2 : decide ((n : Int) ≤ 131072) = true := by simp; omega
      go_enter Tryd.func3, Tryd.ntmps3
      go_wp2_with (first
        | ((with_reducible refine gBox ?_); first | (refine bxA hO rfl ?_; clear hO; intro b ww hO) | (refine bx1 hO rfl rfl ?_; clear hO; intro b ww hO))
        | ((with_reducible refine gG ?_); refine wpList_want rfl ?_)
        | (go_at_call 4; refine (live_calls _).mono ?_; rintro e ww ⟨rfl, hb⟩; replace hO := hO.call hb; clear hb))
      go_ret
      exact ⟨rfl, hO.below⟩
    · have d2 : decide ((n : Int) ≤ 131072) = false := by simp; omega
      by_cases h3 : 131080 < n
      · have d3 : decide ((131080 : Int) < (n : Int)) = true := by simp; omega
        go_enter Tryd.func3, Tryd.ntmps3
        go_wp2_with (first
          | ((with_reducible refine gBox ?_); first | (refine bxA hO rfl ?_; clear hO; intro b ww hO) | (refine bx1 hO rfl rfl ?_; clear hO; intro b ww hO))
          | ((with_reducible refine gG ?_); refine wpList_want rfl ?_)
          | (go_at_call 4; refine (live_calls _).mono ?_; rintro e ww ⟨rfl, hb⟩; replace hO := hO.call hb; clear hb))
        go_ret
        exact ⟨rfl, hO.below⟩
      · have d3 : decide ((131080 : Int) < (n : Int)) = false := by simp; omega
        by_cases h4 : 300 < N
        · have d4 : decide ((300 : Int) < N) = true := by simp; omega
          by_cases h5 : N ≤ 131072
          · have d5 : decide (N ≤ (131072 : Int)) = true := by simp; omega
            go_enter Tryd.func3, Tryd.ntmps3
            go_wp2_with (first
              | ((with_reducible refine gBox ?_); first | (refine bxA hO rfl ?_; clear hO; intro b ww hO) | (refine bx1 hO rfl rfl ?_; clear hO; intro b ww hO))
              | ((with_reducible refine gG ?_); refine wpList_want rfl ?_)
              | (go_at_call 4; refine (live_calls _).mono ?_; rintro e ww ⟨rfl, hb⟩; replace hO := hO.call hb; clear hb))
            go_ret
            exact ⟨rfl, hO.below⟩
          · have d5 : decide (N ≤ (131072 : Int)) = false := by simp; omega
            go_enter Tryd.func3, Tryd.ntmps3
            go_wp2_with (first
              | ((with_reducible refine gBox ?_); first | (refine bxA hO rfl ?_; clear hO; intro b ww hO) | (refine bx1 hO rfl rfl ?_; clear hO; intro b ww hO))
              | ((with_reducible refine gLoad ?_); first | refine ldX hO 0 rfl rfl (tA rfl) (tS rfl) ?_ | refine ldC hO 0 rfl rfl (tA rfl) rfl ?_ | refine ldX hO 1 rfl rfl (tA rfl) (tS rfl) ?_ | refine ldC hO 1 rfl rfl (tA rfl) rfl ?_ | refine ldX hO 2 rfl rfl (tA rfl) (tS rfl) ?_ | refine ldC hO 2 rfl rfl (tA rfl) rfl ?_)
              | ((with_reducible refine gStore ?_); first | (refine stX hO 0 rfl rfl rfl rfl rfl (tS rfl) ?_; clear hO; intro ww hO) | (refine stC hO 0 rfl rfl rfl (ltb rfl) rfl (tS rfl) ?_; clear hO; intro ww hO))
              | ((with_reducible refine gAlloc ?_); refine own_alloc hO _ _ iwz ?_; clear hO; intro bb ww hO)
              | ((with_reducible refine gG ?_); refine wpList_want rfl ?_)
              | (go_at_call 4; refine (live_calls _).mono ?_; rintro e ww ⟨rfl, hb⟩; replace hO := hO.call hb; clear hb)
              | ((with_reducible refine Go.Bva.gCnv (s := 25) (t := 9) ?_); refine Go.Bva.step_val (run_value rfl (run_bytes_string _ Tryd.underlying25 Tryd.underlying5 Tryd.underlying9 (hO.rd HR.out))) ?_)
              | (go_at_call 5; refine (GA.out _ (hO.rd HR.out) (HT.out.own hO)).mono ?_; rintro e ww ⟨rfl, hb⟩; replace hO := hO.call hb; clear hb)
              | (go_at_call 6; refine (GB.out _ (hO.rd HR.out)).mono ?_; rintro e ww ⟨rfl, hb⟩; replace hO := hO.call hb; clear hb)
              | (go_at_call 7; refine (GS.out _ (HT.out.own hO)).mono ?_; rintro e ww ⟨a1, m1, c1, rfl, hb, h1⟩; replace hO := hO.call hb; clear hb; have H1 := Lib.hid h1; clear h1)
              | (go_at_call 8; refine (GR.out _).mono ?_; rintro e ww ⟨a2, m2, c2, rfl, hb, h2⟩; have H1' := Lib.hid (H1.out.below hb); clear H1; have H1 := H1'; clear H1'; replace hO := hO.call hb; clear hb; have H2 := Lib.hid h2; clear h2)
              | ((with_reducible refine gEql (t := 24) ?_); refine eqD tk_egW rfl rfl ?_; (with_reducible refine ⟨_, eqWT _, ?_⟩))
              | (go_at_call 9; refine (same_calls _ _ _ _ _ _ Y Y _ H1.out H2.out).mono ?_; rw [decide_eq_true rfl]; rintro e ww ⟨rfl, rfl⟩))
            go_ret
            exact ⟨rfl, hO.below⟩
        · have d4 : decide ((300 : Int) < N) = false := by simp; omega
          go_enter Tryd.func3, Tryd.ntmps3
          go_wp2_with (first
            | ((with_reducible refine gBox ?_); first | (refine bxA hO rfl ?_; clear hO; intro b ww hO) | (refine bx1 hO rfl rfl ?_; clear hO; intro b ww hO))
            | ((with_reducible refine gLoad ?_); first | refine ldX hO 0 rfl rfl (tA rfl) (tS rfl) ?_ | refine ldC hO 0 rfl rfl (tA rfl) rfl ?_ | refine ldX hO 1 rfl rfl (tA rfl) (tS rfl) ?_ | refine ldC hO 1 rfl rfl (tA rfl) rfl ?_ | refine ldX hO 2 rfl rfl (tA rfl) (tS rfl) ?_ | refine ldC hO 2 rfl rfl (tA rfl) rfl ?_)
            | ((with_reducible refine gStore ?_); first | (refine stX hO 0 rfl rfl rfl rfl rfl (tS rfl) ?_; clear hO; intro ww hO) | (refine stC hO 0 rfl rfl rfl (ltb rfl) rfl (tS rfl) ?_; clear hO; intro ww hO))
            | ((with_reducible refine gAlloc ?_); refine own_alloc hO _ _ iwz ?_; clear hO; intro bb ww hO)
            | ((with_reducible refine gG ?_); refine wpList_want rfl ?_)
            | (go_at_call 4; refine (live_calls _).mono ?_; rintro e ww ⟨rfl, hb⟩; replace hO := hO.call hb; clear hb)
            | ((with_reducible refine Go.Bva.gCnv (s := 25) (t := 9) ?_); refine Go.Bva.step_val (run_value rfl (run_bytes_string _ Tryd.underlying25 Tryd.underlying5 Tryd.underlying9 (hO.rd HR.out))) ?_)
            | (go_at_call 5; refine (GA.out _ (hO.rd HR.out) (HT.out.own hO)).mono ?_; rintro e ww ⟨rfl, hb⟩; replace hO := hO.call hb; clear hb)
            | (go_at_call 6; refine (GB.out _ (hO.rd HR.out)).mono ?_; rintro e ww ⟨rfl, hb⟩; replace hO := hO.call hb; clear hb)
            | (go_at_call 7; refine (GS.out _ (HT.out.own hO)).mono ?_; rintro e ww ⟨a1, m1, c1, rfl, hb, h1⟩; replace hO := hO.call hb; clear hb; have H1 := Lib.hid h1; clear h1)
            | (go_at_call 8; refine (GR.out _).mono ?_; rintro e ww ⟨a2, m2, c2, rfl, hb, h2⟩; have H1' := Lib.hid (H1.out.below hb); clear H1; have H1 := H1'; clear H1'; replace hO := hO.call hb; clear hb; have H2 := Lib.hid h2; clear h2)
            | ((with_reducible refine gEql (t := 24) ?_); refine eqD tk_egW rfl rfl ?_; (with_reducible refine ⟨_, eqWT _, ?_⟩))
            | (go_at_call 9; refine (same_calls _ _ _ _ _ _ Y Y _ H1.out H2.out).mono ?_; rw [decide_eq_true rfl]; rintro e ww ⟨rfl, rfl⟩))
          go_ret
          exact ⟨rfl, hO.below⟩
  · have d1 : decide ((300 : Int) < (n : Int)) = false := by simp; omega
    have d3 : decide ((131080 : Int) < (n : Int)) = false := by simp; omega
    by_cases h4 : 300 < N
    · have d4 : decide ((300 : Int) < N) = true := by simp; omega
      by_cases h5 : N ≤ 131072
      · have d5 : decide (N ≤ (131072 : Int)) = true := by simp; omega
        go_enter Tryd.func3, Tryd.ntmps3
        go_wp2_with (first
          | ((with_reducible refine gBox ?_); first | (refine bxA hO rfl ?_; clear hO; intro b ww hO) | (refine bx1 hO rfl rfl ?_; clear hO; intro b ww hO))
          | ((with_reducible refine gG ?_); refine wpList_want rfl ?_)
          | (go_at_call 4; refine (live_calls _).mono ?_; rintro e ww ⟨rfl, hb⟩; replace hO := hO.call hb; clear hb))
        go_ret
        exact ⟨rfl, hO.below⟩
      · have d5 : decide (N ≤ (131072 : Int)) = false := by simp; omega
        go_enter Tryd.func3, Tryd.ntmps3
        go_wp2_with (first
          | ((with_reducible refine gBox ?_); first | (refine bxA hO rfl ?_; clear hO; intro b ww hO) | (refine bx1 hO rfl rfl ?_; clear hO; intro b ww hO))
          | ((with_reducible refine gLoad ?_); first | refine ldX hO 0 rfl rfl (tA rfl) (tS rfl) ?_ | refine ldC hO 0 rfl rfl (tA rfl) rfl ?_ | refine ldX hO 1 rfl rfl (tA rfl) (tS rfl) ?_ | refine ldC hO 1 rfl rfl (tA rfl) rfl ?_ | refine ldX hO 2 rfl rfl (tA rfl) (tS rfl) ?_ | refine ldC hO 2 rfl rfl (tA rfl) rfl ?_)
          | ((with_reducible refine gStore ?_); first | (refine stX hO 0 rfl rfl rfl rfl rfl (tS rfl) ?_; clear hO; intro ww hO) | (refine stC hO 0 rfl rfl rfl (ltb rfl) rfl (tS rfl) ?_; clear hO; intro ww hO))
          | ((with_reducible refine gAlloc ?_); refine own_alloc hO _ _ iwz ?_; clear hO; intro bb ww hO)
          | ((with_reducible refine gG ?_); refine wpList_want rfl ?_)
          | (go_at_call 4; refine (live_calls _).mono ?_; rintro e ww ⟨rfl, hb⟩; replace hO := hO.call hb; clear hb)
          | ((with_reducible refine Go.Bva.gCnv (s := 25) (t := 9) ?_); refine Go.Bva.step_val (run_value rfl (run_bytes_string _ Tryd.underlying25 Tryd.underlying5 Tryd.underlying9 (hO.rd HR.out))) ?_)
          | (go_at_call 5; refine (GA.out _ (hO.rd HR.out) (HT.out.own hO)).mono ?_; rintro e ww ⟨rfl, hb⟩; replace hO := hO.call hb; clear hb)
          | (go_at_call 6; refine (GB.out _ (hO.rd HR.out)).mono ?_; rintro e ww ⟨rfl, hb⟩; replace hO := hO.call hb; clear hb)
          | (go_at_call 7; refine (GS.out _ (HT.out.own hO)).mono ?_; rintro e ww ⟨a1, m1, c1, rfl, hb, h1⟩; replace hO := hO.call hb; clear hb; have H1 := Lib.hid h1; clear h1)
          | (go_at_call 8; refine (GR.out _).mono ?_; rintro e ww ⟨a2, m2, c2, rfl, hb, h2⟩; have H1' := Lib.hid (H1.out.below hb); clear H1; have H1 := H1'; clear H1'; replace hO := hO.call hb; clear hb; have H2 := Lib.hid h2; clear h2)
          | ((with_reducible refine gEql (t := 24) ?_); refine eqD tk_egW rfl rfl ?_; (with_reducible refine ⟨_, eqWT _, ?_⟩))
          | (go_at_call 9; refine (same_calls _ _ _ _ _ _ Y Y _ H1.out H2.out).mono ?_; rw [decide_eq_true rfl]; rintro e ww ⟨rfl, rfl⟩))
        go_ret
        exact ⟨rfl, hO.below⟩
    · have d4 : decide ((300 : Int) < N) = false := by simp; omega
      go_enter Tryd.func3, Tryd.ntmps3
      go_wp2_with (first
        | ((with_reducible refine gBox ?_); first | (refine bxA hO rfl ?_; clear hO; intro b ww hO) | (refine bx1 hO rfl rfl ?_; clear hO; intro b ww hO))
        | ((with_reducible refine gLoad ?_); first | refine ldX hO 0 rfl rfl (tA rfl) (tS rfl) ?_ | refine ldC hO 0 rfl rfl (tA rfl) rfl ?_ | refine ldX hO 1 rfl rfl (tA rfl) (tS rfl) ?_ | refine ldC hO 1 rfl rfl (tA rfl) rfl ?_ | refine ldX hO 2 rfl rfl (tA rfl) (tS rfl) ?_ | refine ldC hO 2 rfl rfl (tA rfl) rfl ?_)
        | ((with_reducible refine gStore ?_); first | (refine stX hO 0 rfl rfl rfl rfl rfl (tS rfl) ?_; clear hO; intro ww hO) | (refine stC hO 0 rfl rfl rfl (ltb rfl) rfl (tS rfl) ?_; clear hO; intro ww hO))
        | ((with_reducible refine gAlloc ?_); refine own_alloc hO _ _ iwz ?_; clear hO; intro bb ww hO)
        | ((with_reducible refine gG ?_); refine wpList_want rfl ?_)
        | (go_at_call 4; refine (live_calls _).mono ?_; rintro e ww ⟨rfl, hb⟩; replace hO := hO.call hb; clear hb)
        | ((with_reducible refine Go.Bva.gCnv (s := 25) (t := 9) ?_); refine Go.Bva.step_val (run_value rfl (run_bytes_string _ Tryd.underlying25 Tryd.underlying5 Tryd.underlying9 (hO.rd HR.out))) ?_)
        | (go_at_call 5; refine (GA.out _ (hO.rd HR.out) (HT.out.own hO)).mono ?_; rintro e ww ⟨rfl, hb⟩; replace hO := hO.call hb; clear hb)
        | (go_at_call 6; refine (GB.out _ (hO.rd HR.out)).mono ?_; rintro e ww ⟨rfl, hb⟩; replace hO := hO.call hb; clear hb)
        | (go_at_call 7; refine (GS.out _ (HT.out.own hO)).mono ?_; rintro e ww ⟨a1, m1, c1, rfl, hb, h1⟩; replace hO := hO.call hb; clear hb; have H1 := Lib.hid h1; clear h1)
        | (go_at_call 8; refine (GR.out _).mono ?_; rintro e ww ⟨a2, m2, c2, rfl, hb, h2⟩; have H1' := Lib.hid (H1.out.below hb); clear H1; have H1 := H1'; clear H1'; replace hO := hO.call hb; clear hb; have H2 := Lib.hid h2; clear h2)
        | ((with_reducible refine gEql (t := 24) ?_); refine eqD tk_egW rfl rfl ?_; (with_reducible refine ⟨_, eqWT _, ?_⟩))
        | (go_at_call 9; refine (same_calls _ _ _ _ _ _ Y Y _ H1.out H2.out).mono ?_; rw [decide_eq_true rfl]; rintro e ww ⟨rfl, rfl⟩))
      go_ret
      exact ⟨rfl, hO.below⟩
end Go.Proofs.YtjbbeflmfacmlabDoor
