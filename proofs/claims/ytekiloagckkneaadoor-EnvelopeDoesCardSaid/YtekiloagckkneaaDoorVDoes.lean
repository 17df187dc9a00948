/- The walk of EnvelopeDoes. Printed by wip/gen_vdoes.py. -/
import Derived.Test.YtekiloagckkneaaDoorVc
import Derived.Deep.CutRange
namespace Go.Proofs.YtekiloagckkneaaDoor
open Go.RowKit Go.Own Go.Bv Go.Ord Go.Eq

set_option maxHeartbeats 16000000 in
set_option maxRecDepth 100000 in
theorem vdoes_ok (key : St) (n : BitVec 64) (a1 : Option Addr) (n1 c1 : Nat) (bs : List (BitVec 8)) (m : BitVec 64) (a2 : Option Addr) (n2 c2 : Nat) (ts : List (BitVec 8)) (v : St) (k : BitVec 64) (a3 : Option Addr) (n3 c3 : Nat) (ys : List (BitVec 8)) (s : St) (lg : Int) (w : World)
    (hR1 : Rd w 1 a1 n1 c1 (u8s bs)) (hR2 : Rd w 1 a2 n2 c2 (u8s ts)) (hR3 : Rd w 1 a3 n3 c3 (u8s ys)) (hT : Turns w) (hn : n ≠ 18446744073709551615#64) (hl : n1 ≤ 65536) :
    Calls Tryd.prog 7 #[.agg (ringC key n), .slice a1 n1 c1, .agg (boxC m (.slice a2 n2 c2) v), .agg (boxC k (.slice a3 n3 c3) s), .int .i64 lg] w fun e w' => e = .returned (.bool true) ∧ Below w.heap.size w w' := by
  have hO := Own.start w
  have l1 : bs.length = n1 := by have := hR1.len; rw [u8s_length] at this; omega
  have l2 : ts.length = n2 := by have := hR2.len; rw [u8s_length] at this; omega
  have gS := fun w hR hT => seal_ok key n a1 n1 c1 bs w hR hl hn hT
  have gQ := fun w hR => rseal_ok key n a1 n1 c1 bs w hR hl hn
  obtain ⟨tSl, htS⟩ : ∃ t, key.hide n bs = t := ⟨_, rfl⟩
  obtain ⟨uS, huS⟩ : ∃ u, key.tag n tSl = u := ⟨_, rfl⟩
  obtain ⟨nn1, hnn1⟩ : ∃ x, n + 1#64 = x := ⟨_, rfl⟩
  have lS : tSl.length = n1 := by rw [← htS, St.hide_length, l1]
  rw [htS, huS, hnn1] at gS gQ
  have HLS := Lib.hid lS
  obtain ⟨X1, E1, g1, g1'⟩ := pOpen key m a2 n2 c2 ts l2 v
  obtain ⟨M2, X2, E2, hM2, hX2, g2, g2'⟩ := pBytes m v a2 n2 c2 ts l2
  obtain ⟨nF, MF, XF, uF, EF, hMF, hXF, g3, g3'⟩ := pFrom a1 n1 c1 bs l1
  obtain ⟨X4, E4, g4, g4'⟩ := pStream key m lg
  obtain ⟨uT, ET, g5, g5'⟩ := pTag key m a1 n1 c1 bs
  unfold TxR at g1 g1' g4 g4'
  unfold RowR at g2 g2'
  unfold BoxR at g3 g3'
  obtain ⟨D, hD⟩ : ∃ D, (decide (m = k) && decide (ts = ys) && decide (v = s)) = D := ⟨_, rfl⟩
  have gE := fun w h1 h2 => samebox_calls m k a2 a3 n2 c2 n3 c3 v s ts ys w h1 h2
  have gE' := fun w h1 h2 => rsame_calls m k a2 a3 n2 c2 n3 c3 v s ts ys w h1 h2
  rw [hD] at gE gE'
  have GS := Lib.hid gS
  have GQ := Lib.hid gQ
  have G1 := Lib.hid g1
  have G1' := Lib.hid g1'
  have G2 := Lib.hid g2
  have G2' := Lib.hid g2'
  have G3 := Lib.hid g3
  have G3' := Lib.hid g3'
  have G4 := Lib.hid g4
  have G4' := Lib.hid g4'
  have G5 := Lib.hid g5
  have G5' := Lib.hid g5'
  have GE := Lib.hid gE
  have GE' := Lib.hid gE'
  have HX2 := Lib.hid hX2
  have HXF := Lib.hid hXF
  have HR1 := Lib.hid hR1
  have HR2 := Lib.hid hR2
  have HR3 := Lib.hid hR3
  have HT := Lib.hid hT
  clear hR1 hR2 hR3 hT gS gQ g1 g1' g2 g2' g3 g3' g4 g4' g5 g5' gE gE' hD hX2 hXF l1 l2 lS htS huS hnn1 hn
  generalize hW : w = wn at hO HR1 HR2 HR3 HT ⊢
  clear hW w
  go_enter Tryd.func7, Tryd.ntmps7
  go_upto_region 2 with (first
    | ((with_reducible refine gG ?_); refine wpList_want rfl ?_)
    | ((with_reducible refine gBox (T := 27) ?_); refine bxA hO rfl ?_; clear hO; intro bR ww hO)
    | ((with_reducible refine gBox (T := 31) (x := .tmp 2) ?_); refine bxA hO rfl ?_; clear hO; intro bX ww hO)
    | ((with_reducible refine gBox (T := 31) (x := .tmp 3) ?_); refine bxA hO rfl ?_; clear hO; intro bY ww hO)
    | (go_at_call 9; refine (vlive_calls _ (HT.out.own hO)).mono ?_; rintro e ww ⟨rfl, hb⟩; replace hO := hO.call hb; clear hb))
  replace hO : Own wn _ [.blk bY (.cells (boxC k (.slice a3 n3 c3) s) 31 (0,0)), .blk bX (.cells (boxC m (.slice a2 n2 c2) v) 31 (0,0)), .blk bR (.cells (ringC key n) 27 (0,0))] := hO
  go_cut [89] from 45 to 89 (fun s89 wx => ∃ BB : Bool, s89 = .bool BB ∧ Own wn wx [.blk bY (.cells (boxC k (.slice a3 n3 c3) s) 31 (0,0)), .blk bX (.cells (boxC m (.slice a2 n2 c2) v) 31 (0,0)), .blk bR (.cells (ringC key n) 27 (0,0))])
  case first =>
    clear GS GQ G1 G1' G2 G2' G3 G3' G4 G4' G5 G5' GE GE' HX2 HXF HR1 HR2 HR3 HT hM2 hMF HLS hl
    by_cases q1 : 200 < n1
    · have e1 : decide ((200 : Int) < (n1 : Int)) = true := decide_eq_true (by omega)
      by_cases q2 : n1 ≤ 65536
      · have e2 : decide ((n1 : Int) ≤ 65536) = true := decide_eq_true (by omega)
        clear q1 q2
        go_wp2_with (fail)
        go_meet
        case rel => exact ⟨_, rfl, hO⟩
      · have e2 : decide ((n1 : Int) ≤ 65536) = false := decide_eq_false (by omega)
        by_cases q3 : 70000 < n1
        · have e3 : decide ((70000 : Int) < (n1 : Int)) = true := decide_eq_true (by omega)
          clear q1 q2 q3
          go_wp2_with (fail)
          go_meet
          case rel => exact ⟨_, rfl, hO⟩
        · have e3 : decide ((70000 : Int) < (n1 : Int)) = false := decide_eq_false (by omega)
          by_cases q4 : 200 < n2
          · have e4 : decide ((200 : Int) < (n2 : Int)) = true := decide_eq_true (by omega)
            by_cases q5 : n2 ≤ 65536
            · have e5 : decide ((n2 : Int) ≤ 65536) = true := decide_eq_true (by omega)
              clear q1 q2 q3 q4 q5
              go_wp2_with (first
                | ((with_reducible refine gG (d := some 60) ?_); refine wpList_want rfl ?_)
                | ((with_reducible refine gG (d := some 65) ?_); refine wpList_want rfl ?_)
                | ((with_reducible refine gLoad (d := some 60) ?_); refine ldC hO 1 rfl rfl (tA rfl) rfl ?_)
                | ((with_reducible refine gLoad (d := some 65) ?_); refine ldC hO 1 rfl rfl (tA rfl) rfl ?_))
              go_meet
              case rel => exact ⟨_, rfl, hO⟩
            · have e5 : decide ((n2 : Int) ≤ 65536) = false := decide_eq_false (by omega)
              by_cases q6 : 70000 < n2
              · have e6 : decide ((70000 : Int) < (n2 : Int)) = true := decide_eq_true (by omega)
                clear q1 q2 q3 q4 q5 q6
                go_wp2_with (first
                  | ((with_reducible refine gG (d := some 60) ?_); refine wpList_want rfl ?_)
                  | ((with_reducible refine gG (d := some 65) ?_); refine wpList_want rfl ?_)
                  | ((with_reducible refine gG (d := some 72) ?_); refine wpList_want rfl ?_)
                  | ((with_reducible refine gLoad (d := some 60) ?_); refine ldC hO 1 rfl rfl (tA rfl) rfl ?_)
                  | ((with_reducible refine gLoad (d := some 65) ?_); refine ldC hO 1 rfl rfl (tA rfl) rfl ?_)
                  | ((with_reducible refine gLoad (d := some 72) ?_); refine ldC hO 1 rfl rfl (tA rfl) rfl ?_))
                go_meet
                case rel => exact ⟨_, rfl, hO⟩
              · have e6 : decide ((70000 : Int) < (n2 : Int)) = false := decide_eq_false (by omega)
                by_cases q7 : 200 < n3
                · have e7 : decide ((200 : Int) < (n3 : Int)) = true := decide_eq_true (by omega)
                  clear q1 q2 q3 q4 q5 q6 q7
                  go_wp2_with (first
                    | ((with_reducible refine gG (d := some 60) ?_); refine wpList_want rfl ?_)
                    | ((with_reducible refine gG (d := some 65) ?_); refine wpList_want rfl ?_)
                    | ((with_reducible refine gG (d := some 72) ?_); refine wpList_want rfl ?_)
                    | ((with_reducible refine gG (d := some 78) ?_); refine wpList_want rfl ?_)
                    | ((with_reducible refine gLoad (d := some 60) ?_); refine ldC hO 1 rfl rfl (tA rfl) rfl ?_)
                    | ((with_reducible refine gLoad (d := some 65) ?_); refine ldC hO 1 rfl rfl (tA rfl) rfl ?_)
                    | ((with_reducible refine gLoad (d := some 72) ?_); refine ldC hO 1 rfl rfl (tA rfl) rfl ?_)
                    | ((with_reducible refine gLoad (d := some 78) ?_); refine ldC hO 0 rfl rfl (tA rfl) rfl ?_))
                  go_meet
                  case rel => exact ⟨_, rfl, hO⟩
                · have e7 : decide ((200 : Int) < (n3 : Int)) = false := decide_eq_false (by omega)
                  by_cases q8 : 200 < lg
                  · have e8 : decide ((200 : Int) < lg) = true := decide_eq_true (by omega)
                    by_cases q9 : lg ≤ 65536
                    · have e9 : decide (lg ≤ (65536 : Int)) = true := decide_eq_true (by omega)
                      clear q1 q2 q3 q4 q5 q6 q7 q8 q9
                      go_wp2_with (first
                        | ((with_reducible refine gG (d := some 60) ?_); refine wpList_want rfl ?_)
                        | ((with_reducible refine gG (d := some 65) ?_); refine wpList_want rfl ?_)
                        | ((with_reducible refine gG (d := some 72) ?_); refine wpList_want rfl ?_)
                        | ((with_reducible refine gG (d := some 78) ?_); refine wpList_want rfl ?_)
                        | ((with_reducible refine gLoad (d := some 60) ?_); refine ldC hO 1 rfl rfl (tA rfl) rfl ?_)
                        | ((with_reducible refine gLoad (d := some 65) ?_); refine ldC hO 1 rfl rfl (tA rfl) rfl ?_)
                        | ((with_reducible refine gLoad (d := some 72) ?_); refine ldC hO 1 rfl rfl (tA rfl) rfl ?_)
                        | ((with_reducible refine gLoad (d := some 78) ?_); refine ldC hO 0 rfl rfl (tA rfl) rfl ?_))
                      go_meet
                      case rel => exact ⟨_, rfl, hO⟩
                    · have e9 : decide (lg ≤ (65536 : Int)) = false := decide_eq_false (by omega)
                      clear q1 q2 q3 q4 q5 q6 q7 q8 q9
                      go_wp2_with (first
                        | ((with_reducible refine gG (d := some 60) ?_); refine wpList_want rfl ?_)
                        | ((with_reducible refine gG (d := some 65) ?_); refine wpList_want rfl ?_)
                        | ((with_reducible refine gG (d := some 72) ?_); refine wpList_want rfl ?_)
                        | ((with_reducible refine gG (d := some 78) ?_); refine wpList_want rfl ?_)
                        | ((with_reducible refine gLoad (d := some 60) ?_); refine ldC hO 1 rfl rfl (tA rfl) rfl ?_)
                        | ((with_reducible refine gLoad (d := some 65) ?_); refine ldC hO 1 rfl rfl (tA rfl) rfl ?_)
                        | ((with_reducible refine gLoad (d := some 72) ?_); refine ldC hO 1 rfl rfl (tA rfl) rfl ?_)
                        | ((with_reducible refine gLoad (d := some 78) ?_); refine ldC hO 0 rfl rfl (tA rfl) rfl ?_))
                      go_meet
                      case rel => exact ⟨_, rfl, hO⟩
                  · have e8 : decide ((200 : Int) < lg) = false := decide_eq_false (by omega)
                    clear q1 q2 q3 q4 q5 q6 q7 q8
                    go_wp2_with (first
                      | ((with_reducible refine gG (d := some 60) ?_); refine wpList_want rfl ?_)
                      | ((with_reducible refine gG (d := some 65) ?_); refine wpList_want rfl ?_)
                      | ((with_reducible refine gG (d := some 72) ?_); refine wpList_want rfl ?_)
                      | ((with_reducible refine gG (d := some 78) ?_); refine wpList_want rfl ?_)
                      | ((with_reducible refine gLoad (d := some 60) ?_); refine ldC hO 1 rfl rfl (tA rfl) rfl ?_)
                      | ((with_reducible refine gLoad (d := some 65) ?_); refine ldC hO 1 rfl rfl (tA rfl) rfl ?_)
                      | ((with_reducible refine gLoad (d := some 72) ?_); refine ldC hO 1 rfl rfl (tA rfl) rfl ?_)
                      | ((with_reducible refine gLoad (d := some 78) ?_); refine ldC hO 0 rfl rfl (tA rfl) rfl ?_))
                    go_meet
                    case rel => exact ⟨_, rfl, hO⟩
          · have e4 : decide ((200 : Int) < (n2 : Int)) = false := decide_eq_false (by omega)
            have e6 : decide ((70000 : Int) < (n2 : Int)) = false := decide_eq_false (by omega)
            by_cases q7 : 200 < n3
            · have e7 : decide ((200 : Int) < (n3 : Int)) = true := decide_eq_true (by omega)
              clear q1 q2 q3 q4 q7
              go_wp2_with (first
                | ((with_reducible refine gG (d := some 60) ?_); refine wpList_want rfl ?_)
                | ((with_reducible refine gG (d := some 72) ?_); refine wpList_want rfl ?_)
                | ((with_reducible refine gG (d := some 78) ?_); refine wpList_want rfl ?_)
                | ((with_reducible refine gLoad (d := some 60) ?_); refine ldC hO 1 rfl rfl (tA rfl) rfl ?_)
                | ((with_reducible refine gLoad (d := some 72) ?_); refine ldC hO 1 rfl rfl (tA rfl) rfl ?_)
                | ((with_reducible refine gLoad (d := some 78) ?_); refine ldC hO 0 rfl rfl (tA rfl) rfl ?_))
              go_meet
              case rel => exact ⟨_, rfl, hO⟩
            · have e7 : decide ((200 : Int) < (n3 : Int)) = false := decide_eq_false (by omega)
              by_cases q8 : 200 < lg
              · have e8 : decide ((200 : Int) < lg) = true := decide_eq_true (by omega)
                by_cases q9 : lg ≤ 65536
                · have e9 : decide (lg ≤ (65536 : Int)) = true := decide_eq_true (by omega)
                  clear q1 q2 q3 q4 q7 q8 q9
                  go_wp2_with (first
                    | ((with_reducible refine gG (d := some 60) ?_); refine wpList_want rfl ?_)
                    | ((with_reducible refine gG (d := some 72) ?_); refine wpList_want rfl ?_)
                    | ((with_reducible refine gG (d := some 78) ?_); refine wpList_want rfl ?_)
                    | ((with_reducible refine gLoad (d := some 60) ?_); refine ldC hO 1 rfl rfl (tA rfl) rfl ?_)
                    | ((with_reducible refine gLoad (d := some 72) ?_); refine ldC hO 1 rfl rfl (tA rfl) rfl ?_)
                    | ((with_reducible refine gLoad (d := some 78) ?_); refine ldC hO 0 rfl rfl (tA rfl) rfl ?_))
                  go_meet
                  case rel => exact ⟨_, rfl, hO⟩
                · have e9 : decide (lg ≤ (65536 : Int)) = false := decide_eq_false (by omega)
                  clear q1 q2 q3 q4 q7 q8 q9
                  go_wp2_with (first
                    | ((with_reducible refine gG (d := some 60) ?_); refine wpList_want rfl ?_)
                    | ((with_reducible refine gG (d := some 72) ?_); refine wpList_want rfl ?_)
                    | ((with_reducible refine gG (d := some 78) ?_); refine wpList_want rfl ?_)
                    | ((with_reducible refine gLoad (d := some 60) ?_); refine ldC hO 1 rfl rfl (tA rfl) rfl ?_)
                    | ((with_reducible refine gLoad (d := some 72) ?_); refine ldC hO 1 rfl rfl (tA rfl) rfl ?_)
                    | ((with_reducible refine gLoad (d := some 78) ?_); refine ldC hO 0 rfl rfl (tA rfl) rfl ?_))
                  go_meet
                  case rel => exact ⟨_, rfl, hO⟩
              · have e8 : decide ((200 : Int) < lg) = false := decide_eq_false (by omega)
                clear q1 q2 q3 q4 q7 q8
                go_wp2_with (first
                  | ((with_reducible refine gG (d := some 60) ?_); refine wpList_want rfl ?_)
                  | ((with_reducible refine gG (d := some 72) ?_); refine wpList_want rfl ?_)
                  | ((with_reducible refine gG (d := some 78) ?_); refine wpList_want rfl ?_)
                  | ((with_reducible refine gLoad (d := some 60) ?_); refine ldC hO 1 rfl rfl (tA rfl) rfl ?_)
                  | ((with_reducible refine gLoad (d := some 72) ?_); refine ldC hO 1 rfl rfl (tA rfl) rfl ?_)
                  | ((with_reducible refine gLoad (d := some 78) ?_); refine ldC hO 0 rfl rfl (tA rfl) rfl ?_))
                go_meet
                case rel => exact ⟨_, rfl, hO⟩
    · have e1 : decide ((200 : Int) < (n1 : Int)) = false := decide_eq_false (by omega)
      have e3 : decide ((70000 : Int) < (n1 : Int)) = false := decide_eq_false (by omega)
      by_cases q4 : 200 < n2
      · have e4 : decide ((200 : Int) < (n2 : Int)) = true := decide_eq_true (by omega)
        by_cases q5 : n2 ≤ 65536
        · have e5 : decide ((n2 : Int) ≤ 65536) = true := decide_eq_true (by omega)
          clear q1 q4 q5
          go_wp2_with (first
            | ((with_reducible refine gG (d := some 60) ?_); refine wpList_want rfl ?_)
            | ((with_reducible refine gG (d := some 65) ?_); refine wpList_want rfl ?_)
            | ((with_reducible refine gLoad (d := some 60) ?_); refine ldC hO 1 rfl rfl (tA rfl) rfl ?_)
            | ((with_reducible refine gLoad (d := some 65) ?_); refine ldC hO 1 rfl rfl (tA rfl) rfl ?_))
          go_meet
          case rel => exact ⟨_, rfl, hO⟩
        · have e5 : decide ((n2 : Int) ≤ 65536) = false := decide_eq_false (by omega)
          by_cases q6 : 70000 < n2
          · have e6 : decide ((70000 : Int) < (n2 : Int)) = true := decide_eq_true (by omega)
            clear q1 q4 q5 q6
            go_wp2_with (first
              | ((with_reducible refine gG (d := some 60) ?_); refine wpList_want rfl ?_)
              | ((with_reducible refine gG (d := some 65) ?_); refine wpList_want rfl ?_)
              | ((with_reducible refine gG (d := some 72) ?_); refine wpList_want rfl ?_)
              | ((with_reducible refine gLoad (d := some 60) ?_); refine ldC hO 1 rfl rfl (tA rfl) rfl ?_)
              | ((with_reducible refine gLoad (d := some 65) ?_); refine ldC hO 1 rfl rfl (tA rfl) rfl ?_)
              | ((with_reducible refine gLoad (d := some 72) ?_); refine ldC hO 1 rfl rfl (tA rfl) rfl ?_))
            go_meet
            case rel => exact ⟨_, rfl, hO⟩
          · have e6 : decide ((70000 : Int) < (n2 : Int)) = false := decide_eq_false (by omega)
            by_cases q7 : 200 < n3
            · have e7 : decide ((200 : Int) < (n3 : Int)) = true := decide_eq_true (by omega)
              clear q1 q4 q5 q6 q7
              go_wp2_with (first
                | ((with_reducible refine gG (d := some 60) ?_); refine wpList_want rfl ?_)
                | ((with_reducible refine gG (d := some 65) ?_); refine wpList_want rfl ?_)
                | ((with_reducible refine gG (d := some 72) ?_); refine wpList_want rfl ?_)
                | ((with_reducible refine gG (d := some 78) ?_); refine wpList_want rfl ?_)
                | ((with_reducible refine gLoad (d := some 60) ?_); refine ldC hO 1 rfl rfl (tA rfl) rfl ?_)
                | ((with_reducible refine gLoad (d := some 65) ?_); refine ldC hO 1 rfl rfl (tA rfl) rfl ?_)
                | ((with_reducible refine gLoad (d := some 72) ?_); refine ldC hO 1 rfl rfl (tA rfl) rfl ?_)
                | ((with_reducible refine gLoad (d := some 78) ?_); refine ldC hO 0 rfl rfl (tA rfl) rfl ?_))
              go_meet
              case rel => exact ⟨_, rfl, hO⟩
            · have e7 : decide ((200 : Int) < (n3 : Int)) = false := decide_eq_false (by omega)
              by_cases q8 : 200 < lg
              · have e8 : decide ((200 : Int) < lg) = true := decide_eq_true (by omega)
                by_cases q9 : lg ≤ 65536
                · have e9 : decide (lg ≤ (65536 : Int)) = true := decide_eq_true (by omega)
                  clear q1 q4 q5 q6 q7 q8 q9
                  go_wp2_with (first
                    | ((with_reducible refine gG (d := some 60) ?_); refine wpList_want rfl ?_)
                    | ((with_reducible refine gG (d := some 65) ?_); refine wpList_want rfl ?_)
                    | ((with_reducible refine gG (d := some 72) ?_); refine wpList_want rfl ?_)
                    | ((with_reducible refine gG (d := some 78) ?_); refine wpList_want rfl ?_)
                    | ((with_reducible refine gLoad (d := some 60) ?_); refine ldC hO 1 rfl rfl (tA rfl) rfl ?_)
                    | ((with_reducible refine gLoad (d := some 65) ?_); refine ldC hO 1 rfl rfl (tA rfl) rfl ?_)
                    | ((with_reducible refine gLoad (d := some 72) ?_); refine ldC hO 1 rfl rfl (tA rfl) rfl ?_)
                    | ((with_reducible refine gLoad (d := some 78) ?_); refine ldC hO 0 rfl rfl (tA rfl) rfl ?_))
                  go_meet
                  case rel => exact ⟨_, rfl, hO⟩
                · have e9 : decide (lg ≤ (65536 : Int)) = false := decide_eq_false (by omega)
                  clear q1 q4 q5 q6 q7 q8 q9
                  go_wp2_with (first
                    | ((with_reducible refine gG (d := some 60) ?_); refine wpList_want rfl ?_)
                    | ((with_reducible refine gG (d := some 65) ?_); refine wpList_want rfl ?_)
                    | ((with_reducible refine gG (d := some 72) ?_); refine wpList_want rfl ?_)
                    | ((with_reducible refine gG (d := some 78) ?_); refine wpList_want rfl ?_)
                    | ((with_reducible refine gLoad (d := some 60) ?_); refine ldC hO 1 rfl rfl (tA rfl) rfl ?_)
                    | ((with_reducible refine gLoad (d := some 65) ?_); refine ldC hO 1 rfl rfl (tA rfl) rfl ?_)
                    | ((with_reducible refine gLoad (d := some 72) ?_); refine ldC hO 1 rfl rfl (tA rfl) rfl ?_)
                    | ((with_reducible refine gLoad (d := some 78) ?_); refine ldC hO 0 rfl rfl (tA rfl) rfl ?_))
                  go_meet
                  case rel => exact ⟨_, rfl, hO⟩
              · have e8 : decide ((200 : Int) < lg) = false := decide_eq_false (by omega)
                clear q1 q4 q5 q6 q7 q8
                go_wp2_with (first
                  | ((with_reducible refine gG (d := some 60) ?_); refine wpList_want rfl ?_)
                  | ((with_reducible refine gG (d := some 65) ?_); refine wpList_want rfl ?_)
                  | ((with_reducible refine gG (d := some 72) ?_); refine wpList_want rfl ?_)
                  | ((with_reducible refine gG (d := some 78) ?_); refine wpList_want rfl ?_)
                  | ((with_reducible refine gLoad (d := some 60) ?_); refine ldC hO 1 rfl rfl (tA rfl) rfl ?_)
                  | ((with_reducible refine gLoad (d := some 65) ?_); refine ldC hO 1 rfl rfl (tA rfl) rfl ?_)
                  | ((with_reducible refine gLoad (d := some 72) ?_); refine ldC hO 1 rfl rfl (tA rfl) rfl ?_)
                  | ((with_reducible refine gLoad (d := some 78) ?_); refine ldC hO 0 rfl rfl (tA rfl) rfl ?_))
                go_meet
                case rel => exact ⟨_, rfl, hO⟩
      · have e4 : decide ((200 : Int) < (n2 : Int)) = false := decide_eq_false (by omega)
        have e6 : decide ((70000 : Int) < (n2 : Int)) = false := decide_eq_false (by omega)
        by_cases q7 : 200 < n3
        · have e7 : decide ((200 : Int) < (n3 : Int)) = true := decide_eq_true (by omega)
          clear q1 q4 q7
          go_wp2_with (first
            | ((with_reducible refine gG (d := some 60) ?_); refine wpList_want rfl ?_)
            | ((with_reducible refine gG (d := some 72) ?_); refine wpList_want rfl ?_)
            | ((with_reducible refine gG (d := some 78) ?_); refine wpList_want rfl ?_)
            | ((with_reducible refine gLoad (d := some 60) ?_); refine ldC hO 1 rfl rfl (tA rfl) rfl ?_)
            | ((with_reducible refine gLoad (d := some 72) ?_); refine ldC hO 1 rfl rfl (tA rfl) rfl ?_)
            | ((with_reducible refine gLoad (d := some 78) ?_); refine ldC hO 0 rfl rfl (tA rfl) rfl ?_))
          go_meet
          case rel => exact ⟨_, rfl, hO⟩
        · have e7 : decide ((200 : Int) < (n3 : Int)) = false := decide_eq_false (by omega)
          by_cases q8 : 200 < lg
          · have e8 : decide ((200 : Int) < lg) = true := decide_eq_true (by omega)
            by_cases q9 : lg ≤ 65536
            · have e9 : decide (lg ≤ (65536 : Int)) = true := decide_eq_true (by omega)
              clear q1 q4 q7 q8 q9
              go_wp2_with (first
                | ((with_reducible refine gG (d := some 60) ?_); refine wpList_want rfl ?_)
                | ((with_reducible refine gG (d := some 72) ?_); refine wpList_want rfl ?_)
                | ((with_reducible refine gG (d := some 78) ?_); refine wpList_want rfl ?_)
                | ((with_reducible refine gLoad (d := some 60) ?_); refine ldC hO 1 rfl rfl (tA rfl) rfl ?_)
                | ((with_reducible refine gLoad (d := some 72) ?_); refine ldC hO 1 rfl rfl (tA rfl) rfl ?_)
                | ((with_reducible refine gLoad (d := some 78) ?_); refine ldC hO 0 rfl rfl (tA rfl) rfl ?_))
              go_meet
              case rel => exact ⟨_, rfl, hO⟩
            · have e9 : decide (lg ≤ (65536 : Int)) = false := decide_eq_false (by omega)
              clear q1 q4 q7 q8 q9
              go_wp2_with (first
                | ((with_reducible refine gG (d := some 60) ?_); refine wpList_want rfl ?_)
                | ((with_reducible refine gG (d := some 72) ?_); refine wpList_want rfl ?_)
                | ((with_reducible refine gG (d := some 78) ?_); refine wpList_want rfl ?_)
                | ((with_reducible refine gLoad (d := some 60) ?_); refine ldC hO 1 rfl rfl (tA rfl) rfl ?_)
                | ((with_reducible refine gLoad (d := some 72) ?_); refine ldC hO 1 rfl rfl (tA rfl) rfl ?_)
                | ((with_reducible refine gLoad (d := some 78) ?_); refine ldC hO 0 rfl rfl (tA rfl) rfl ?_))
              go_meet
              case rel => exact ⟨_, rfl, hO⟩
          · have e8 : decide ((200 : Int) < lg) = false := decide_eq_false (by omega)
            clear q1 q4 q7 q8
            go_wp2_with (first
              | ((with_reducible refine gG (d := some 60) ?_); refine wpList_want rfl ?_)
              | ((with_reducible refine gG (d := some 72) ?_); refine wpList_want rfl ?_)
              | ((with_reducible refine gG (d := some 78) ?_); refine wpList_want rfl ?_)
              | ((with_reducible refine gLoad (d := some 60) ?_); refine ldC hO 1 rfl rfl (tA rfl) rfl ?_)
              | ((with_reducible refine gLoad (d := some 72) ?_); refine ldC hO 1 rfl rfl (tA rfl) rfl ?_)
              | ((with_reducible refine gLoad (d := some 78) ?_); refine ldC hO 0 rfl rfl (tA rfl) rfl ?_))
            go_meet
            case rel => exact ⟨_, rfl, hO⟩
  case rest =>
    obtain ⟨BB, rfl, hO1⟩ := hcut
    clear hO
    have hO := hO1
    clear hO1
    cases BB
    rotate_left
    · go_wp2_with (first | ((with_reducible refine gG ?_); refine wpList_want rfl ?_))
      go_ret
      exact ⟨rfl, hO.below⟩
    · go_upto_region 18 with (first
      | ((with_reducible refine gG ?_); refine wpList_want rfl ?_)
      | ((with_reducible refine Go.Bva.gCnv (d := some 92) (s := 28) (t := 9) ?_); refine Go.Bva.step_val (run_value rfl (run_bytes_string _ Tryd.underlying28 Tryd.underlying5 Tryd.underlying9 (hO.rd HR1.out))) ?_)
      | ((with_reducible refine Go.Bva.gCnv (d := some 95) (s := 28) (t := 9) ?_); refine Go.Bva.step_val (run_value rfl (run_bytes_string _ Tryd.underlying28 Tryd.underlying5 Tryd.underlying9 (hO.rd HR2.out))) ?_)
      | ((with_reducible refine gLoad (d := some 94) ?_); refine ldC hO 1 rfl rfl (tA rfl) rfl ?_)
      | ((with_reducible refine gLoad (d := some 97) ?_); refine ldX hO 2 rfl rfl (tA rfl) (irs _ _) ?_)
      | (go_at_call 10; refine (GS.out _ (hO.rd HR1.out) (HT.out.own hO)).mono ?_; rintro e ww ⟨gS, CS, rfl, hb, hh, hCS⟩; replace hO := hO.add hb hh; clear hb hh; have HCS := Lib.hid hCS; clear hCS)
      | ((with_reducible refine gAlloc (d := some 14) ?_); refine own_alloc hO _ _ ibz ?_; clear hO; intro b14 ww hO)
      | ((with_reducible refine gAlloc (d := some 15) ?_); refine own_alloc hO _ _ irz ?_; clear hO; intro b15 ww hO)
      | ((with_reducible refine gStore (x := .tmp 14) ?_); refine stX hO 1 rfl rfl rfl rfl rfl (ibs _ _ _) ?_; clear hO; intro ww hO)
      | ((with_reducible refine gStore (x := .tmp 15) ?_); refine stX hO 0 rfl rfl rfl rfl rfl (irs _ _) ?_; clear hO; intro ww hO)
      | ((with_reducible refine gLoad (d := some 104) ?_); refine ldX hO 5 rfl rfl (tA rfl) (irs _ _) ?_)
      | (go_at_call 16; refine (GQ.out _ (hO.rd HR1.out)).mono ?_; rintro e ww ⟨aQ, cQ, rfl, hb, hr⟩; replace hO := hO.addRow hb hr; clear hb hr)
      | ((with_reducible refine gAlloc (d := some 17) ?_); refine own_alloc hO _ _ ibz ?_; clear hO; intro b17 ww hO)
      | ((with_reducible refine gAlloc (d := some 18) ?_); refine own_alloc hO _ _ irz ?_; clear hO; intro b18 ww hO)
      | ((with_reducible refine gStore (x := .tmp 17) ?_); refine stX hO 1 rfl rfl rfl rfl rfl (ibs _ _ _) ?_; clear hO; intro ww hO)
      | ((with_reducible refine gStore (x := .tmp 18) ?_); refine stX hO 0 rfl rfl rfl rfl rfl (irs _ _) ?_; clear hO; intro ww hO)
      | ((with_reducible refine gLoad (d := some 112) ?_); refine ldA hO 8 key.C rfl rfl (tA rfl) (tS rfl) rfl ?_)
      | ((with_reducible refine gLoad (d := some 113) ?_); refine ldX hO 7 rfl rfl (tA rfl) (ibs _ _ _) ?_)
      | (go_at_call 11; refine (G1.out _ (hO.rd HR2.out) (HT.out.own hO)).mono ?_; rintro e ww ⟨ar1, mr1, cr1, r1, rfl, hb, hh, hg1⟩; replace hO := hO.add hb hh; clear hb hh; have HG1 := Lib.hid hg1; clear hg1)
      | ((with_reducible refine gLoad (d := some 119) ?_); refine ldA hO 9 key.C rfl rfl (tA rfl) (tS rfl) rfl ?_)
      | ((with_reducible refine gLoad (d := some 120) ?_); refine ldX hO 8 rfl rfl (tA rfl) (ibs _ _ _) ?_)
      | (go_at_call 17; refine (G1'.out _ (hO.rd HR2.out)).mono ?_; rintro e ww ⟨ar2, mr2, cr2, r2, rfl, hb, hh, hg2⟩; replace hO := hO.add hb hh; clear hb hh; have HG2 := Lib.hid hg2; clear hg2)
      | ((with_reducible refine gLoad (d := some 125) ?_); refine ldX hO 9 rfl rfl (tA rfl) (ibs _ _ _) ?_)
      | (go_at_call 18; refine (G2.out _ (hO.rd HR2.out)).mono ?_; rintro e ww ⟨aB1, cB1, rfl, hb, hr⟩; replace hO := hO.addRow hb hr; clear hb hr)
      | ((with_reducible refine gLoad (d := some 130) ?_); refine ldX hO 10 rfl rfl (tA rfl) (ibs _ _ _) ?_)
      | (go_at_call 19; refine (G2'.out _ (hO.rd HR2.out)).mono ?_; rintro e ww ⟨aB2, cB2, rfl, hb, hr⟩; replace hO := hO.addRow hb hr; clear hb hr)
      | (go_at_call 20; refine (G3.out _ (hO.rd HR1.out)).mono ?_; rintro e ww ⟨aF1, cF1, rfl, hb, hr⟩; replace hO := hO.addRow hb hr; clear hb hr)
      | ((with_reducible refine gAlloc (d := some 28) ?_); refine own_alloc hO _ _ ibz ?_; clear hO; intro b28 ww hO)
      | ((with_reducible refine gStore (x := .tmp 28) ?_); refine stX hO 0 rfl rfl rfl rfl rfl (ibs _ _ _) ?_; clear hO; intro ww hO)
      | (go_at_call 21; refine (G3'.out _ (hO.rd HR1.out)).mono ?_; rintro e ww ⟨aF2, cF2, rfl, hb, hr⟩; replace hO := hO.addRow hb hr; clear hb hr)
      | ((with_reducible refine gAlloc (d := some 30) ?_); refine own_alloc hO _ _ ibz ?_; clear hO; intro b30 ww hO)
      | ((with_reducible refine gStore (x := .tmp 30) ?_); refine stX hO 0 rfl rfl rfl rfl rfl (ibs _ _ _) ?_; clear hO; intro ww hO)
      | ((with_reducible refine gLoad (d := some 146) ?_); refine ldA hO 16 key.C rfl rfl (tA rfl) (tS rfl) rfl ?_)
      | ((with_reducible refine gLoad (d := some 148) ?_); refine ldC hO 15 rfl rfl (tA rfl) rfl ?_)
      | (go_at_call 14; refine (G4.out _ (HT.out.own hO)).mono ?_; rintro e ww ⟨ar3, mr3, cr3, r3, rfl, hb, hh, hg3⟩; replace hO := hO.add hb hh; clear hb hh; have HG3 := Lib.hid hg3; clear hg3)
      | ((with_reducible refine gLoad (d := some 155) ?_); refine ldA hO 17 key.C rfl rfl (tA rfl) (tS rfl) rfl ?_)
      | ((with_reducible refine gLoad (d := some 157) ?_); refine ldC hO 16 rfl rfl (tA rfl) rfl ?_)
      | (go_at_call 22; refine (G4'.out _).mono ?_; rintro e ww ⟨ar4, mr4, cr4, r4, rfl, hb, hh, hg4⟩; replace hO := hO.add hb hh; clear hb hh; have HG4 := Lib.hid hg4; clear hg4)
      | ((with_reducible refine gLoad (d := some 164) ?_); refine ldA hO 18 key.C rfl rfl (tA rfl) (tS rfl) rfl ?_)
      | ((with_reducible refine gLoad (d := some 166) ?_); refine ldC hO 17 rfl rfl (tA rfl) rfl ?_)
      | (go_at_call 12; refine (G5.out _ (hO.rd HR1.out) (HT.out.own hO)).mono ?_; rintro e ww ⟨rfl, hb⟩; replace hO := hO.call hb; clear hb)
      | ((with_reducible refine gAlloc (d := some 36) ?_); refine own_alloc hO _ _ iwz ?_; clear hO; intro b36 ww hO)
      | ((with_reducible refine gStore (x := .tmp 36) ?_); refine stX hO 0 rfl rfl rfl rfl rfl (tS rfl) ?_; clear hO; intro ww hO)
      | ((with_reducible refine gLoad (d := some 173) ?_); refine ldA hO 19 key.C rfl rfl (tA rfl) (tS rfl) rfl ?_)
      | ((with_reducible refine gLoad (d := some 175) ?_); refine ldC hO 18 rfl rfl (tA rfl) rfl ?_)
      | (go_at_call 23; refine (G5'.out _ (hO.rd HR1.out)).mono ?_; rintro e ww ⟨rfl, hb⟩; replace hO := hO.call hb; clear hb)
      | ((with_reducible refine gAlloc (d := some 38) ?_); refine own_alloc hO _ _ iwz ?_; clear hO; intro b38 ww hO)
      | ((with_reducible refine gStore (x := .tmp 38) ?_); refine stX hO 0 rfl rfl rfl rfl rfl (tS rfl) ?_; clear hO; intro ww hO))
      replace hO : Own wn _ [.blk b38 (.cells (uT.C) 24 (0,0)), .blk b36 (.cells (uT.C) 24 (0,0)), r4, r3, .blk b30 (.cells (boxC nF (.slice aF2 MF cF2) uF) 31 (0,0)), .sl 5 1 (.slice aF2 MF cF2) MF (u8s XF), .blk b28 (.cells (boxC nF (.slice aF1 MF cF1) uF) 31 (0,0)), .sl 5 1 (.slice aF1 MF cF1) MF (u8s XF), .sl 5 1 (.slice aB2 M2 cB2) M2 (u8s X2), .sl 5 1 (.slice aB1 M2 cB1) M2 (u8s X2), r2, r1, .blk b18 (.cells (ringC key nn1) 27 (0,0)), .blk b17 (.cells (boxC n (.slice aQ n1 cQ) uS) 31 (0,0)), .sl 5 1 (.slice aQ n1 cQ) n1 (u8s tSl), .blk b15 (.cells (ringC key nn1) 27 (0,0)), .blk b14 (.cells (boxC n (.slice (some ⟨gS, 0, none⟩) n1 n1) uS) 31 (0,0)), .blk gS (.cells CS 5 (0,0)), .blk bY (.cells (boxC k (.slice a3 n3 c3) s) 31 (0,0)), .blk bX (.cells (boxC m (.slice a2 n2 c2) v) 31 (0,0)), .blk bR (.cells (ringC key n) 27 (0,0))] := hO
      refine wp_region_textS (fun w' => Own wn w' [.blk b38 (.cells (uT.C) 24 (0,0)), .blk b36 (.cells (uT.C) 24 (0,0)), r4, r3, .blk b30 (.cells (boxC nF (.slice aF2 MF cF2) uF) 31 (0,0)), .sl 5 1 (.slice aF2 MF cF2) MF (u8s XF), .blk b28 (.cells (boxC nF (.slice aF1 MF cF1) uF) 31 (0,0)), .sl 5 1 (.slice aF1 MF cF1) MF (u8s XF), .sl 5 1 (.slice aB2 M2 cB2) M2 (u8s X2), .sl 5 1 (.slice aB1 M2 cB1) M2 (u8s X2), r2, r1, .blk b18 (.cells (ringC key nn1) 27 (0,0)), .blk b17 (.cells (boxC n (.slice aQ n1 cQ) uS) 31 (0,0)), .sl 5 1 (.slice aQ n1 cQ) n1 (u8s tSl), .blk b15 (.cells (ringC key nn1) 27 (0,0)), .blk b14 (.cells (boxC n (.slice (some ⟨gS, 0, none⟩) n1 n1) uS) 31 (0,0)), .blk gS (.cells CS 5 (0,0)), .blk bY (.cells (boxC k (.slice a3 n3 c3) s) 31 (0,0)), .blk bX (.cells (boxC m (.slice a2 n2 c2) v) 31 (0,0)), .blk bR (.cells (ringC key n) 27 (0,0))]) (fun op => match op with | .load _ _ => true | .binOp _ 24 _ _ _ => true | .binOp _ 27 _ _ _ => true | _ => false) (by kernel_rfl) (by kernel_rfl) hO.drew ?_
      dsimp only [List.append]
      replace hO := hO.drew
      generalize World.drew _ = wd at hO ⊢
      go_wp2_with (first
        | ((with_reducible refine gIL (d := some 180) ?_); refine wpI_ldS (fun w' hS => hS.blk 16 rfl) rfl rfl (tA rfl) (ibs _ _ _) ?_; first | (refine wpI_act (by simp only [Act.put, List.setIfInBounds_toArray, List.set_cons_succ, List.set_cons_zero]; rfl) ?_) | skip)
        | ((with_reducible refine gIL (d := some 181) ?_); refine wpI_ldS (fun w' hS => hS.blk 13 rfl) rfl rfl (tA rfl) (ibs _ _ _) ?_; first | (refine wpI_act (by simp only [Act.put, List.setIfInBounds_toArray, List.set_cons_succ, List.set_cons_zero]; rfl) ?_) | skip)
        | ((with_reducible refine gIL (d := some 184) ?_); refine wpI_ldS (fun w' hS => hS.blk 15 rfl) rfl rfl (tA rfl) (irs _ _) ?_; first | (refine wpI_act (by simp only [Act.put, List.setIfInBounds_toArray, List.set_cons_succ, List.set_cons_zero]; rfl) ?_) | skip)
        | ((with_reducible refine gIL (d := some 185) ?_); refine wpI_ldS (fun w' hS => hS.blk 12 rfl) rfl rfl (tA rfl) (irs _ _) ?_; first | (refine wpI_act (by simp only [Act.put, List.setIfInBounds_toArray, List.set_cons_succ, List.set_cons_zero]; rfl) ?_) | skip)
        | ((with_reducible refine gIL (d := some 214) ?_); refine wpI_ldS (fun w' hS => hS.blk 6 rfl) rfl rfl (tA rfl) (ibs _ _ _) ?_; first | (refine wpI_act (by simp only [Act.put, List.setIfInBounds_toArray, List.set_cons_succ, List.set_cons_zero]; rfl) ?_) | skip)
        | ((with_reducible refine gIL (d := some 215) ?_); refine wpI_ldS (fun w' hS => hS.blk 4 rfl) rfl rfl (tA rfl) (ibs _ _ _) ?_; first | (refine wpI_act (by simp only [Act.put, List.setIfInBounds_toArray, List.set_cons_succ, List.set_cons_zero]; rfl) ?_) | skip)
        | ((with_reducible refine gIL (d := some 234) ?_); refine wpI_ldS (fun w' hS => hS.blk 1 rfl) rfl rfl (tA rfl) (tS rfl) ?_; first | (refine wpI_act (by simp only [Act.put, List.setIfInBounds_toArray, List.set_cons_succ, List.set_cons_zero]; rfl) ?_) | skip)
        | ((with_reducible refine gIL (d := some 235) ?_); refine wpI_ldS (fun w' hS => hS.blk 0 rfl) rfl rfl (tA rfl) (tS rfl) ?_; first | (refine wpI_act (by simp only [Act.put, List.setIfInBounds_toArray, List.set_cons_succ, List.set_cons_zero]; rfl) ?_) | skip)
        | ((with_reducible refine gIL (d := some 244) ?_); refine wpI_ldS (fun w' hS => hS.blk 19 rfl) rfl rfl (tA rfl) (ibs _ _ _) ?_; first | (refine wpI_act (by simp only [Act.put, List.setIfInBounds_toArray, List.set_cons_succ, List.set_cons_zero]; rfl) ?_) | skip)
        | ((with_reducible refine gIL (d := some 245) ?_); refine wpI_ldS (fun w' hS => hS.blk 18 rfl) rfl rfl (tA rfl) (ibs _ _ _) ?_; first | (refine wpI_act (by simp only [Act.put, List.setIfInBounds_toArray, List.set_cons_succ, List.set_cons_zero]; rfl) ?_) | skip)
        | ((with_reducible refine gIL (d := some 247) ?_); refine wpI_ldS (fun w' hS => hS.blk 19 rfl) rfl rfl (tA rfl) (ibs _ _ _) ?_; first | (refine wpI_act (by simp only [Act.put, List.setIfInBounds_toArray, List.set_cons_succ, List.set_cons_zero]; rfl) ?_) | skip)
        | ((with_reducible refine gIL (d := some 248) ?_); refine wpI_ldS (fun w' hS => hS.blk 18 rfl) rfl rfl (tA rfl) (ibs _ _ _) ?_; first | (refine wpI_act (by simp only [Act.put, List.setIfInBounds_toArray, List.set_cons_succ, List.set_cons_zero]; rfl) ?_) | skip)
        | ((with_reducible refine gIE (t := 24) ?_); refine wpI_eqD v_egW v_flW rfl rfl rfl ?_; (with_reducible refine ⟨_, eqWT _, ?_⟩); first | (refine wpI_act (by simp only [Act.put, List.setIfInBounds_toArray, List.set_cons_succ, List.set_cons_zero]; rfl) ?_) | skip)
        | ((with_reducible refine gIE (t := 27) ?_); refine wpI_eqD v_egR v_flR rfl rfl rfl ?_; (with_reducible refine ⟨_, eqRT _ _, ?_⟩); first | (refine wpI_act (by simp only [Act.put, List.setIfInBounds_toArray, List.set_cons_succ, List.set_cons_zero]; rfl) ?_) | skip)
        | (go_at_call 24; (with_reducible refine gCall #[.agg (boxC n (.slice (some ⟨gS, 0, none⟩) n1 n1) uS), .agg (boxC n (.slice aQ n1 cQ) uS)] ?_); refine (rsame_refl _ _ _ _ _ _ _ _ _ (gives_blk HCS.out HLS.out (by simp [maxLen]; omega) _ _ (hO.at 17 rfl)) (hO.rdAt 14 rfl)).mono ?_; rintro e ww ⟨rfl, hb⟩; replace hO := hO.call hb; clear hb)
        | (go_at_call 24; (with_reducible refine gCall #[.agg (boxC nF (.slice aF1 MF cF1) uF), .agg (boxC nF (.slice aF2 MF cF2) uF)] ?_); refine (rsame_refl _ _ _ _ _ _ _ _ _ (hO.rdAt 7 rfl) (hO.rdAt 5 rfl)).mono ?_; rintro e ww ⟨rfl, hb⟩; replace hO := hO.call hb; clear hb)
        | (go_at_call 24; (with_reducible refine gCall #[.agg (boxC m (.slice a2 n2 c2) v), .agg (boxC k (.slice a3 n3 c3) s)] ?_); refine (GE'.out _ (hO.rd HR2.out) (hO.rd HR3.out)).mono ?_; rintro e ww ⟨rfl, hb⟩; replace hO := hO.call hb; clear hb)
        | (go_at_call 15; refine (GE.out _ (hO.rd HR2.out) (hO.rd HR3.out)).mono ?_; rintro e ww ⟨rfl, hb⟩; replace hO := hO.call hb; clear hb)
        | (go_at_call 13; (with_reducible refine gCall #[.slice ar1 mr1 cr1, .slice ar2 mr2 cr2] ?_); refine (same_refl _ _ _ _ _ _ _ _ (HG1.out _ _ (hO.at 11 rfl)) (HG2.out _ _ (hO.at 10 rfl))).mono ?_; rintro e ww ⟨rfl, rfl⟩)
        | (go_at_call 13; (with_reducible refine gCall #[.slice aB1 M2 cB1, .slice aB2 M2 cB2] ?_); refine (same_refl _ _ _ _ _ _ _ _ (hO.rdAt 9 rfl) (hO.rdAt 8 rfl)).mono ?_; rintro e ww ⟨rfl, rfl⟩)
        | (go_at_call 13; (with_reducible refine gCall #[.slice ar3 mr3 cr3, .slice ar4 mr4 cr4] ?_); refine (same_refl _ _ _ _ _ _ _ _ (HG3.out _ _ (hO.at 3 rfl)) (HG4.out _ _ (hO.at 2 rfl))).mono ?_; rintro e ww ⟨rfl, rfl⟩)
        | ((with_reducible refine gI ?_); refine wpI_step rfl rfl (by kernel_rfl) ?_; intro K hK; have HK := Lib.hid hK; clear hK) | ((with_reducible refine gI ?_); first | refine wpI_skip rfl ?_ | refine wpI_want rfl ?_) | ((with_reducible refine gOnlyK HK.out ?_ ?_); exact hO; clear HK K; first | (refine wpI_act (by simp only [Act.put, List.setIfInBounds_toArray, List.set_cons_succ, List.set_cons_zero]; rfl) ?_) | skip) | (with_reducible refine wpI_nil ?_)
        | ((with_reducible refine gLoad (d := some 253) ?_); refine ldC hO 16 rfl rfl (tA rfl) rfl ?_))
      have hO2 : Own wn _ [.blk b28 (.cells (boxC nF (.slice aF1 MF cF1) uF) 31 (0,0)), .sl 5 1 (.slice aF1 MF cF1) MF (u8s XF), .sl 5 1 (.slice aB1 M2 cB1) M2 (u8s X2), .blk b14 (.cells (boxC n (.slice (some ⟨gS, 0, none⟩) n1 n1) uS) 31 (0,0)), .blk gS (.cells CS 5 (0,0)), .blk bX (.cells (boxC m (.slice a2 n2 c2) v) 31 (0,0))] := hO.sub (List.Sublist.cons _ (List.Sublist.cons _ (List.Sublist.cons _ (List.Sublist.cons _ (List.Sublist.cons _ (List.Sublist.cons _ (List.Sublist.cons_cons _ (List.Sublist.cons_cons _ (List.Sublist.cons _ (List.Sublist.cons_cons _ (List.Sublist.cons _ (List.Sublist.cons _ (List.Sublist.cons _ (List.Sublist.cons _ (List.Sublist.cons _ (List.Sublist.cons _ (List.Sublist.cons_cons _ (List.Sublist.cons_cons _ (List.Sublist.cons _ (List.Sublist.cons_cons _ (List.nil_sublist _)))))))))))))))))))))
      clear hO GS GQ G1 G1' G2 G2' G3 G3' G4 G4' G5 G5' GE GE' HG1 HG2 HG3 HG4
      have hO := hO2
      clear hO2
      go_loopg [255] n1 (fun mm c wr => ∃ (k1 : Nat) (C1 : Array Value) (Z1 : List (BitVec 8)), mm = n1 - k1 ∧ k1 ≤ n1 ∧ c = .int .i64 (k1 : Int) ∧ Hid (Z1.length = n1) ∧ Hid (C1.toList.take n1 = u8s Z1) ∧ Own wn wr [.blk b28 (.cells (boxC nF (.slice aF1 MF cF1) uF) 31 (0,0)), .sl 5 1 (.slice aF1 MF cF1) MF (u8s XF), .sl 5 1 (.slice aB1 M2 cB1) M2 (u8s X2), .blk b14 (.cells (boxC n (.slice (some ⟨gS, 0, none⟩) n1 n1) uS) 31 (0,0)), .blk gS (.cells C1 5 (0,0)), .blk bX (.cells (boxC m (.slice a2 n2 c2) v) 31 (0,0))])
      case atStart => exact ⟨0, CS, tSl, rfl, by omega, rfl, HLS.out, HCS.out, hO⟩
      case round =>
        obtain ⟨k1, C1, Z1, rfl, hk1, rfl, HZ1, HC1, hO1⟩ := hrel
        clear hO HCS HLS
        have hO := hO1
        clear hO1
        by_cases hlt : k1 < n1
        · have d1 : decide ((k1 : Int) < (n1 : Int)) = true := decide_eq_true (by omega)
          obtain ⟨hv, hsz⟩ := inc_get HZ1.out HC1.out hlt
          generalize Z1[k1]'(by rw [HZ1.out]; exact hlt) = z at hv
          have HV := Lib.hid hv
          have e := add1_u8 z
          generalize z + 1#8 = z' at e
          clear hv
          go_wp2_with (first
            | ((with_reducible refine gLoad (d := some 259) ?_); refine ldC hO 3 rfl rfl (tA rfl) rfl ?_)
            | ((with_reducible refine gLoad (d := some 262) ?_); refine ldC hO 4 rfl rfl (tA rfl) HV.out ?_)
            | ((with_reducible refine gStore ?_); refine stC hO 4 rfl rfl rfl hsz rfl (tS rfl) ?_; clear hO; intro ww hO))
          go_roundg (n1 - (k1 + 1))
          case measure => omega
          case rel => exact ⟨k1 + 1, _, Z1.set k1 z', rfl, by omega, by go_num, by show _ = _; rw [List.length_set]; exact HZ1.out, by show _ = _; rw [u8s_set, ← HC1.out, Array.toList_setIfInBounds, List.take_set], hO⟩
        · obtain rfl : k1 = n1 := by omega
          have d1 : decide ((k1 : Int) < (k1 : Int)) = false := decide_eq_false (by omega)
          go_wp2_with (first
            | ((with_reducible refine gLoad (d := some 267) ?_); refine ldC hO 0 rfl rfl (tA rfl) rfl ?_))
          have hO2 : Own wn _ [.blk b28 (.cells (boxC nF (.slice aF1 MF cF1) uF) 31 (0,0)), .sl 5 1 (.slice aF1 MF cF1) MF (u8s XF), .sl 5 1 (.slice aB1 M2 cB1) M2 (u8s X2), .blk bX (.cells (boxC m (.slice a2 n2 c2) v) 31 (0,0))] := hO.sub (List.Sublist.cons_cons _ (List.Sublist.cons_cons _ (List.Sublist.cons_cons _ (List.Sublist.cons _ (List.Sublist.cons _ (List.Sublist.cons_cons _ (List.nil_sublist _)))))))
          clear hO
          have hO := hO2
          clear hO2
          go_loopg [269] MF (fun mm c wr => ∃ (k2 : Nat) (Z2 : List (BitVec 8)), mm = MF - k2 ∧ k2 ≤ MF ∧ c = .int .i64 (k2 : Int) ∧ Hid (Z2.length = MF) ∧ Own wn wr [.blk b28 (.cells (boxC nF (.slice aF1 MF cF1) uF) 31 (0,0)), .sl 5 1 (.slice aF1 MF cF1) MF (u8s Z2), .sl 5 1 (.slice aB1 M2 cB1) M2 (u8s X2), .blk bX (.cells (boxC m (.slice a2 n2 c2) v) 31 (0,0))])
          case atStart => exact ⟨0, XF, rfl, by omega, rfl, HXF.out, hO⟩
          case round =>
            obtain ⟨k2, Z2, rfl, hk2, rfl, HZ2, hO1⟩ := hrel
            clear hO
            have hO := hO1
            clear hO1
            by_cases hlt : k2 < MF
            · have d1 : decide ((k2 : Int) < (MF : Int)) = true := decide_eq_true (by omega)
              obtain ⟨gF, rfl⟩ := hO.slPlace 1 rfl (by omega)
              have hv := u8s_get Z2 k2 (by rw [HZ2.out]; exact hlt)
              generalize Z2[k2]'(by rw [HZ2.out]; exact hlt) = z at hv
              have HV := Lib.hid hv
              have e := add1_u8 z
              generalize z + 1#8 = z' at e
              clear hv
              go_wp2_with (first
                | ((with_reducible refine gLoad (d := some 273) ?_); refine ldC hO 0 rfl rfl (tA rfl) rfl ?_)
                | ((with_reducible refine gLoad (d := some 276) ?_); refine ld_sl hO 1 rfl rfl HV.out (tA rfl) ?_)
                | ((with_reducible refine gStore ?_); refine own_setElem hO 1 5 _ _ _ rfl rfl rfl (by omega) iu8s rfl ?_; clear hO; intro ww hO))
              go_roundg (MF - (k2 + 1))
              case measure => omega
              case rel => exact ⟨k2 + 1, Z2.set k2 z', rfl, by omega, by go_num, by show _ = _; rw [List.length_set]; exact HZ2.out, by rw [u8s_set]; exact hO⟩
            · obtain rfl : k2 = MF := by omega
              have d1 : decide ((k2 : Int) < (k2 : Int)) = false := decide_eq_false (by omega)
              go_wp2
              have hO2 : Own wn _ [.sl 5 1 (.slice aB1 M2 cB1) M2 (u8s X2), .blk bX (.cells (boxC m (.slice a2 n2 c2) v) 31 (0,0))] := hO.sub (List.Sublist.cons _ (List.Sublist.cons _ (List.Sublist.cons_cons _ (List.Sublist.cons_cons _ (List.nil_sublist _)))))
              clear hO
              have hO := hO2
              clear hO2
              go_loopg [282] M2 (fun mm c wr => ∃ (k3 : Nat) (Z3 : List (BitVec 8)), mm = M2 - k3 ∧ k3 ≤ M2 ∧ c = .int .i64 (k3 : Int) ∧ Hid (Z3.length = M2) ∧ Own wn wr [.sl 5 1 (.slice aB1 M2 cB1) M2 (u8s Z3), .blk bX (.cells (boxC m (.slice a2 n2 c2) v) 31 (0,0))])
              case atStart => exact ⟨0, X2, rfl, by omega, rfl, HX2.out, hO⟩
              case round =>
                obtain ⟨k3, Z3, rfl, hk3, rfl, HZ3, hO1⟩ := hrel
                clear hO
                have hO := hO1
                clear hO1
                by_cases hlt : k3 < M2
                · have d1 : decide ((k3 : Int) < (M2 : Int)) = true := decide_eq_true (by omega)
                  obtain ⟨gB, rfl⟩ := hO.slPlace 0 rfl (by omega)
                  have hv := u8s_get Z3 k3 (by rw [HZ3.out]; exact hlt)
                  generalize Z3[k3]'(by rw [HZ3.out]; exact hlt) = z at hv
                  have HV := Lib.hid hv
                  have e := add1_u8 z
                  generalize z + 1#8 = z' at e
                  clear hv
                  go_wp2_with (first
                    | ((with_reducible refine gLoad (d := some 288) ?_); refine ld_sl hO 0 rfl rfl HV.out (tA rfl) ?_)
                    | ((with_reducible refine gStore ?_); refine own_setElem hO 0 5 _ _ _ rfl rfl rfl (by omega) iu8s rfl ?_; clear hO; intro ww hO))
                  go_roundg (M2 - (k3 + 1))
                  case measure => omega
                  case rel => exact ⟨k3 + 1, Z3.set k3 z', rfl, by omega, by go_num, by show _ = _; rw [List.length_set]; exact HZ3.out, by rw [u8s_set]; exact hO⟩
                · obtain rfl : k3 = M2 := by omega
                  have d1 : decide ((k3 : Int) < (k3 : Int)) = false := decide_eq_false (by omega)
                  go_wp2_with (first
                    | ((with_reducible refine gG ?_); refine wpList_want rfl ?_)
                    | ((with_reducible refine gLoad (d := some 304) ?_); refine ldC hO 1 rfl rfl (tA rfl) rfl ?_)
                    | ((with_reducible refine Go.Bva.gCnv (d := some 298) (s := 28) (t := 9) ?_); refine Go.Bva.step_val (run_value rfl (run_bytes_string _ Tryd.underlying28 Tryd.underlying5 Tryd.underlying9 (hO.rd HR1.out))) ?_)
                    | ((with_reducible refine Go.Bva.gCnv (d := some 305) (s := 28) (t := 9) ?_); refine Go.Bva.step_val (run_value rfl (run_bytes_string _ Tryd.underlying28 Tryd.underlying5 Tryd.underlying9 (hO.rd HR2.out))) ?_))
                  go_ret
                  exact ⟨rfl, hO.below⟩

set_option maxHeartbeats 16000000 in
set_option maxRecDepth 100000 in
theorem vdoes_no (key : St) (n : BitVec 64) (a1 : Option Addr) (n1 c1 : Nat) (bs : List (BitVec 8)) (m : BitVec 64) (a2 : Option Addr) (n2 c2 : Nat) (ts : List (BitVec 8)) (v : St) (k : BitVec 64) (a3 : Option Addr) (n3 c3 : Nat) (ys : List (BitVec 8)) (s : St) (lg : Int) (w : World)
    (hR1 : Rd w 1 a1 n1 c1 (u8s bs)) (hR2 : Rd w 1 a2 n2 c2 (u8s ts)) (hR3 : Rd w 1 a3 n3 c3 (u8s ys)) (hT : Turns w) (hno : n = 18446744073709551615#64 ∨ 65536 < n1) :
    Calls Tryd.prog 7 #[.agg (ringC key n), .slice a1 n1 c1, .agg (boxC m (.slice a2 n2 c2) v), .agg (boxC k (.slice a3 n3 c3) s), .int .i64 lg] w fun e w' => e = .returned (.bool true) ∧ Below w.heap.size w w' := by
  have hO := Own.start w
  have l1 : bs.length = n1 := by have := hR1.len; rw [u8s_length] at this; omega
  have l2 : ts.length = n2 := by have := hR2.len; rw [u8s_length] at this; omega
  obtain ⟨ES, gS, gQ⟩ := pSealNo key n a1 n1 c1 bs hno
  obtain ⟨X1, E1, g1, g1'⟩ := pOpen key m a2 n2 c2 ts l2 v
  obtain ⟨M2, X2, E2, hM2, hX2, g2, g2'⟩ := pBytes m v a2 n2 c2 ts l2
  obtain ⟨nF, MF, XF, uF, EF, hMF, hXF, g3, g3'⟩ := pFrom a1 n1 c1 bs l1
  obtain ⟨X4, E4, g4, g4'⟩ := pStream key m lg
  obtain ⟨uT, ET, g5, g5'⟩ := pTag key m a1 n1 c1 bs
  unfold TxR at g1 g1' g4 g4'
  unfold RowR at g2 g2'
  unfold BoxR at g3 g3'
  obtain ⟨D, hD⟩ : ∃ D, (decide (m = k) && decide (ts = ys) && decide (v = s)) = D := ⟨_, rfl⟩
  have gE := fun w h1 h2 => samebox_calls m k a2 a3 n2 c2 n3 c3 v s ts ys w h1 h2
  have gE' := fun w h1 h2 => rsame_calls m k a2 a3 n2 c2 n3 c3 v s ts ys w h1 h2
  rw [hD] at gE gE'
  have GS := Lib.hid gS
  have GQ := Lib.hid gQ
  have G1 := Lib.hid g1
  have G1' := Lib.hid g1'
  have G2 := Lib.hid g2
  have G2' := Lib.hid g2'
  have G3 := Lib.hid g3
  have G3' := Lib.hid g3'
  have G4 := Lib.hid g4
  have G4' := Lib.hid g4'
  have G5 := Lib.hid g5
  have G5' := Lib.hid g5'
  have GE := Lib.hid gE
  have GE' := Lib.hid gE'
  have HX2 := Lib.hid hX2
  have HXF := Lib.hid hXF
  have HR1 := Lib.hid hR1
  have HR2 := Lib.hid hR2
  have HR3 := Lib.hid hR3
  have HT := Lib.hid hT
  clear hR1 hR2 hR3 hT gS gQ g1 g1' g2 g2' g3 g3' g4 g4' g5 g5' gE gE' hD hX2 hXF l1 l2 hno
  generalize hW : w = wn at hO HR1 HR2 HR3 HT ⊢
  clear hW w
  go_enter Tryd.func7, Tryd.ntmps7
  go_upto_region 2 with (first
    | ((with_reducible refine gG ?_); refine wpList_want rfl ?_)
    | ((with_reducible refine gBox (T := 27) ?_); refine bxA hO rfl ?_; clear hO; intro bR ww hO)
    | ((with_reducible refine gBox (T := 31) (x := .tmp 2) ?_); refine bxA hO rfl ?_; clear hO; intro bX ww hO)
    | ((with_reducible refine gBox (T := 31) (x := .tmp 3) ?_); refine bxA hO rfl ?_; clear hO; intro bY ww hO)
    | (go_at_call 9; refine (vlive_calls _ (HT.out.own hO)).mono ?_; rintro e ww ⟨rfl, hb⟩; replace hO := hO.call hb; clear hb))
  replace hO : Own wn _ [.blk bY (.cells (boxC k (.slice a3 n3 c3) s) 31 (0,0)), .blk bX (.cells (boxC m (.slice a2 n2 c2) v) 31 (0,0)), .blk bR (.cells (ringC key n) 27 (0,0))] := hO
  go_cut [89] from 45 to 89 (fun s89 wx => ∃ BB : Bool, s89 = .bool BB ∧ Own wn wx [.blk bY (.cells (boxC k (.slice a3 n3 c3) s) 31 (0,0)), .blk bX (.cells (boxC m (.slice a2 n2 c2) v) 31 (0,0)), .blk bR (.cells (ringC key n) 27 (0,0))])
  case first =>
    clear GS GQ G1 G1' G2 G2' G3 G3' G4 G4' G5 G5' GE GE' HX2 HXF HR1 HR2 HR3 HT hM2 hMF
    by_cases q1 : 200 < n1
    · have e1 : decide ((200 : Int) < (n1 : Int)) = true := decide_eq_true (by omega)
      by_cases q2 : n1 ≤ 65536
      · have e2 : decide ((n1 : Int) ≤ 65536) = true := decide_eq_true (by omega)
        clear q1 q2
        go_wp2_with (fail)
        go_meet
        case rel => exact ⟨_, rfl, hO⟩
      · have e2 : decide ((n1 : Int) ≤ 65536) = false := decide_eq_false (by omega)
        by_cases q3 : 70000 < n1
        · have e3 : decide ((70000 : Int) < (n1 : Int)) = true := decide_eq_true (by omega)
          clear q1 q2 q3
          go_wp2_with (fail)
          go_meet
          case rel => exact ⟨_, rfl, hO⟩
        · have e3 : decide ((70000 : Int) < (n1 : Int)) = false := decide_eq_false (by omega)
          by_cases q4 : 200 < n2
          · have e4 : decide ((200 : Int) < (n2 : Int)) = true := decide_eq_true (by omega)
            by_cases q5 : n2 ≤ 65536
            · have e5 : decide ((n2 : Int) ≤ 65536) = true := decide_eq_true (by omega)
              clear q1 q2 q3 q4 q5
              go_wp2_with (first
                | ((with_reducible refine gG (d := some 60) ?_); refine wpList_want rfl ?_)
                | ((with_reducible refine gG (d := some 65) ?_); refine wpList_want rfl ?_)
                | ((with_reducible refine gLoad (d := some 60) ?_); refine ldC hO 1 rfl rfl (tA rfl) rfl ?_)
                | ((with_reducible refine gLoad (d := some 65) ?_); refine ldC hO 1 rfl rfl (tA rfl) rfl ?_))
              go_meet
              case rel => exact ⟨_, rfl, hO⟩
            · have e5 : decide ((n2 : Int) ≤ 65536) = false := decide_eq_false (by omega)
              by_cases q6 : 70000 < n2
              · have e6 : decide ((70000 : Int) < (n2 : Int)) = true := decide_eq_true (by omega)
                clear q1 q2 q3 q4 q5 q6
                go_wp2_with (first
                  | ((with_reducible refine gG (d := some 60) ?_); refine wpList_want rfl ?_)
                  | ((with_reducible refine gG (d := some 65) ?_); refine wpList_want rfl ?_)
                  | ((with_reducible refine gG (d := some 72) ?_); refine wpList_want rfl ?_)
                  | ((with_reducible refine gLoad (d := some 60) ?_); refine ldC hO 1 rfl rfl (tA rfl) rfl ?_)
                  | ((with_reducible refine gLoad (d := some 65) ?_); refine ldC hO 1 rfl rfl (tA rfl) rfl ?_)
                  | ((with_reducible refine gLoad (d := some 72) ?_); refine ldC hO 1 rfl rfl (tA rfl) rfl ?_))
                go_meet
                case rel => exact ⟨_, rfl, hO⟩
              · have e6 : decide ((70000 : Int) < (n2 : Int)) = false := decide_eq_false (by omega)
                by_cases q7 : 200 < n3
                · have e7 : decide ((200 : Int) < (n3 : Int)) = true := decide_eq_true (by omega)
                  clear q1 q2 q3 q4 q5 q6 q7
                  go_wp2_with (first
                    | ((with_reducible refine gG (d := some 60) ?_); refine wpList_want rfl ?_)
                    | ((with_reducible refine gG (d := some 65) ?_); refine wpList_want rfl ?_)
                    | ((with_reducible refine gG (d := some 72) ?_); refine wpList_want rfl ?_)
                    | ((with_reducible refine gG (d := some 78) ?_); refine wpList_want rfl ?_)
                    | ((with_reducible refine gLoad (d := some 60) ?_); refine ldC hO 1 rfl rfl (tA rfl) rfl ?_)
                    | ((with_reducible refine gLoad (d := some 65) ?_); refine ldC hO 1 rfl rfl (tA rfl) rfl ?_)
                    | ((with_reducible refine gLoad (d := some 72) ?_); refine ldC hO 1 rfl rfl (tA rfl) rfl ?_)
                    | ((with_reducible refine gLoad (d := some 78) ?_); refine ldC hO 0 rfl rfl (tA rfl) rfl ?_))
                  go_meet
                  case rel => exact ⟨_, rfl, hO⟩
                · have e7 : decide ((200 : Int) < (n3 : Int)) = false := decide_eq_false (by omega)
                  by_cases q8 : 200 < lg
                  · have e8 : decide ((200 : Int) < lg) = true := decide_eq_true (by omega)
                    by_cases q9 : lg ≤ 65536
                    · have e9 : decide (lg ≤ (65536 : Int)) = true := decide_eq_true (by omega)
                      clear q1 q2 q3 q4 q5 q6 q7 q8 q9
                      go_wp2_with (first
                        | ((with_reducible refine gG (d := some 60) ?_); refine wpList_want rfl ?_)
                        | ((with_reducible refine gG (d := some 65) ?_); refine wpList_want rfl ?_)
                        | ((with_reducible refine gG (d := some 72) ?_); refine wpList_want rfl ?_)
                        | ((with_reducible refine gG (d := some 78) ?_); refine wpList_want rfl ?_)
                        | ((with_reducible refine gLoad (d := some 60) ?_); refine ldC hO 1 rfl rfl (tA rfl) rfl ?_)
                        | ((with_reducible refine gLoad (d := some 65) ?_); refine ldC hO 1 rfl rfl (tA rfl) rfl ?_)
                        | ((with_reducible refine gLoad (d := some 72) ?_); refine ldC hO 1 rfl rfl (tA rfl) rfl ?_)
                        | ((with_reducible refine gLoad (d := some 78) ?_); refine ldC hO 0 rfl rfl (tA rfl) rfl ?_))
                      go_meet
                      case rel => exact ⟨_, rfl, hO⟩
                    · have e9 : decide (lg ≤ (65536 : Int)) = false := decide_eq_false (by omega)
                      clear q1 q2 q3 q4 q5 q6 q7 q8 q9
                      go_wp2_with (first
                        | ((with_reducible refine gG (d := some 60) ?_); refine wpList_want rfl ?_)
                        | ((with_reducible refine gG (d := some 65) ?_); refine wpList_want rfl ?_)
                        | ((with_reducible refine gG (d := some 72) ?_); refine wpList_want rfl ?_)
                        | ((with_reducible refine gG (d := some 78) ?_); refine wpList_want rfl ?_)
                        | ((with_reducible refine gLoad (d := some 60) ?_); refine ldC hO 1 rfl rfl (tA rfl) rfl ?_)
                        | ((with_reducible refine gLoad (d := some 65) ?_); refine ldC hO 1 rfl rfl (tA rfl) rfl ?_)
                        | ((with_reducible refine gLoad (d := some 72) ?_); refine ldC hO 1 rfl rfl (tA rfl) rfl ?_)
                        | ((with_reducible refine gLoad (d := some 78) ?_); refine ldC hO 0 rfl rfl (tA rfl) rfl ?_))
                      go_meet
                      case rel => exact ⟨_, rfl, hO⟩
                  · have e8 : decide ((200 : Int) < lg) = false := decide_eq_false (by omega)
                    clear q1 q2 q3 q4 q5 q6 q7 q8
                    go_wp2_with (first
                      | ((with_reducible refine gG (d := some 60) ?_); refine wpList_want rfl ?_)
                      | ((with_reducible refine gG (d := some 65) ?_); refine wpList_want rfl ?_)
                      | ((with_reducible refine gG (d := some 72) ?_); refine wpList_want rfl ?_)
                      | ((with_reducible refine gG (d := some 78) ?_); refine wpList_want rfl ?_)
                      | ((with_reducible refine gLoad (d := some 60) ?_); refine ldC hO 1 rfl rfl (tA rfl) rfl ?_)
                      | ((with_reducible refine gLoad (d := some 65) ?_); refine ldC hO 1 rfl rfl (tA rfl) rfl ?_)
                      | ((with_reducible refine gLoad (d := some 72) ?_); refine ldC hO 1 rfl rfl (tA rfl) rfl ?_)
                      | ((with_reducible refine gLoad (d := some 78) ?_); refine ldC hO 0 rfl rfl (tA rfl) rfl ?_))
                    go_meet
                    case rel => exact ⟨_, rfl, hO⟩
          · have e4 : decide ((200 : Int) < (n2 : Int)) = false := decide_eq_false (by omega)
            have e6 : decide ((70000 : Int) < (n2 : Int)) = false := decide_eq_false (by omega)
            by_cases q7 : 200 < n3
            · have e7 : decide ((200 : Int) < (n3 : Int)) = true := decide_eq_true (by omega)
              clear q1 q2 q3 q4 q7
              go_wp2_with (first
                | ((with_reducible refine gG (d := some 60) ?_); refine wpList_want rfl ?_)
                | ((with_reducible refine gG (d := some 72) ?_); refine wpList_want rfl ?_)
                | ((with_reducible refine gG (d := some 78) ?_); refine wpList_want rfl ?_)
                | ((with_reducible refine gLoad (d := some 60) ?_); refine ldC hO 1 rfl rfl (tA rfl) rfl ?_)
                | ((with_reducible refine gLoad (d := some 72) ?_); refine ldC hO 1 rfl rfl (tA rfl) rfl ?_)
                | ((with_reducible refine gLoad (d := some 78) ?_); refine ldC hO 0 rfl rfl (tA rfl) rfl ?_))
              go_meet
              case rel => exact ⟨_, rfl, hO⟩
            · have e7 : decide ((200 : Int) < (n3 : Int)) = false := decide_eq_false (by omega)
              by_cases q8 : 200 < lg
              · have e8 : decide ((200 : Int) < lg) = true := decide_eq_true (by omega)
                by_cases q9 : lg ≤ 65536
                · have e9 : decide (lg ≤ (65536 : Int)) = true := decide_eq_true (by omega)
                  clear q1 q2 q3 q4 q7 q8 q9
                  go_wp2_with (first
                    | ((with_reducible refine gG (d := some 60) ?_); refine wpList_want rfl ?_)
                    | ((with_reducible refine gG (d := some 72) ?_); refine wpList_want rfl ?_)
                    | ((with_reducible refine gG (d := some 78) ?_); refine wpList_want rfl ?_)
                    | ((with_reducible refine gLoad (d := some 60) ?_); refine ldC hO 1 rfl rfl (tA rfl) rfl ?_)
                    | ((with_reducible refine gLoad (d := some 72) ?_); refine ldC hO 1 rfl rfl (tA rfl) rfl ?_)
                    | ((with_reducible refine gLoad (d := some 78) ?_); refine ldC hO 0 rfl rfl (tA rfl) rfl ?_))
                  go_meet
                  case rel => exact ⟨_, rfl, hO⟩
                · have e9 : decide (lg ≤ (65536 : Int)) = false := decide_eq_false (by omega)
                  clear q1 q2 q3 q4 q7 q8 q9
                  go_wp2_with (first
                    | ((with_reducible refine gG (d := some 60) ?_); refine wpList_want rfl ?_)
                    | ((with_reducible refine gG (d := some 72) ?_); refine wpList_want rfl ?_)
                    | ((with_reducible refine gG (d := some 78) ?_); refine wpList_want rfl ?_)
                    | ((with_reducible refine gLoad (d := some 60) ?_); refine ldC hO 1 rfl rfl (tA rfl) rfl ?_)
                    | ((with_reducible refine gLoad (d := some 72) ?_); refine ldC hO 1 rfl rfl (tA rfl) rfl ?_)
                    | ((with_reducible refine gLoad (d := some 78) ?_); refine ldC hO 0 rfl rfl (tA rfl) rfl ?_))
                  go_meet
                  case rel => exact ⟨_, rfl, hO⟩
              · have e8 : decide ((200 : Int) < lg) = false := decide_eq_false (by omega)
                clear q1 q2 q3 q4 q7 q8
                go_wp2_with (first
                  | ((with_reducible refine gG (d := some 60) ?_); refine wpList_want rfl ?_)
                  | ((with_reducible refine gG (d := some 72) ?_); refine wpList_want rfl ?_)
                  | ((with_reducible refine gG (d := some 78) ?_); refine wpList_want rfl ?_)
                  | ((with_reducible refine gLoad (d := some 60) ?_); refine ldC hO 1 rfl rfl (tA rfl) rfl ?_)
                  | ((with_reducible refine gLoad (d := some 72) ?_); refine ldC hO 1 rfl rfl (tA rfl) rfl ?_)
                  | ((with_reducible refine gLoad (d := some 78) ?_); refine ldC hO 0 rfl rfl (tA rfl) rfl ?_))
                go_meet
                case rel => exact ⟨_, rfl, hO⟩
    · have e1 : decide ((200 : Int) < (n1 : Int)) = false := decide_eq_false (by omega)
      have e3 : decide ((70000 : Int) < (n1 : Int)) = false := decide_eq_false (by omega)
      by_cases q4 : 200 < n2
      · have e4 : decide ((200 : Int) < (n2 : Int)) = true := decide_eq_true (by omega)
        by_cases q5 : n2 ≤ 65536
        · have e5 : decide ((n2 : Int) ≤ 65536) = true := decide_eq_true (by omega)
          clear q1 q4 q5
          go_wp2_with (first
            | ((with_reducible refine gG (d := some 60) ?_); refine wpList_want rfl ?_)
            | ((with_reducible refine gG (d := some 65) ?_); refine wpList_want rfl ?_)
            | ((with_reducible refine gLoad (d := some 60) ?_); refine ldC hO 1 rfl rfl (tA rfl) rfl ?_)
            | ((with_reducible refine gLoad (d := some 65) ?_); refine ldC hO 1 rfl rfl (tA rfl) rfl ?_))
          go_meet
          case rel => exact ⟨_, rfl, hO⟩
        · have e5 : decide ((n2 : Int) ≤ 65536) = false := decide_eq_false (by omega)
          by_cases q6 : 70000 < n2
          · have e6 : decide ((70000 : Int) < (n2 : Int)) = true := decide_eq_true (by omega)
            clear q1 q4 q5 q6
            go_wp2_with (first
              | ((with_reducible refine gG (d := some 60) ?_); refine wpList_want rfl ?_)
              | ((with_reducible refine gG (d := some 65) ?_); refine wpList_want rfl ?_)
              | ((with_reducible refine gG (d := some 72) ?_); refine wpList_want rfl ?_)
              | ((with_reducible refine gLoad (d := some 60) ?_); refine ldC hO 1 rfl rfl (tA rfl) rfl ?_)
              | ((with_reducible refine gLoad (d := some 65) ?_); refine ldC hO 1 rfl rfl (tA rfl) rfl ?_)
              | ((with_reducible refine gLoad (d := some 72) ?_); refine ldC hO 1 rfl rfl (tA rfl) rfl ?_))
            go_meet
            case rel => exact ⟨_, rfl, hO⟩
          · have e6 : decide ((70000 : Int) < (n2 : Int)) = false := decide_eq_false (by omega)
            by_cases q7 : 200 < n3
            · have e7 : decide ((200 : Int) < (n3 : Int)) = true := decide_eq_true (by omega)
              clear q1 q4 q5 q6 q7
              go_wp2_with (first
                | ((with_reducible refine gG (d := some 60) ?_); refine wpList_want rfl ?_)
                | ((with_reducible refine gG (d := some 65) ?_); refine wpList_want rfl ?_)
                | ((with_reducible refine gG (d := some 72) ?_); refine wpList_want rfl ?_)
                | ((with_reducible refine gG (d := some 78) ?_); refine wpList_want rfl ?_)
                | ((with_reducible refine gLoad (d := some 60) ?_); refine ldC hO 1 rfl rfl (tA rfl) rfl ?_)
                | ((with_reducible refine gLoad (d := some 65) ?_); refine ldC hO 1 rfl rfl (tA rfl) rfl ?_)
                | ((with_reducible refine gLoad (d := some 72) ?_); refine ldC hO 1 rfl rfl (tA rfl) rfl ?_)
                | ((with_reducible refine gLoad (d := some 78) ?_); refine ldC hO 0 rfl rfl (tA rfl) rfl ?_))
              go_meet
              case rel => exact ⟨_, rfl, hO⟩
            · have e7 : decide ((200 : Int) < (n3 : Int)) = false := decide_eq_false (by omega)
              by_cases q8 : 200 < lg
              · have e8 : decide ((200 : Int) < lg) = true := decide_eq_true (by omega)
                by_cases q9 : lg ≤ 65536
                · have e9 : decide (lg ≤ (65536 : Int)) = true := decide_eq_true (by omega)
                  clear q1 q4 q5 q6 q7 q8 q9
                  go_wp2_with (first
                    | ((with_reducible refine gG (d := some 60) ?_); refine wpList_want rfl ?_)
                    | ((with_reducible refine gG (d := some 65) ?_); refine wpList_want rfl ?_)
                    | ((with_reducible refine gG (d := some 72) ?_); refine wpList_want rfl ?_)
                    | ((with_reducible refine gG (d := some 78) ?_); refine wpList_want rfl ?_)
                    | ((with_reducible refine gLoad (d := some 60) ?_); refine ldC hO 1 rfl rfl (tA rfl) rfl ?_)
                    | ((with_reducible refine gLoad (d := some 65) ?_); refine ldC hO 1 rfl rfl (tA rfl) rfl ?_)
                    | ((with_reducible refine gLoad (d := some 72) ?_); refine ldC hO 1 rfl rfl (tA rfl) rfl ?_)
                    | ((with_reducible refine gLoad (d := some 78) ?_); refine ldC hO 0 rfl rfl (tA rfl) rfl ?_))
                  go_meet
                  case rel => exact ⟨_, rfl, hO⟩
                · have e9 : decide (lg ≤ (65536 : Int)) = false := decide_eq_false (by omega)
                  clear q1 q4 q5 q6 q7 q8 q9
                  go_wp2_with (first
                    | ((with_reducible refine gG (d := some 60) ?_); refine wpList_want rfl ?_)
                    | ((with_reducible refine gG (d := some 65) ?_); refine wpList_want rfl ?_)
                    | ((with_reducible refine gG (d := some 72) ?_); refine wpList_want rfl ?_)
                    | ((with_reducible refine gG (d := some 78) ?_); refine wpList_want rfl ?_)
                    | ((with_reducible refine gLoad (d := some 60) ?_); refine ldC hO 1 rfl rfl (tA rfl) rfl ?_)
                    | ((with_reducible refine gLoad (d := some 65) ?_); refine ldC hO 1 rfl rfl (tA rfl) rfl ?_)
                    | ((with_reducible refine gLoad (d := some 72) ?_); refine ldC hO 1 rfl rfl (tA rfl) rfl ?_)
                    | ((with_reducible refine gLoad (d := some 78) ?_); refine ldC hO 0 rfl rfl (tA rfl) rfl ?_))
                  go_meet
                  case rel => exact ⟨_, rfl, hO⟩
              · have e8 : decide ((200 : Int) < lg) = false := decide_eq_false (by omega)
                clear q1 q4 q5 q6 q7 q8
                go_wp2_with (first
                  | ((with_reducible refine gG (d := some 60) ?_); refine wpList_want rfl ?_)
                  | ((with_reducible refine gG (d := some 65) ?_); refine wpList_want rfl ?_)
                  | ((with_reducible refine gG (d := some 72) ?_); refine wpList_want rfl ?_)
                  | ((with_reducible refine gG (d := some 78) ?_); refine wpList_want rfl ?_)
                  | ((with_reducible refine gLoad (d := some 60) ?_); refine ldC hO 1 rfl rfl (tA rfl) rfl ?_)
                  | ((with_reducible refine gLoad (d := some 65) ?_); refine ldC hO 1 rfl rfl (tA rfl) rfl ?_)
                  | ((with_reducible refine gLoad (d := some 72) ?_); refine ldC hO 1 rfl rfl (tA rfl) rfl ?_)
                  | ((with_reducible refine gLoad (d := some 78) ?_); refine ldC hO 0 rfl rfl (tA rfl) rfl ?_))
                go_meet
                case rel => exact ⟨_, rfl, hO⟩
      · have e4 : decide ((200 : Int) < (n2 : Int)) = false := decide_eq_false (by omega)
        have e6 : decide ((70000 : Int) < (n2 : Int)) = false := decide_eq_false (by omega)
        by_cases q7 : 200 < n3
        · have e7 : decide ((200 : Int) < (n3 : Int)) = true := decide_eq_true (by omega)
          clear q1 q4 q7
          go_wp2_with (first
            | ((with_reducible refine gG (d := some 60) ?_); refine wpList_want rfl ?_)
            | ((with_reducible refine gG (d := some 72) ?_); refine wpList_want rfl ?_)
            | ((with_reducible refine gG (d := some 78) ?_); refine wpList_want rfl ?_)
            | ((with_reducible refine gLoad (d := some 60) ?_); refine ldC hO 1 rfl rfl (tA rfl) rfl ?_)
            | ((with_reducible refine gLoad (d := some 72) ?_); refine ldC hO 1 rfl rfl (tA rfl) rfl ?_)
            | ((with_reducible refine gLoad (d := some 78) ?_); refine ldC hO 0 rfl rfl (tA rfl) rfl ?_))
          go_meet
          case rel => exact ⟨_, rfl, hO⟩
        · have e7 : decide ((200 : Int) < (n3 : Int)) = false := decide_eq_false (by omega)
          by_cases q8 : 200 < lg
          · have e8 : decide ((200 : Int) < lg) = true := decide_eq_true (by omega)
            by_cases q9 : lg ≤ 65536
            · have e9 : decide (lg ≤ (65536 : Int)) = true := decide_eq_true (by omega)
              clear q1 q4 q7 q8 q9
              go_wp2_with (first
                | ((with_reducible refine gG (d := some 60) ?_); refine wpList_want rfl ?_)
                | ((with_reducible refine gG (d := some 72) ?_); refine wpList_want rfl ?_)
                | ((with_reducible refine gG (d := some 78) ?_); refine wpList_want rfl ?_)
                | ((with_reducible refine gLoad (d := some 60) ?_); refine ldC hO 1 rfl rfl (tA rfl) rfl ?_)
                | ((with_reducible refine gLoad (d := some 72) ?_); refine ldC hO 1 rfl rfl (tA rfl) rfl ?_)
                | ((with_reducible refine gLoad (d := some 78) ?_); refine ldC hO 0 rfl rfl (tA rfl) rfl ?_))
              go_meet
              case rel => exact ⟨_, rfl, hO⟩
            · have e9 : decide (lg ≤ (65536 : Int)) = false := decide_eq_false (by omega)
              clear q1 q4 q7 q8 q9
              go_wp2_with (first
                | ((with_reducible refine gG (d := some 60) ?_); refine wpList_want rfl ?_)
                | ((with_reducible refine gG (d := some 72) ?_); refine wpList_want rfl ?_)
                | ((with_reducible refine gG (d := some 78) ?_); refine wpList_want rfl ?_)
                | ((with_reducible refine gLoad (d := some 60) ?_); refine ldC hO 1 rfl rfl (tA rfl) rfl ?_)
                | ((with_reducible refine gLoad (d := some 72) ?_); refine ldC hO 1 rfl rfl (tA rfl) rfl ?_)
                | ((with_reducible refine gLoad (d := some 78) ?_); refine ldC hO 0 rfl rfl (tA rfl) rfl ?_))
              go_meet
              case rel => exact ⟨_, rfl, hO⟩
          · have e8 : decide ((200 : Int) < lg) = false := decide_eq_false (by omega)
            clear q1 q4 q7 q8
            go_wp2_with (first
              | ((with_reducible refine gG (d := some 60) ?_); refine wpList_want rfl ?_)
              | ((with_reducible refine gG (d := some 72) ?_); refine wpList_want rfl ?_)
              | ((with_reducible refine gG (d := some 78) ?_); refine wpList_want rfl ?_)
              | ((with_reducible refine gLoad (d := some 60) ?_); refine ldC hO 1 rfl rfl (tA rfl) rfl ?_)
              | ((with_reducible refine gLoad (d := some 72) ?_); refine ldC hO 1 rfl rfl (tA rfl) rfl ?_)
              | ((with_reducible refine gLoad (d := some 78) ?_); refine ldC hO 0 rfl rfl (tA rfl) rfl ?_))
            go_meet
            case rel => exact ⟨_, rfl, hO⟩
  case rest =>
    obtain ⟨BB, rfl, hO1⟩ := hcut
    clear hO
    have hO := hO1
    clear hO1
    cases BB
    rotate_left
    · go_wp2_with (first | ((with_reducible refine gG ?_); refine wpList_want rfl ?_))
      go_ret
      exact ⟨rfl, hO.below⟩
    · go_upto_region 18 with (first
      | ((with_reducible refine gG ?_); refine wpList_want rfl ?_)
      | ((with_reducible refine Go.Bva.gCnv (d := some 92) (s := 28) (t := 9) ?_); refine Go.Bva.step_val (run_value rfl (run_bytes_string _ Tryd.underlying28 Tryd.underlying5 Tryd.underlying9 (hO.rd HR1.out))) ?_)
      | ((with_reducible refine Go.Bva.gCnv (d := some 95) (s := 28) (t := 9) ?_); refine Go.Bva.step_val (run_value rfl (run_bytes_string _ Tryd.underlying28 Tryd.underlying5 Tryd.underlying9 (hO.rd HR2.out))) ?_)
      | ((with_reducible refine gLoad (d := some 94) ?_); refine ldC hO 1 rfl rfl (tA rfl) rfl ?_)
      | ((with_reducible refine gLoad (d := some 97) ?_); refine ldX hO 2 rfl rfl (tA rfl) (irs _ _) ?_)
      | (go_at_call 10; refine (GS.out _ (hO.rd HR1.out) (HT.out.own hO)).mono ?_; rintro e ww ⟨rfl, hb⟩; replace hO := hO.call hb; clear hb)
      | ((with_reducible refine gAlloc (d := some 14) ?_); refine own_alloc hO _ _ ibz ?_; clear hO; intro b14 ww hO)
      | ((with_reducible refine gAlloc (d := some 15) ?_); refine own_alloc hO _ _ irz ?_; clear hO; intro b15 ww hO)
      | ((with_reducible refine gStore (x := .tmp 14) ?_); refine stX hO 1 rfl rfl rfl rfl rfl (ibs _ _ _) ?_; clear hO; intro ww hO)
      | ((with_reducible refine gStore (x := .tmp 15) ?_); refine stX hO 0 rfl rfl rfl rfl rfl (irs _ _) ?_; clear hO; intro ww hO)
      | ((with_reducible refine gLoad (d := some 104) ?_); refine ldX hO 4 rfl rfl (tA rfl) (irs _ _) ?_)
      | (go_at_call 16; refine (GQ.out _ (hO.rd HR1.out)).mono ?_; rintro e ww ⟨rfl, hb⟩; replace hO := hO.call hb; clear hb)
      | ((with_reducible refine gAlloc (d := some 17) ?_); refine own_alloc hO _ _ ibz ?_; clear hO; intro b17 ww hO)
      | ((with_reducible refine gAlloc (d := some 18) ?_); refine own_alloc hO _ _ irz ?_; clear hO; intro b18 ww hO)
      | ((with_reducible refine gStore (x := .tmp 17) ?_); refine stX hO 1 rfl rfl rfl rfl rfl (ibs _ _ _) ?_; clear hO; intro ww hO)
      | ((with_reducible refine gStore (x := .tmp 18) ?_); refine stX hO 0 rfl rfl rfl rfl rfl (irs _ _) ?_; clear hO; intro ww hO)
      | ((with_reducible refine gLoad (d := some 112) ?_); refine ldA hO 6 key.C rfl rfl (tA rfl) (tS rfl) rfl ?_)
      | ((with_reducible refine gLoad (d := some 113) ?_); refine ldX hO 5 rfl rfl (tA rfl) (ibs _ _ _) ?_)
      | (go_at_call 11; refine (G1.out _ (hO.rd HR2.out) (HT.out.own hO)).mono ?_; rintro e ww ⟨ar1, mr1, cr1, r1, rfl, hb, hh, hg1⟩; replace hO := hO.add hb hh; clear hb hh; have HG1 := Lib.hid hg1; clear hg1)
      | ((with_reducible refine gLoad (d := some 119) ?_); refine ldA hO 7 key.C rfl rfl (tA rfl) (tS rfl) rfl ?_)
      | ((with_reducible refine gLoad (d := some 120) ?_); refine ldX hO 6 rfl rfl (tA rfl) (ibs _ _ _) ?_)
      | (go_at_call 17; refine (G1'.out _ (hO.rd HR2.out)).mono ?_; rintro e ww ⟨ar2, mr2, cr2, r2, rfl, hb, hh, hg2⟩; replace hO := hO.add hb hh; clear hb hh; have HG2 := Lib.hid hg2; clear hg2)
      | ((with_reducible refine gLoad (d := some 125) ?_); refine ldX hO 7 rfl rfl (tA rfl) (ibs _ _ _) ?_)
      | (go_at_call 18; refine (G2.out _ (hO.rd HR2.out)).mono ?_; rintro e ww ⟨aB1, cB1, rfl, hb, hr⟩; replace hO := hO.addRow hb hr; clear hb hr)
      | ((with_reducible refine gLoad (d := some 130) ?_); refine ldX hO 8 rfl rfl (tA rfl) (ibs _ _ _) ?_)
      | (go_at_call 19; refine (G2'.out _ (hO.rd HR2.out)).mono ?_; rintro e ww ⟨aB2, cB2, rfl, hb, hr⟩; replace hO := hO.addRow hb hr; clear hb hr)
      | (go_at_call 20; refine (G3.out _ (hO.rd HR1.out)).mono ?_; rintro e ww ⟨aF1, cF1, rfl, hb, hr⟩; replace hO := hO.addRow hb hr; clear hb hr)
      | ((with_reducible refine gAlloc (d := some 28) ?_); refine own_alloc hO _ _ ibz ?_; clear hO; intro b28 ww hO)
      | ((with_reducible refine gStore (x := .tmp 28) ?_); refine stX hO 0 rfl rfl rfl rfl rfl (ibs _ _ _) ?_; clear hO; intro ww hO)
      | (go_at_call 21; refine (G3'.out _ (hO.rd HR1.out)).mono ?_; rintro e ww ⟨aF2, cF2, rfl, hb, hr⟩; replace hO := hO.addRow hb hr; clear hb hr)
      | ((with_reducible refine gAlloc (d := some 30) ?_); refine own_alloc hO _ _ ibz ?_; clear hO; intro b30 ww hO)
      | ((with_reducible refine gStore (x := .tmp 30) ?_); refine stX hO 0 rfl rfl rfl rfl rfl (ibs _ _ _) ?_; clear hO; intro ww hO)
      | ((with_reducible refine gLoad (d := some 146) ?_); refine ldA hO 14 key.C rfl rfl (tA rfl) (tS rfl) rfl ?_)
      | ((with_reducible refine gLoad (d := some 148) ?_); refine ldC hO 13 rfl rfl (tA rfl) rfl ?_)
      | (go_at_call 14; refine (G4.out _ (HT.out.own hO)).mono ?_; rintro e ww ⟨ar3, mr3, cr3, r3, rfl, hb, hh, hg3⟩; replace hO := hO.add hb hh; clear hb hh; have HG3 := Lib.hid hg3; clear hg3)
      | ((with_reducible refine gLoad (d := some 155) ?_); refine ldA hO 15 key.C rfl rfl (tA rfl) (tS rfl) rfl ?_)
      | ((with_reducible refine gLoad (d := some 157) ?_); refine ldC hO 14 rfl rfl (tA rfl) rfl ?_)
      | (go_at_call 22; refine (G4'.out _).mono ?_; rintro e ww ⟨ar4, mr4, cr4, r4, rfl, hb, hh, hg4⟩; replace hO := hO.add hb hh; clear hb hh; have HG4 := Lib.hid hg4; clear hg4)
      | ((with_reducible refine gLoad (d := some 164) ?_); refine ldA hO 16 key.C rfl rfl (tA rfl) (tS rfl) rfl ?_)
      | ((with_reducible refine gLoad (d := some 166) ?_); refine ldC hO 15 rfl rfl (tA rfl) rfl ?_)
      | (go_at_call 12; refine (G5.out _ (hO.rd HR1.out) (HT.out.own hO)).mono ?_; rintro e ww ⟨rfl, hb⟩; replace hO := hO.call hb; clear hb)
      | ((with_reducible refine gAlloc (d := some 36) ?_); refine own_alloc hO _ _ iwz ?_; clear hO; intro b36 ww hO)
      | ((with_reducible refine gStore (x := .tmp 36) ?_); refine stX hO 0 rfl rfl rfl rfl rfl (tS rfl) ?_; clear hO; intro ww hO)
      | ((with_reducible refine gLoad (d := some 173) ?_); refine ldA hO 17 key.C rfl rfl (tA rfl) (tS rfl) rfl ?_)
      | ((with_reducible refine gLoad (d := some 175) ?_); refine ldC hO 16 rfl rfl (tA rfl) rfl ?_)
      | (go_at_call 23; refine (G5'.out _ (hO.rd HR1.out)).mono ?_; rintro e ww ⟨rfl, hb⟩; replace hO := hO.call hb; clear hb)
      | ((with_reducible refine gAlloc (d := some 38) ?_); refine own_alloc hO _ _ iwz ?_; clear hO; intro b38 ww hO)
      | ((with_reducible refine gStore (x := .tmp 38) ?_); refine stX hO 0 rfl rfl rfl rfl rfl (tS rfl) ?_; clear hO; intro ww hO))
      replace hO : Own wn _ [.blk b38 (.cells (uT.C) 24 (0,0)), .blk b36 (.cells (uT.C) 24 (0,0)), r4, r3, .blk b30 (.cells (boxC nF (.slice aF2 MF cF2) uF) 31 (0,0)), .sl 5 1 (.slice aF2 MF cF2) MF (u8s XF), .blk b28 (.cells (boxC nF (.slice aF1 MF cF1) uF) 31 (0,0)), .sl 5 1 (.slice aF1 MF cF1) MF (u8s XF), .sl 5 1 (.slice aB2 M2 cB2) M2 (u8s X2), .sl 5 1 (.slice aB1 M2 cB1) M2 (u8s X2), r2, r1, .blk b18 (.cells (ringC St.zero 0#64) 27 (0,0)), .blk b17 (.cells (boxC 0#64 (.slice none 0 0) St.zero) 31 (0,0)), .blk b15 (.cells (ringC St.zero 0#64) 27 (0,0)), .blk b14 (.cells (boxC 0#64 (.slice none 0 0) St.zero) 31 (0,0)), .blk bY (.cells (boxC k (.slice a3 n3 c3) s) 31 (0,0)), .blk bX (.cells (boxC m (.slice a2 n2 c2) v) 31 (0,0)), .blk bR (.cells (ringC key n) 27 (0,0))] := hO
      refine wp_region_textS (fun w' => Own wn w' [.blk b38 (.cells (uT.C) 24 (0,0)), .blk b36 (.cells (uT.C) 24 (0,0)), r4, r3, .blk b30 (.cells (boxC nF (.slice aF2 MF cF2) uF) 31 (0,0)), .sl 5 1 (.slice aF2 MF cF2) MF (u8s XF), .blk b28 (.cells (boxC nF (.slice aF1 MF cF1) uF) 31 (0,0)), .sl 5 1 (.slice aF1 MF cF1) MF (u8s XF), .sl 5 1 (.slice aB2 M2 cB2) M2 (u8s X2), .sl 5 1 (.slice aB1 M2 cB1) M2 (u8s X2), r2, r1, .blk b18 (.cells (ringC St.zero 0#64) 27 (0,0)), .blk b17 (.cells (boxC 0#64 (.slice none 0 0) St.zero) 31 (0,0)), .blk b15 (.cells (ringC St.zero 0#64) 27 (0,0)), .blk b14 (.cells (boxC 0#64 (.slice none 0 0) St.zero) 31 (0,0)), .blk bY (.cells (boxC k (.slice a3 n3 c3) s) 31 (0,0)), .blk bX (.cells (boxC m (.slice a2 n2 c2) v) 31 (0,0)), .blk bR (.cells (ringC key n) 27 (0,0))]) (fun op => match op with | .load _ _ => true | .binOp _ 24 _ _ _ => true | .binOp _ 27 _ _ _ => true | _ => false) (by kernel_rfl) (by kernel_rfl) hO.drew ?_
      dsimp only [List.append]
      replace hO := hO.drew
      generalize World.drew _ = wd at hO ⊢
      go_wp2_with (first
        | ((with_reducible refine gIL (d := some 180) ?_); refine wpI_ldS (fun w' hS => hS.blk 15 rfl) rfl rfl (tA rfl) (ibs _ _ _) ?_; first | (refine wpI_act (by simp only [Act.put, List.setIfInBounds_toArray, List.set_cons_succ, List.set_cons_zero]; rfl) ?_) | skip)
        | ((with_reducible refine gIL (d := some 181) ?_); refine wpI_ldS (fun w' hS => hS.blk 13 rfl) rfl rfl (tA rfl) (ibs _ _ _) ?_; first | (refine wpI_act (by simp only [Act.put, List.setIfInBounds_toArray, List.set_cons_succ, List.set_cons_zero]; rfl) ?_) | skip)
        | ((with_reducible refine gIL (d := some 184) ?_); refine wpI_ldS (fun w' hS => hS.blk 14 rfl) rfl rfl (tA rfl) (irs _ _) ?_; first | (refine wpI_act (by simp only [Act.put, List.setIfInBounds_toArray, List.set_cons_succ, List.set_cons_zero]; rfl) ?_) | skip)
        | ((with_reducible refine gIL (d := some 185) ?_); refine wpI_ldS (fun w' hS => hS.blk 12 rfl) rfl rfl (tA rfl) (irs _ _) ?_; first | (refine wpI_act (by simp only [Act.put, List.setIfInBounds_toArray, List.set_cons_succ, List.set_cons_zero]; rfl) ?_) | skip)
        | ((with_reducible refine gIL (d := some 214) ?_); refine wpI_ldS (fun w' hS => hS.blk 6 rfl) rfl rfl (tA rfl) (ibs _ _ _) ?_; first | (refine wpI_act (by simp only [Act.put, List.setIfInBounds_toArray, List.set_cons_succ, List.set_cons_zero]; rfl) ?_) | skip)
        | ((with_reducible refine gIL (d := some 215) ?_); refine wpI_ldS (fun w' hS => hS.blk 4 rfl) rfl rfl (tA rfl) (ibs _ _ _) ?_; first | (refine wpI_act (by simp only [Act.put, List.setIfInBounds_toArray, List.set_cons_succ, List.set_cons_zero]; rfl) ?_) | skip)
        | ((with_reducible refine gIL (d := some 234) ?_); refine wpI_ldS (fun w' hS => hS.blk 1 rfl) rfl rfl (tA rfl) (tS rfl) ?_; first | (refine wpI_act (by simp only [Act.put, List.setIfInBounds_toArray, List.set_cons_succ, List.set_cons_zero]; rfl) ?_) | skip)
        | ((with_reducible refine gIL (d := some 235) ?_); refine wpI_ldS (fun w' hS => hS.blk 0 rfl) rfl rfl (tA rfl) (tS rfl) ?_; first | (refine wpI_act (by simp only [Act.put, List.setIfInBounds_toArray, List.set_cons_succ, List.set_cons_zero]; rfl) ?_) | skip)
        | ((with_reducible refine gIL (d := some 244) ?_); refine wpI_ldS (fun w' hS => hS.blk 17 rfl) rfl rfl (tA rfl) (ibs _ _ _) ?_; first | (refine wpI_act (by simp only [Act.put, List.setIfInBounds_toArray, List.set_cons_succ, List.set_cons_zero]; rfl) ?_) | skip)
        | ((with_reducible refine gIL (d := some 245) ?_); refine wpI_ldS (fun w' hS => hS.blk 16 rfl) rfl rfl (tA rfl) (ibs _ _ _) ?_; first | (refine wpI_act (by simp only [Act.put, List.setIfInBounds_toArray, List.set_cons_succ, List.set_cons_zero]; rfl) ?_) | skip)
        | ((with_reducible refine gIL (d := some 247) ?_); refine wpI_ldS (fun w' hS => hS.blk 17 rfl) rfl rfl (tA rfl) (ibs _ _ _) ?_; first | (refine wpI_act (by simp only [Act.put, List.setIfInBounds_toArray, List.set_cons_succ, List.set_cons_zero]; rfl) ?_) | skip)
        | ((with_reducible refine gIL (d := some 248) ?_); refine wpI_ldS (fun w' hS => hS.blk 16 rfl) rfl rfl (tA rfl) (ibs _ _ _) ?_; first | (refine wpI_act (by simp only [Act.put, List.setIfInBounds_toArray, List.set_cons_succ, List.set_cons_zero]; rfl) ?_) | skip)
        | ((with_reducible refine gIE (t := 24) ?_); refine wpI_eqD v_egW v_flW rfl rfl rfl ?_; (with_reducible refine ⟨_, eqWT _, ?_⟩); first | (refine wpI_act (by simp only [Act.put, List.setIfInBounds_toArray, List.set_cons_succ, List.set_cons_zero]; rfl) ?_) | skip)
        | ((with_reducible refine gIE (t := 27) ?_); refine wpI_eqD v_egR v_flR rfl rfl rfl ?_; (with_reducible refine ⟨_, eqRT _ _, ?_⟩); first | (refine wpI_act (by simp only [Act.put, List.setIfInBounds_toArray, List.set_cons_succ, List.set_cons_zero]; rfl) ?_) | skip)
        | (go_at_call 24; (with_reducible refine gCall #[.agg (boxC 0#64 (.slice none 0 0) St.zero), .agg (boxC 0#64 (.slice none 0 0) St.zero)] ?_); refine (rsame_refl _ _ _ _ _ _ _ _ _ (rd_nil _) (rd_nil _)).mono ?_; rintro e ww ⟨rfl, hb⟩; replace hO := hO.call hb; clear hb)
        | (go_at_call 24; (with_reducible refine gCall #[.agg (boxC nF (.slice aF1 MF cF1) uF), .agg (boxC nF (.slice aF2 MF cF2) uF)] ?_); refine (rsame_refl _ _ _ _ _ _ _ _ _ (hO.rdAt 7 rfl) (hO.rdAt 5 rfl)).mono ?_; rintro e ww ⟨rfl, hb⟩; replace hO := hO.call hb; clear hb)
        | (go_at_call 24; (with_reducible refine gCall #[.agg (boxC m (.slice a2 n2 c2) v), .agg (boxC k (.slice a3 n3 c3) s)] ?_); refine (GE'.out _ (hO.rd HR2.out) (hO.rd HR3.out)).mono ?_; rintro e ww ⟨rfl, hb⟩; replace hO := hO.call hb; clear hb)
        | (go_at_call 15; refine (GE.out _ (hO.rd HR2.out) (hO.rd HR3.out)).mono ?_; rintro e ww ⟨rfl, hb⟩; replace hO := hO.call hb; clear hb)
        | (go_at_call 13; (with_reducible refine gCall #[.slice ar1 mr1 cr1, .slice ar2 mr2 cr2] ?_); refine (same_refl _ _ _ _ _ _ _ _ (HG1.out _ _ (hO.at 11 rfl)) (HG2.out _ _ (hO.at 10 rfl))).mono ?_; rintro e ww ⟨rfl, rfl⟩)
        | (go_at_call 13; (with_reducible refine gCall #[.slice aB1 M2 cB1, .slice aB2 M2 cB2] ?_); refine (same_refl _ _ _ _ _ _ _ _ (hO.rdAt 9 rfl) (hO.rdAt 8 rfl)).mono ?_; rintro e ww ⟨rfl, rfl⟩)
        | (go_at_call 13; (with_reducible refine gCall #[.slice ar3 mr3 cr3, .slice ar4 mr4 cr4] ?_); refine (same_refl _ _ _ _ _ _ _ _ (HG3.out _ _ (hO.at 3 rfl)) (HG4.out _ _ (hO.at 2 rfl))).mono ?_; rintro e ww ⟨rfl, rfl⟩)
        | ((with_reducible refine gI ?_); refine wpI_step rfl rfl (by kernel_rfl) ?_; intro K hK; have HK := Lib.hid hK; clear hK) | ((with_reducible refine gI ?_); first | refine wpI_skip rfl ?_ | refine wpI_want rfl ?_) | ((with_reducible refine gOnlyK HK.out ?_ ?_); exact hO; clear HK K; first | (refine wpI_act (by simp only [Act.put, List.setIfInBounds_toArray, List.set_cons_succ, List.set_cons_zero]; rfl) ?_) | skip) | (with_reducible refine wpI_nil ?_)
        | ((with_reducible refine gLoad (d := some 253) ?_); refine ldC hO 15 rfl rfl (tA rfl) rfl ?_))
      have hO2 : Own wn _ [.blk b28 (.cells (boxC nF (.slice aF1 MF cF1) uF) 31 (0,0)), .sl 5 1 (.slice aF1 MF cF1) MF (u8s XF), .sl 5 1 (.slice aB1 M2 cB1) M2 (u8s X2), .blk b14 (.cells (boxC 0#64 (.slice none 0 0) St.zero) 31 (0,0)), .blk bX (.cells (boxC m (.slice a2 n2 c2) v) 31 (0,0))] := hO.sub (List.Sublist.cons _ (List.Sublist.cons _ (List.Sublist.cons _ (List.Sublist.cons _ (List.Sublist.cons _ (List.Sublist.cons _ (List.Sublist.cons_cons _ (List.Sublist.cons_cons _ (List.Sublist.cons _ (List.Sublist.cons_cons _ (List.Sublist.cons _ (List.Sublist.cons _ (List.Sublist.cons _ (List.Sublist.cons _ (List.Sublist.cons _ (List.Sublist.cons_cons _ (List.Sublist.cons _ (List.Sublist.cons_cons _ (List.nil_sublist _)))))))))))))))))))
      clear hO GS GQ G1 G1' G2 G2' G3 G3' G4 G4' G5 G5' GE GE' HG1 HG2 HG3 HG4
      have hO := hO2
      clear hO2
      go_loopg [255] 1 (fun mm c wr => mm = 1 ∧ c = .int .i64 0 ∧ Own wn wr [.blk b28 (.cells (boxC nF (.slice aF1 MF cF1) uF) 31 (0,0)), .sl 5 1 (.slice aF1 MF cF1) MF (u8s XF), .sl 5 1 (.slice aB1 M2 cB1) M2 (u8s X2), .blk b14 (.cells (boxC 0#64 (.slice none 0 0) St.zero) 31 (0,0)), .blk bX (.cells (boxC m (.slice a2 n2 c2) v) 31 (0,0))])
      case atStart => exact ⟨rfl, rfl, hO⟩
      case round =>
        obtain ⟨hmm, rfl, hO1⟩ := hrel
        clear hO
        have hO := hO1
        clear hO1
        · clear hmm
          go_wp2_with (first
            | ((with_reducible refine gLoad (d := some 267) ?_); refine ldC hO 0 rfl rfl (tA rfl) rfl ?_))
          have hO2 : Own wn _ [.blk b28 (.cells (boxC nF (.slice aF1 MF cF1) uF) 31 (0,0)), .sl 5 1 (.slice aF1 MF cF1) MF (u8s XF), .sl 5 1 (.slice aB1 M2 cB1) M2 (u8s X2), .blk bX (.cells (boxC m (.slice a2 n2 c2) v) 31 (0,0))] := hO.sub (List.Sublist.cons_cons _ (List.Sublist.cons_cons _ (List.Sublist.cons_cons _ (List.Sublist.cons _ (List.Sublist.cons_cons _ (List.nil_sublist _))))))
          clear hO
          have hO := hO2
          clear hO2
          go_loopg [269] MF (fun mm c wr => ∃ (k2 : Nat) (Z2 : List (BitVec 8)), mm = MF - k2 ∧ k2 ≤ MF ∧ c = .int .i64 (k2 : Int) ∧ Hid (Z2.length = MF) ∧ Own wn wr [.blk b28 (.cells (boxC nF (.slice aF1 MF cF1) uF) 31 (0,0)), .sl 5 1 (.slice aF1 MF cF1) MF (u8s Z2), .sl 5 1 (.slice aB1 M2 cB1) M2 (u8s X2), .blk bX (.cells (boxC m (.slice a2 n2 c2) v) 31 (0,0))])
          case atStart => exact ⟨0, XF, rfl, by omega, rfl, HXF.out, hO⟩
          case round =>
            obtain ⟨k2, Z2, rfl, hk2, rfl, HZ2, hO1⟩ := hrel
            clear hO
            have hO := hO1
            clear hO1
            by_cases hlt : k2 < MF
            · have d1 : decide ((k2 : Int) < (MF : Int)) = true := decide_eq_true (by omega)
              obtain ⟨gF, rfl⟩ := hO.slPlace 1 rfl (by omega)
              have hv := u8s_get Z2 k2 (by rw [HZ2.out]; exact hlt)
              generalize Z2[k2]'(by rw [HZ2.out]; exact hlt) = z at hv
              have HV := Lib.hid hv
              have e := add1_u8 z
              generalize z + 1#8 = z' at e
              clear hv
              go_wp2_with (first
                | ((with_reducible refine gLoad (d := some 273) ?_); refine ldC hO 0 rfl rfl (tA rfl) rfl ?_)
                | ((with_reducible refine gLoad (d := some 276) ?_); refine ld_sl hO 1 rfl rfl HV.out (tA rfl) ?_)
                | ((with_reducible refine gStore ?_); refine own_setElem hO 1 5 _ _ _ rfl rfl rfl (by omega) iu8s rfl ?_; clear hO; intro ww hO))
              go_roundg (MF - (k2 + 1))
              case measure => omega
              case rel => exact ⟨k2 + 1, Z2.set k2 z', rfl, by omega, by go_num, by show _ = _; rw [List.length_set]; exact HZ2.out, by rw [u8s_set]; exact hO⟩
            · obtain rfl : k2 = MF := by omega
              have d1 : decide ((k2 : Int) < (k2 : Int)) = false := decide_eq_false (by omega)
              go_wp2
              have hO2 : Own wn _ [.sl 5 1 (.slice aB1 M2 cB1) M2 (u8s X2), .blk bX (.cells (boxC m (.slice a2 n2 c2) v) 31 (0,0))] := hO.sub (List.Sublist.cons _ (List.Sublist.cons _ (List.Sublist.cons_cons _ (List.Sublist.cons_cons _ (List.nil_sublist _)))))
              clear hO
              have hO := hO2
              clear hO2
              go_loopg [282] M2 (fun mm c wr => ∃ (k3 : Nat) (Z3 : List (BitVec 8)), mm = M2 - k3 ∧ k3 ≤ M2 ∧ c = .int .i64 (k3 : Int) ∧ Hid (Z3.length = M2) ∧ Own wn wr [.sl 5 1 (.slice aB1 M2 cB1) M2 (u8s Z3), .blk bX (.cells (boxC m (.slice a2 n2 c2) v) 31 (0,0))])
              case atStart => exact ⟨0, X2, rfl, by omega, rfl, HX2.out, hO⟩
              case round =>
                obtain ⟨k3, Z3, rfl, hk3, rfl, HZ3, hO1⟩ := hrel
                clear hO
                have hO := hO1
                clear hO1
                by_cases hlt : k3 < M2
                · have d1 : decide ((k3 : Int) < (M2 : Int)) = true := decide_eq_true (by omega)
                  obtain ⟨gB, rfl⟩ := hO.slPlace 0 rfl (by omega)
                  have hv := u8s_get Z3 k3 (by rw [HZ3.out]; exact hlt)
                  generalize Z3[k3]'(by rw [HZ3.out]; exact hlt) = z at hv
                  have HV := Lib.hid hv
                  have e := add1_u8 z
                  generalize z + 1#8 = z' at e
                  clear hv
                  go_wp2_with (first
                    | ((with_reducible refine gLoad (d := some 288) ?_); refine ld_sl hO 0 rfl rfl HV.out (tA rfl) ?_)
                    | ((with_reducible refine gStore ?_); refine own_setElem hO 0 5 _ _ _ rfl rfl rfl (by omega) iu8s rfl ?_; clear hO; intro ww hO))
                  go_roundg (M2 - (k3 + 1))
                  case measure => omega
                  case rel => exact ⟨k3 + 1, Z3.set k3 z', rfl, by omega, by go_num, by show _ = _; rw [List.length_set]; exact HZ3.out, by rw [u8s_set]; exact hO⟩
                · obtain rfl : k3 = M2 := by omega
                  have d1 : decide ((k3 : Int) < (k3 : Int)) = false := decide_eq_false (by omega)
                  go_wp2_with (first
                    | ((with_reducible refine gG ?_); refine wpList_want rfl ?_)
                    | ((with_reducible refine gLoad (d := some 304) ?_); refine ldC hO 1 rfl rfl (tA rfl) rfl ?_)
                    | ((with_reducible refine Go.Bva.gCnv (d := some 298) (s := 28) (t := 9) ?_); refine Go.Bva.step_val (run_value rfl (run_bytes_string _ Tryd.underlying28 Tryd.underlying5 Tryd.underlying9 (hO.rd HR1.out))) ?_)
                    | ((with_reducible refine Go.Bva.gCnv (d := some 305) (s := 28) (t := 9) ?_); refine Go.Bva.step_val (run_value rfl (run_bytes_string _ Tryd.underlying28 Tryd.underlying5 Tryd.underlying9 (hO.rd HR2.out))) ?_))
                  go_ret
                  exact ⟨rfl, hO.below⟩

theorem vdoes_walk (key : St) (n : BitVec 64) (a1 : Option Addr) (n1 c1 : Nat) (bs : List (BitVec 8)) (m : BitVec 64) (a2 : Option Addr) (n2 c2 : Nat) (ts : List (BitVec 8)) (v : St) (k : BitVec 64) (a3 : Option Addr) (n3 c3 : Nat) (ys : List (BitVec 8)) (s : St) (lg : Int) (w : World)
    (hR1 : Rd w 1 a1 n1 c1 (u8s bs)) (hR2 : Rd w 1 a2 n2 c2 (u8s ts)) (hR3 : Rd w 1 a3 n3 c3 (u8s ys)) (hT : Turns w) :
    Calls Tryd.prog 7 #[.agg (ringC key n), .slice a1 n1 c1, .agg (boxC m (.slice a2 n2 c2) v), .agg (boxC k (.slice a3 n3 c3) s), .int .i64 lg] w fun e w' => e = .returned (.bool true) ∧ Below w.heap.size w w' := by
  by_cases h : n = 18446744073709551615#64 ∨ 65536 < n1
  · exact vdoes_no key n a1 n1 c1 bs m a2 n2 c2 ts v k a3 n3 c3 ys s lg w hR1 hR2 hR3 hT h
  · exact vdoes_ok key n a1 n1 c1 bs m a2 n2 c2 ts v k a3 n3 c3 ys s lg w hR1 hR2 hR3 hT (fun h1 => h (.inl h1)) (Nat.not_lt.1 fun h1 => h (.inr h1))

end Go.Proofs.YtekiloagckkneaaDoor
