/- The walk of ProbDoes. -/
import Derived.Test.YtldhfapigjcjiaaQs2
namespace Go.Proofs.Ytldhfapigjcjiaa
open Go.RowKit Go.Own Go.Bv Go.Ord Go.Eq Go.Opn Go.Pb

theorem live2_calls (w : World) : Calls Try.prog 8 #[] w fun e w' => e = .returned (.bool true) ∧ w = w' := live_calls w
def badD (n n2 : Nat) (x : Int) : Prop := (60 < n ∧ n ≤ 1024) ∨ 1030 < n ∨ 200 < n2 ∨ (60 < x ∧ x ≤ 1024)

set_option maxHeartbeats 4000000 in
set_option maxRecDepth 100000 in
theorem pdoes_out (p : Int) (b : Bool) (x : Int) (a : Option Addr) (n c : Nat) (a2 : Option Addr) (n2 c2 : Nat) (s : Int) (w : World) (h : badD n n2 x) :
    Calls Try.prog 7 #[.int .i64 p, .bool b, .int .i64 x, .slice a n c, .slice a2 n2 c2, .int .u32 s] w fun e w' => e = .returned (.bool true) ∧ Below w.heap.size w w' := by
  have hO := Own.start w
  generalize hW : w = wn at hO ⊢
  clear hW w
  obtain ⟨D1, hD1⟩ : ∃ D, decide ((60 : Int) < (n : Int)) = D := ⟨_, rfl⟩
  obtain ⟨D2, hD2⟩ : ∃ D, decide ((n : Int) ≤ 1024) = D := ⟨_, rfl⟩
  obtain ⟨D3, hD3⟩ : ∃ D, decide ((1030 : Int) < (n : Int)) = D := ⟨_, rfl⟩
  obtain ⟨D4, hD4⟩ : ∃ D, decide ((200 : Int) < (n2 : Int)) = D := ⟨_, rfl⟩
  obtain ⟨D5, hD5⟩ : ∃ D, decide ((60 : Int) < x) = D := ⟨_, rfl⟩
  obtain ⟨D6, hD6⟩ : ∃ D, decide (x ≤ 1024) = D := ⟨_, rfl⟩
  have hb : ((D1 && D2) || D3 || D4 || (D5 && D6)) = true := by
    rw [← hD1, ← hD2, ← hD3, ← hD4, ← hD5, ← hD6]
    unfold badD at h
    simp
    omega
  clear h
  cases D1 <;> cases D2 <;> cases D3 <;> cases D4 <;> cases D5 <;> cases D6 <;> first
    | (exfalso; revert hb; decide)
    | (clear hb
       go_enter Try.func7, Try.ntmps7
       go_wp2_with (first
         | ((with_reducible refine gG ?_); refine wpList_want rfl ?_)
         | (go_at_call 8; refine (live2_calls _).mono ?_; rintro e w1 ⟨rfl, rfl⟩))
       go_ret
       exact ⟨rfl, hO.below⟩)
    | (exfalso; simp at hD1 hD2 hD3 hD4 hD5 hD6; omega)

set_option maxHeartbeats 16000000 in
set_option maxRecDepth 100000 in
theorem pdoes_in (p : Int) (b : Bool) (x : Int) (a : Option Addr) (n c : Nat) (l : List Int) (a2 : Option Addr) (n2 c2 : Nat) (bits : List Bt) (s : Int) (w : World) (hR : Rd w 1 a n c (i64s l)) (hB : Rd w 2 a2 n2 c2 (bts bits)) (h0 : 0 ≤ s) (h1 : s < 4294967296) (h : ¬ badD n n2 x) :
    Calls Try.prog 7 #[.int .i64 p, .bool b, .int .i64 x, .slice a n c, .slice a2 n2 c2, .int .u32 s] w fun e w' => e = .returned (.bool true) ∧ Below w.heap.size w w' := by
  have hO := Own.start w
  have HR := Lib.hid hR
  have HB := Lib.hid hB
  obtain ⟨D1, hD1⟩ : ∃ D, decide ((60 : Int) < (n : Int)) = D := ⟨_, rfl⟩
  obtain ⟨D2, hD2⟩ : ∃ D, decide ((n : Int) ≤ 1024) = D := ⟨_, rfl⟩
  obtain ⟨D5, hD5⟩ : ∃ D, decide ((60 : Int) < x) = D := ⟨_, rfl⟩
  obtain ⟨D6, hD6⟩ : ∃ D, decide (x ≤ 1024) = D := ⟨_, rfl⟩
  have d3 : decide ((1030 : Int) < (n : Int)) = false := by unfold badD at h; simp; omega
  have d4 : decide ((200 : Int) < (n2 : Int)) = false := by unfold badD at h; simp; omega
  have hDD : (D1 = false ∨ D1 = true ∧ D2 = false) ∧ (D5 = false ∨ D5 = true ∧ D6 = false) := by
    rw [← hD1, ← hD2, ← hD5, ← hD6]
    unfold badD at h
    simp only [decide_eq_false_iff_not, decide_eq_true_eq]
    omega
  have hnb : n ≤ 1030 := by unfold badD at h; omega
  -- what the program and the document hand back
  obtain ⟨X1, hX1⟩ : ∃ X, (if mayB p then learnI p b else 0) = X := ⟨_, rfl⟩
  obtain ⟨E1, hE1⟩ : ∃ X : Int, (if mayB p then 0 else 1) = X := ⟨_, rfl⟩
  have HL1 := Lib.hid (fun w => by have := Learn_calls p b w; rw [hX1, hE1] at this; exact this)
  have HL2 := Lib.hid (fun w => by have := rLearn_calls p b w; rw [hX1, hE1] at this; exact this)
  obtain ⟨T2, hT2⟩ : ∃ T, newT x = T := ⟨_, rfl⟩
  obtain ⟨E2, hE2⟩ : ∃ E, newE x = E := ⟨_, rfl⟩
  obtain ⟨N2, hN2⟩ : ∃ N, (newT x).length = N := ⟨_, rfl⟩
  have HN1 := Lib.hid (fun w => new_calls x w N2 T2 E2 hN2 hT2 hE2)
  have HN2 := Lib.hid (fun w => rNew_calls x w N2 T2 E2 hN2 hT2 hE2)
  obtain ⟨T3, hT3⟩ : ∃ T, allT l bits = T := ⟨_, rfl⟩
  obtain ⟨E3, hE3⟩ : ∃ E, allE l bits = E := ⟨_, rfl⟩
  obtain ⟨N3, hN3⟩ : ∃ N, (allT l bits).length = N := ⟨_, rfl⟩
  have HA1 := Lib.hid (fun w h h' => all_calls a n c l a2 n2 c2 bits w h h' N3 T3 E3 hN3 hT3 hE3)
  have HA2 := Lib.hid (fun w h h' => rAll_calls a n c l a2 n2 c2 bits w h h' N3 T3 E3 hN3 hT3 hE3)
  obtain ⟨X4, hX4⟩ : ∃ X, (if splitOk s p then splitI s p else 0) = X := ⟨_, rfl⟩
  obtain ⟨E4, hE4⟩ : ∃ X : Int, (if splitOk s p then 0 else 1) = X := ⟨_, rfl⟩
  have HS1 := Lib.hid (fun w => by have := split_calls s p w h0 h1; rw [hX4, hE4] at this; exact this)
  have HS2 := Lib.hid (fun w => by have := rsplit_calls s p w h0 h1; rw [hX4, hE4] at this; exact this)
  obtain ⟨E5, hE5⟩ : ∃ E, checkE l = E := ⟨_, rfl⟩
  have HC1 := Lib.hid (fun w h => by have := check_calls a n c l w h; rw [hE5] at this; exact this)
  have HC2 := Lib.hid (fun w h => by have := rCheck_calls a n c l w h; rw [hE5] at this; exact this)
  have HI2 := Lib.hid (fun (b1 b2 : Option Addr) (e1 e2 : Nat) w h h' => by have := sints_calls b1 b2 N2 e1 N2 e2 T2 T2 w h h'; rw [decide_eq_true rfl] at this; exact this)
  have HI3 := Lib.hid (fun (b1 b2 : Option Addr) (e1 e2 : Nat) w h h' => by have := sints_calls b1 b2 N3 e1 N3 e2 T3 T3 w h h'; rw [decide_eq_true rfl] at this; exact this)
  have HIW := Lib.hid (fun (b2 : Option Addr) (e2 : Nat) w h h' => by have := sints_calls a b2 n c n e2 l l w h h'; rw [decide_eq_true rfl] at this; exact this)
  have hl3 : T3.length = N3 := by rw [← hT3]; exact hN3
  have HL3 := Lib.hid hl3
  clear hR hB h0 h1 h hX1 hE1 hT2 hE2 hN2 hT3 hE3 hN3 hX4 hE4 hE5 hl3
  generalize hW : w = wn at hO HR HB ⊢
  clear hW w
  obtain ⟨c1, c3⟩ := hDD
  rcases c1 with rfl | ⟨rfl, rfl⟩ <;> rcases c3 with rfl | ⟨rfl, rfl⟩
  all_goals
    go_enter Try.func7, Try.ntmps7
    go_wp2_with (first
      | ((with_reducible refine gG ?_); refine wpList_want rfl ?_)
      | (go_at_call 8; refine (live2_calls _).mono ?_; rintro e w1 ⟨rfl, rfl⟩)
      | ((with_reducible refine gAppendNil ?_); refine own_appendNil hO _ _ 26 ei64 rfl rfl (hO.rd HR.out) (i64s_one _) (by simp [maxLen]; omega) (by omega) ?_; clear hO; intro aW cW ww hO)
      | (go_at_call 10; refine (HL1.out _).mono ?_; rintro e w1 ⟨rfl, rfl⟩)
      | (go_at_call 14; refine (HL2.out _).mono ?_; rintro e w1 ⟨rfl, rfl⟩)
      | (go_at_call 15; refine (HN1.out _).mono ?_; rintro e ww ⟨aQ, cQ, rfl, hb, hr⟩; replace hO := hO.addRow hb hr; clear hb hr)
      | (go_at_call 16; refine (HN2.out _).mono ?_; rintro e ww ⟨aR, cR, rfl, hb, hr⟩; replace hO := hO.addRow hb hr; clear hb hr)
      | (go_at_call 12; refine (HA1.out _ (hO.rd HR.out) (hO.rd HB.out)).mono ?_; rintro e ww ⟨aS, cS, rfl, hb, hr⟩; replace hO := hO.addRow hb hr; clear hb hr)
      | (go_at_call 17; refine (HA2.out _ (hO.rd HR.out) (hO.rd HB.out)).mono ?_; rintro e ww ⟨aT, cT, rfl, hb, hr⟩; replace hO := hO.addRow hb hr; clear hb hr)
      | (go_at_call 11; refine (HS1.out _).mono ?_; rintro e w1 ⟨rfl, rfl⟩)
      | (go_at_call 18; refine (HS2.out _).mono ?_; rintro e w1 ⟨rfl, rfl⟩)
      | (go_at_call 9; refine (HC1.out _ (hO.rd HR.out)).mono ?_; rintro e w1 ⟨rfl, rfl⟩)
      | (go_at_call 19; refine (HC2.out _ (hO.rd HR.out)).mono ?_; rintro e ww ⟨rfl, hb⟩; replace hO := hO.call hb; clear hb)
      | (go_at_call 13; (with_reducible refine gCall #[.slice aQ N2 cQ, _] ?_); refine (HI2.out _ _ _ _ _ (hO.rdAt 3 rfl) (hO.rdAt 2 rfl)).mono ?_; rintro e ww ⟨rfl, hb⟩; replace hO := hO.call hb; clear hb)
      | (go_at_call 13; (with_reducible refine gCall #[.slice aS N3 cS, _] ?_); refine (HI3.out _ _ _ _ _ (hO.rdAt 1 rfl) (hO.rdAt 0 rfl)).mono ?_; rintro e ww ⟨rfl, hb⟩; replace hO := hO.call hb; clear hb))
    replace hO : Own wn _ [.sl 3 1 (.slice aS N3 cS) N3 (i64s T3), .sl 3 1 (.slice aW n cW) n (i64s l)] := hO.sub (by apply List.Sublist.cons; apply List.Sublist.cons_cons; apply List.Sublist.cons; apply List.Sublist.cons; exact List.Sublist.refl _)
    clear HL1 HL2 HN1 HN2 HA1 HA2 HS1 HS2 HC1 HC2 HI2 HI3
    go_loopg [156] N3 (fun m s156 wr => ∃ (k : Nat) (ys : List Int), m = N3 - k ∧ k ≤ N3 ∧ s156 = .int .i64 (k : Int) ∧ ys.length = N3 ∧ Own wn wr [.sl 3 1 (.slice aS N3 cS) N3 (i64s ys), .sl 3 1 (.slice aW n cW) n (i64s l)])
    case atStart => exact ⟨0, T3, rfl, by omega, rfl, HL3.out, hO⟩
    case round =>
      obtain ⟨k, ys, rfl, hk, rfl, hys, hO1⟩ := hrel
      clear hO
      have hO := hO1
      have HY := Lib.hid hys
      have hmx := Nat.le_trans (hO.rdAt 0 rfl).le (hO.rdAt 0 rfl).max
      unfold maxLen at hmx
      clear hO1 hys
      by_cases hlt : k < N3
      · have hb0 : decide ((k : Int) < (N3 : Int)) = true := by simp; omega
        obtain ⟨gS, rfl⟩ := hO.slPlace 0 rfl (by omega)
        have HG := Lib.hid (i64s_get ys k (by rw [HY.out]; exact hlt))
        generalize ys[k]'(by rw [HY.out]; exact hlt) = y at HG
        have HST : Hid ((i64s ys).set k (.int .i64 (wrap64 (y + 1))) = i64s (ys.set k (wrap64 (y + 1)))) := by show _ = _; unfold i64s; rw [List.map_set]
        go_wp2_with (first
          | ((with_reducible refine gLoad (T := 3) ?_); refine ld_sl hO 0 rfl rfl HG.out (tA rfl) ?_)
          | ((with_reducible refine gStore (T := 3) ?_); refine own_setElem hO 0 3 _ _ _ rfl rfl rfl (by omega) ii64s rfl ?_; clear hO; intro ww hO))
        go_roundg (N3 - (k + 1))
        case measure => omega
        case rel => exact ⟨k + 1, ys.set k (wrap64 (y + 1)), rfl, by omega, by go_num, by rw [List.length_set]; exact HY.out, by rw [← HST.out]; exact hO⟩
      · obtain rfl : k = N3 := by omega
        go_wp2_with (first
          | ((with_reducible refine gG ?_); refine wpList_want rfl ?_)
          | (go_at_call 13; refine (HIW.out _ _ _ (hO.rd HR.out) (hO.rdAt 1 rfl)).mono ?_; rintro e ww ⟨rfl, hb⟩; replace hO := hO.call hb; clear hb))
        go_ret
        exact ⟨rfl, hO.below⟩
end Go.Proofs.Ytldhfapigjcjiaa
