/- The walk of EnvelopeBack. -/
import Derived.Test.YtekiloagckkneaaDoorVEq
namespace Go.Proofs.YtekiloagckkneaaDoor
open Go.RowKit Go.Own Go.Bv Go.Ord Go.Eq

set_option maxHeartbeats 16000000 in
set_option maxRecDepth 100000 in
theorem vback_walk (key : St) (n : BitVec 64) (a1 : Option Addr) (n1 c1 : Nat) (as_ : List (BitVec 8)) (a2 : Option Addr) (n2 c2 : Nat) (bs : List (BitVec 8)) (m : BitVec 64) (a3 : Option Addr) (n3 c3 : Nat) (tX : List (BitVec 8)) (uX : St) (w : World)
    (hR1 : Rd w 1 a1 n1 c1 (u8s as_)) (hR2 : Rd w 1 a2 n2 c2 (u8s bs)) (hR3 : Rd w 1 a3 n3 c3 (u8s tX)) (hT : Turns w) :
    Calls Tryd.prog 6 #[.agg (ringC key n), .slice a1 n1 c1, .slice a2 n2 c2, .agg (boxC m (.slice a3 n3 c3) uX)] w fun e w' => e = .returned (.bool true) ∧ Below w.heap.size w w' := by
  have hO := Own.start w
  have hl3 : n3 ≤ maxLen := Nat.le_trans hR3.le hR3.max
  unfold maxLen at hl3
  have HT := Lib.hid hT
  by_cases h1 : 200 < n1
  · have d1 : decide ((200 : Int) < (n1 : Int)) = true := by simp; omega
    clear hR1 hR2 hR3 hT
    generalize hW : w = wn at hO HT ⊢
    clear hW w
    go_enter Tryd.func6, Tryd.ntmps6
    go_wp2_with (first
      | ((with_reducible refine gBox ?_); first | (refine bxA hO rfl ?_; clear hO; intro b ww hO) | (refine bx1 hO rfl rfl ?_; clear hO; intro b ww hO))
      | ((with_reducible refine gG ?_); refine wpList_want rfl ?_)
      | (go_at_call 9; refine (vlive_calls _ (HT.out.own hO)).mono ?_; rintro e ww ⟨rfl, hb⟩; replace hO := hO.call hb; clear hb)
      | ((with_reducible refine gLoad (T := 28) ?_); refine ldC hO 0 rfl rfl (tA rfl) rfl ?_))
    go_ret
    exact ⟨rfl, hO.below⟩
  have d1 : decide ((200 : Int) < (n1 : Int)) = false := by simp; omega
  by_cases h2 : 200 < n2
  · have d2 : decide ((200 : Int) < (n2 : Int)) = true := by simp; omega
    clear hR1 hR2 hR3 hT
    generalize hW : w = wn at hO HT ⊢
    clear hW w
    go_enter Tryd.func6, Tryd.ntmps6
    go_wp2_with (first
      | ((with_reducible refine gBox ?_); first | (refine bxA hO rfl ?_; clear hO; intro b ww hO) | (refine bx1 hO rfl rfl ?_; clear hO; intro b ww hO))
      | ((with_reducible refine gG ?_); refine wpList_want rfl ?_)
      | (go_at_call 9; refine (vlive_calls _ (HT.out.own hO)).mono ?_; rintro e ww ⟨rfl, hb⟩; replace hO := hO.call hb; clear hb)
      | ((with_reducible refine gLoad (T := 28) ?_); refine ldC hO 0 rfl rfl (tA rfl) rfl ?_))
    go_ret
    exact ⟨rfl, hO.below⟩
  have d2 : decide ((200 : Int) < (n2 : Int)) = false := by simp; omega
  by_cases h3 : 200 < n3
  · have d3 : decide ((200 : Int) < (n3 : Int)) = true := by simp; omega
    clear hR1 hR2 hR3 hT
    generalize hW : w = wn at hO HT ⊢
    clear hW w
    go_enter Tryd.func6, Tryd.ntmps6
    go_wp2_with (first
      | ((with_reducible refine gBox ?_); first | (refine bxA hO rfl ?_; clear hO; intro b ww hO) | (refine bx1 hO rfl rfl ?_; clear hO; intro b ww hO))
      | ((with_reducible refine gG ?_); refine wpList_want rfl ?_)
      | (go_at_call 9; refine (vlive_calls _ (HT.out.own hO)).mono ?_; rintro e ww ⟨rfl, hb⟩; replace hO := hO.call hb; clear hb)
      | ((with_reducible refine gLoad (T := 28) ?_); refine ldC hO 0 rfl rfl (tA rfl) rfl ?_))
    go_ret
    exact ⟨rfl, hO.below⟩
  have d3 : decide ((200 : Int) < (n3 : Int)) = false := by simp; omega
  by_cases hn : n = 18446744073709551615#64
  · have g1 := fun w hR hT => seal_full key n a1 n1 c1 as_ w hR (by omega) hn hT
    have g2 := fun w hR hT => seal_full key n a2 n2 c2 bs w hR (by omega) hn hT
    have dn : ((n.toNat : Int) == 18446744073709551615) = true := by rw [hn]; rfl
    have G1 := Lib.hid g1
    have G2 := Lib.hid g2
    have HR1 := Lib.hid hR1
    have HR2 := Lib.hid hR2
    clear hR1 hR2 hR3 hT g1 g2 hn
    generalize hW : w = wn at hO HR1 HR2 HT ⊢
    clear hW w
    go_enter Tryd.func6, Tryd.ntmps6
    go_wp2_with (first
      | ((with_reducible refine gBox ?_); first | (refine bxA hO rfl ?_; clear hO; intro b ww hO) | (refine bx1 hO rfl rfl ?_; clear hO; intro b ww hO))
      | ((with_reducible refine gG ?_); refine wpList_want rfl ?_)
      | (go_at_call 9; refine (vlive_calls _ (HT.out.own hO)).mono ?_; rintro e ww ⟨rfl, hb⟩; replace hO := hO.call hb; clear hb)
      | ((with_reducible refine gLoad (T := 28) ?_); refine ldC hO 0 rfl rfl (tA rfl) rfl ?_)
      | ((with_reducible refine gAlloc (T := 31) ?_); refine own_alloc hO _ _ ibz ?_; clear hO; intro bx ww hO)
      | ((with_reducible refine gAlloc (T := 27) ?_); refine own_alloc hO _ _ irz ?_; clear hO; intro bn ww hO)
      | ((with_reducible refine gStore (T := 31) ?_); refine stX hO 1 rfl rfl rfl rfl rfl (tS rfl) ?_; clear hO; intro ww hO)
      | ((with_reducible refine gStore (T := 27) ?_); refine stX hO 0 rfl rfl rfl rfl rfl (tS rfl) ?_; clear hO; intro ww hO)
      | ((with_reducible refine gLoad (T := 27) ?_); first | refine ldX hO 1 rfl rfl (tA rfl) (tS rfl) ?_ | refine ldX hO 3 rfl rfl (tA rfl) (tS rfl) ?_)
      | ((with_reducible refine gLoad (T := 25) ?_); refine ldC hO 5 rfl rfl (tA rfl) rfl ?_)
      | (go_at_call 10; (with_reducible refine gCall #[_, .slice a1 n1 c1] ?_); refine (G1.out _ (hO.rd HR1.out) (HT.out.own hO)).mono ?_; rintro e ww ⟨rfl, hb⟩; replace hO := hO.call hb; clear hb)
      | (go_at_call 10; refine (G2.out _ (hO.rd HR2.out) (HT.out.own hO)).mono ?_; rintro e ww ⟨rfl, hb⟩; replace hO := hO.call hb; clear hb))
    go_ret
    exact ⟨rfl, hO.below⟩
  have la : as_.length = n1 := by have := hR1.len; rw [u8s_length] at this; omega
  have lb : bs.length = n2 := by have := hR2.len; rw [u8s_length] at this; omega
  have lx : tX.length = n3 := by have := hR3.len; rw [u8s_length] at this; omega
  obtain ⟨tU, htA⟩ : ∃ t, key.hide n as_ = t := ⟨_, rfl⟩
  have htAl : tU.length = n1 := by rw [← htA, St.hide_length, la]
  obtain ⟨uA, huA⟩ : ∃ u, key.tag n tU = u := ⟨_, rfl⟩
  obtain ⟨tV, htB⟩ : ∃ t, key.hide n bs = t := ⟨_, rfl⟩
  have htBl : tV.length = n2 := by rw [← htB, St.hide_length, lb]
  obtain ⟨uB, huB⟩ : ∃ u, key.tag n tV = u := ⟨_, rfl⟩
  obtain ⟨D, hD⟩ : ∃ D : Bool, decide (as_ = bs) = D := ⟨_, rfl⟩
  have hAB : (decide (n = n) && decide (tU = tV) && decide (uA = uB)) = D := by
    rw [← hD, decide_eq_true rfl, Bool.true_and]
    by_cases h : as_ = bs
    · have e1 : tU = tV := by rw [← htA, ← htB, h]
      have e2 : uA = uB := by rw [← huA, ← huB, e1]
      rw [decide_eq_true h, decide_eq_true e1, decide_eq_true e2]; rfl
    · have e1 : tU ≠ tV := fun e => h (St.hide_inj (k := key) (n := n) (by rw [htA, htB, e]))
      rw [decide_eq_false h, decide_eq_false e1]; rfl
  have hbackA : key.hide n tU = as_ := by rw [← htA, St.hide_hide]
  have g1 := fun w hR hT => seal_ok key n a1 n1 c1 as_ w hR (by omega) hn hT
  have g2 := fun w hR hT => seal_ok key n a2 n2 c2 bs w hR (by omega) hn hT
  have g3 := fun w a c hR hT => open_ok key n a n1 c tU w hR (by omega) hT
  rw [htA, huA] at g1
  rw [htB, huB] at g2
  rw [hbackA, huA] at g3
  unfold BkRet at g3
  have nlt := n.isLt
  have hne : n.toNat ≠ 18446744073709551615 := fun h => hn (BitVec.eq_of_toNat_eq h)
  obtain ⟨nn1, hn1⟩ : ∃ n1, n + 1#64 = n1 := ⟨_, rfl⟩
  have e1 : IntKind.u64.wrap ((n.toNat : Int) + 1) = (nn1.toNat : Int) := by rw [wrap_u64', ← hn1, BitVec.toNat_add]; simp
  rw [hn1] at g1 g2
  have HQN : Hid (∀ w, (binOp .neq 24 (.agg key.C) (.agg key.C)).run Tryd.prog w = .ok (.bool false) w) := fun w => by rw [neW, decide_eq_true rfl]; rfl
  have G1 := Lib.hid g1
  have G2 := Lib.hid g2
  have G3 := Lib.hid g3
  have HTA := Lib.hid htAl
  have HTB := Lib.hid htBl
  have HLA := Lib.hid la
  have HTX := Lib.hid lx
  have HD := Lib.hid hD
  have hS1 := fun (a b : Option Addr) (c d : Nat) w h1 h2 => samebox_calls n n a b n1 c n2 d uA uB tU tV w h1 h2
  rw [hAB] at hS1
  have HAB := Lib.hid hS1
  have HR1 := Lib.hid hR1
  have HR2 := Lib.hid hR2
  have HR3 := Lib.hid hR3
  by_cases hx : uX = key.tag m tX
  · obtain ⟨y, hy⟩ : ∃ y, key.hide m tX = y := ⟨_, rfl⟩
    have hyl : y.length = n3 := by rw [← hy, St.hide_length, lx]
    have hyb : key.hide m y = tX := by rw [← hy, St.hide_hide]
    have g4 := fun w hR hT => open_ok key m a3 n3 c3 tX w hR (by omega) hT
    rw [hy, ← hx] at g4
    unfold BkRet at g4
    have G4 := Lib.hid g4
    have HY := Lib.hid hyl
    by_cases hm : m = 18446744073709551615#64
    · have g5 := fun w a c hR hT => seal_full key m a n3 c y w hR (by omega) hm hT
      have dm : ((m.toNat : Int) == 18446744073709551615) = true := by rw [hm]; rfl
      have G5 := Lib.hid g5
      clear hR1 hR2 hR3 hT g1 g2 g3 g4 g5 htA huA htB huB hD hAB hS1 hbackA hx hy hyb hyl hm hn hne nlt hn1 la lb lx htAl htBl
      generalize hW : w = wn at hO HR1 HR2 HR3 HT ⊢
      clear hW w
      go_enter Tryd.func6, Tryd.ntmps6
      go_wp2_with (first
        | ((with_reducible refine gBox ?_); first | (refine bxA hO rfl ?_; clear hO; intro b ww hO) | (refine bx1 hO rfl rfl ?_; clear hO; intro b ww hO))
        | ((with_reducible refine gG ?_); refine wpList_want rfl ?_)
        | (go_at_call 9; refine (vlive_calls _ (HT.out.own hO)).mono ?_; rintro e ww ⟨rfl, hb⟩; replace hO := hO.call hb; clear hb)
        | ((with_reducible refine gLoad (T := 28) ?_); refine ldC hO 0 rfl rfl (tA rfl) rfl ?_)
        | ((with_reducible refine gAlloc (T := 31) ?_); refine own_alloc hO _ _ ibz ?_; clear hO; intro bx ww hO)
        | ((with_reducible refine gAlloc (T := 27) ?_); refine own_alloc hO _ _ irz ?_; clear hO; intro bn ww hO)
        | ((with_reducible refine gStore (T := 31) ?_); refine stX hO 1 rfl rfl rfl rfl rfl (tS rfl) ?_; clear hO; intro ww hO)
        | ((with_reducible refine gStore (T := 27) ?_); refine stX hO 0 rfl rfl rfl rfl rfl (tS rfl) ?_; clear hO; intro ww hO)
        | ((with_reducible refine gLoad (T := 27) ?_); first | refine ldX hO 1 rfl rfl (tA rfl) (tS rfl) ?_ | refine ldX hO 4 rfl rfl (tA rfl) (tS rfl) ?_)
        | ((with_reducible refine gLoad (T := 24) ?_); first | refine ldA hO 7 key.C rfl rfl (tA rfl) (tS rfl) rfl ?_ | refine ldA hO 8 key.C rfl rfl (tA rfl) (tS rfl) rfl ?_ | refine ldA hO 4 key.C rfl rfl (tA rfl) (tS rfl) rfl ?_ | refine ldA hO 9 key.C rfl rfl (tA rfl) (tS rfl) rfl ?_)
        | ((with_reducible refine gLoad (T := 25) ?_); first | refine ldC hO 8 rfl rfl (tA rfl) rfl ?_ | refine ldC hO 5 rfl rfl (tA rfl) rfl ?_ | refine ldC hO 4 rfl rfl (tA rfl) rfl ?_ | refine ldC hO 11 rfl rfl (tA rfl) rfl ?_ | refine ldC hO 9 rfl rfl (tA rfl) rfl ?_ | refine ldC hO 10 rfl rfl (tA rfl) rfl ?_)
        | ((with_reducible refine gLoad (T := 31) ?_); first | refine ldX hO 4 rfl rfl (tA rfl) (tS rfl) ?_ | refine ldX hO 5 rfl rfl (tA rfl) (tS rfl) ?_ | refine ldX hO 2 rfl rfl (tA rfl) (tS rfl) ?_ | refine ldX hO 7 rfl rfl (tA rfl) (tS rfl) ?_ | refine ldX hO 1 rfl rfl (tA rfl) (tS rfl) ?_ | refine ldX hO 11 rfl rfl (tA rfl) (tS rfl) ?_)
        | (go_at_call 10; (with_reducible refine gCall #[_, .slice a1 n1 c1] ?_); refine (G1.out _ (hO.rd HR1.out) (HT.out.own hO)).mono ?_; rintro e ww ⟨gA, CA, rfl, hb, hh, hCA⟩; replace hO := hO.add hb hh; clear hb hh)
        | (go_at_call 10; (with_reducible refine gCall #[_, .slice a2 n2 c2] ?_); refine (G2.out _ (hO.rd HR2.out) (HT.out.own hO)).mono ?_; rintro e ww ⟨gB, CB, rfl, hb, hh, hCB⟩; replace hO := hO.add hb hh; clear hb hh)
        | (go_at_call 11; (with_reducible refine gCall #[_, .agg (boxC n _ _)] ?_); refine (G3.out _ _ _ (rd_blk_off (hO.blk 5 rfl) 0 (by rw [List.drop_zero]; exact hCA) (by rw [u8s_length]; exact HTA.out) (Nat.le_refl _) (by simp [maxLen]; omega)) (HT.out.own hO)).mono ?_; rintro e ww ⟨gO, CO, rfl, hb, hh, hCO⟩; replace hO := hO.add hb hh; clear hb hh)
        | ((with_reducible refine gNeq (t := 24) ?_); refine neD v_egW rfl rfl ?_; (with_reducible refine ⟨_, HQN.out, ?_⟩))
        | (go_at_call 13; (with_reducible refine gCall #[.slice a1 n1 c1, .slice a2 n2 c2] ?_); refine (same_calls _ _ _ _ _ _ as_ bs _ (hO.rd HR1.out) (hO.rd HR2.out)).mono ?_; rw [HD.out]; rintro e ww ⟨rfl, rfl⟩)
        | (go_at_call 13; refine (same_calls _ _ _ _ _ _ as_ as_ _ (rd_blk_off (hO.blk 0 rfl) 0 (by rw [List.drop_zero]; exact hCO) (by rw [u8s_length]; exact HLA.out) (Nat.le_refl _) (by simp [maxLen]; omega)) (hO.rd HR1.out)).mono ?_; rw [decide_eq_true rfl]; rintro e ww ⟨rfl, rfl⟩)
        | (go_at_call 15; (with_reducible refine gCall #[.agg (boxC n _ _), .agg (boxC n _ _)] ?_); refine (HAB.out _ _ _ _ _ (rd_blk_off (hO.blk 6 rfl) 0 (by rw [List.drop_zero]; exact hCA) (by rw [u8s_length]; exact HTA.out) (Nat.le_refl _) (by simp [maxLen]; omega)) (rd_blk_off (hO.blk 3 rfl) 0 (by rw [List.drop_zero]; exact hCB) (by rw [u8s_length]; exact HTB.out) (Nat.le_refl _) (by simp [maxLen]; omega))).mono ?_; rintro e ww ⟨rfl, hb⟩; replace hO := hO.call hb; clear hb)
        | (go_at_call 11; refine (G4.out _ (hO.rd HR3.out) (HT.out.own hO)).mono ?_; rintro e ww ⟨gT, CT, rfl, hb, hh, hCT⟩; replace hO := hO.add hb hh; clear hb hh)
        | ((with_reducible refine gBld (T := 27) ?_); refine own_bld (ringC key m) (by kernel_rfl) ?_)
        | (go_at_call 10; refine (G5.out _ _ _ (rd_blk_off (hO.blk 0 rfl) 0 (by rw [List.drop_zero]; exact hCT) (by rw [u8s_length]; exact HY.out) (Nat.le_refl _) (by simp [maxLen]; omega)) (HT.out.own hO)).mono ?_; rintro e ww ⟨rfl, hb⟩; replace hO := hO.call hb; clear hb))
      go_ret
      exact ⟨rfl, hO.below⟩
    · have g5 := fun w a c hR hT => seal_ok key m a n3 c y w hR (by omega) hm hT
      rw [hyb, ← hx] at g5
      have hXX : (decide (m = m) && decide (tX = tX) && decide (uX = uX)) = true := by simp
      have hS2 := fun (a b : Option Addr) (c d : Nat) w h1 h2 => samebox_calls m m a b n3 c n3 d uX uX tX tX w h1 h2
      rw [hXX] at hS2
      have HXX := Lib.hid hS2
      have G5 := Lib.hid g5
      clear hR1 hR2 hR3 hT g1 g2 g3 g4 g5 htA huA htB huB hD hAB hS1 hbackA hx hy hyb hyl hm hn hne nlt hn1 la lb lx htAl htBl hXX hS2
      generalize hW : w = wn at hO HR1 HR2 HR3 HT ⊢
      clear hW w
      go_enter Tryd.func6, Tryd.ntmps6
      go_wp2_with (first
        | ((with_reducible refine gBox ?_); first | (refine bxA hO rfl ?_; clear hO; intro b ww hO) | (refine bx1 hO rfl rfl ?_; clear hO; intro b ww hO))
        | ((with_reducible refine gG ?_); refine wpList_want rfl ?_)
        | (go_at_call 9; refine (vlive_calls _ (HT.out.own hO)).mono ?_; rintro e ww ⟨rfl, hb⟩; replace hO := hO.call hb; clear hb)
        | ((with_reducible refine gLoad (T := 28) ?_); refine ldC hO 0 rfl rfl (tA rfl) rfl ?_)
        | ((with_reducible refine gAlloc (T := 31) ?_); refine own_alloc hO _ _ ibz ?_; clear hO; intro bx ww hO)
        | ((with_reducible refine gAlloc (T := 27) ?_); refine own_alloc hO _ _ irz ?_; clear hO; intro bn ww hO)
        | ((with_reducible refine gStore (T := 31) ?_); refine stX hO 1 rfl rfl rfl rfl rfl (tS rfl) ?_; clear hO; intro ww hO)
        | ((with_reducible refine gStore (T := 27) ?_); refine stX hO 0 rfl rfl rfl rfl rfl (tS rfl) ?_; clear hO; intro ww hO)
        | ((with_reducible refine gLoad (T := 27) ?_); first | refine ldX hO 1 rfl rfl (tA rfl) (tS rfl) ?_ | refine ldX hO 4 rfl rfl (tA rfl) (tS rfl) ?_)
        | ((with_reducible refine gLoad (T := 24) ?_); first | refine ldA hO 7 key.C rfl rfl (tA rfl) (tS rfl) rfl ?_ | refine ldA hO 8 key.C rfl rfl (tA rfl) (tS rfl) rfl ?_ | refine ldA hO 4 key.C rfl rfl (tA rfl) (tS rfl) rfl ?_ | refine ldA hO 9 key.C rfl rfl (tA rfl) (tS rfl) rfl ?_)
        | ((with_reducible refine gLoad (T := 25) ?_); first | refine ldC hO 8 rfl rfl (tA rfl) rfl ?_ | refine ldC hO 5 rfl rfl (tA rfl) rfl ?_ | refine ldC hO 4 rfl rfl (tA rfl) rfl ?_ | refine ldC hO 11 rfl rfl (tA rfl) rfl ?_)
        | ((with_reducible refine gLoad (T := 31) ?_); first | refine ldX hO 4 rfl rfl (tA rfl) (tS rfl) ?_ | refine ldX hO 5 rfl rfl (tA rfl) (tS rfl) ?_ | refine ldX hO 2 rfl rfl (tA rfl) (tS rfl) ?_ | refine ldX hO 7 rfl rfl (tA rfl) (tS rfl) ?_ | refine ldX hO 1 rfl rfl (tA rfl) (tS rfl) ?_ | refine ldX hO 11 rfl rfl (tA rfl) (tS rfl) ?_)
        | (go_at_call 10; (with_reducible refine gCall #[_, .slice a1 n1 c1] ?_); refine (G1.out _ (hO.rd HR1.out) (HT.out.own hO)).mono ?_; rintro e ww ⟨gA, CA, rfl, hb, hh, hCA⟩; replace hO := hO.add hb hh; clear hb hh)
        | (go_at_call 10; (with_reducible refine gCall #[_, .slice a2 n2 c2] ?_); refine (G2.out _ (hO.rd HR2.out) (HT.out.own hO)).mono ?_; rintro e ww ⟨gB, CB, rfl, hb, hh, hCB⟩; replace hO := hO.add hb hh; clear hb hh)
        | (go_at_call 11; (with_reducible refine gCall #[_, .agg (boxC n _ _)] ?_); refine (G3.out _ _ _ (rd_blk_off (hO.blk 5 rfl) 0 (by rw [List.drop_zero]; exact hCA) (by rw [u8s_length]; exact HTA.out) (Nat.le_refl _) (by simp [maxLen]; omega)) (HT.out.own hO)).mono ?_; rintro e ww ⟨gO, CO, rfl, hb, hh, hCO⟩; replace hO := hO.add hb hh; clear hb hh)
        | ((with_reducible refine gNeq (t := 24) ?_); refine neD v_egW rfl rfl ?_; (with_reducible refine ⟨_, HQN.out, ?_⟩))
        | (go_at_call 13; (with_reducible refine gCall #[.slice a1 n1 c1, .slice a2 n2 c2] ?_); refine (same_calls _ _ _ _ _ _ as_ bs _ (hO.rd HR1.out) (hO.rd HR2.out)).mono ?_; rw [HD.out]; rintro e ww ⟨rfl, rfl⟩)
        | (go_at_call 13; refine (same_calls _ _ _ _ _ _ as_ as_ _ (rd_blk_off (hO.blk 0 rfl) 0 (by rw [List.drop_zero]; exact hCO) (by rw [u8s_length]; exact HLA.out) (Nat.le_refl _) (by simp [maxLen]; omega)) (hO.rd HR1.out)).mono ?_; rw [decide_eq_true rfl]; rintro e ww ⟨rfl, rfl⟩)
        | (go_at_call 15; (with_reducible refine gCall #[.agg (boxC n _ _), .agg (boxC n _ _)] ?_); refine (HAB.out _ _ _ _ _ (rd_blk_off (hO.blk 6 rfl) 0 (by rw [List.drop_zero]; exact hCA) (by rw [u8s_length]; exact HTA.out) (Nat.le_refl _) (by simp [maxLen]; omega)) (rd_blk_off (hO.blk 3 rfl) 0 (by rw [List.drop_zero]; exact hCB) (by rw [u8s_length]; exact HTB.out) (Nat.le_refl _) (by simp [maxLen]; omega))).mono ?_; rintro e ww ⟨rfl, hb⟩; replace hO := hO.call hb; clear hb)
        | (go_at_call 11; refine (G4.out _ (hO.rd HR3.out) (HT.out.own hO)).mono ?_; rintro e ww ⟨gT, CT, rfl, hb, hh, hCT⟩; replace hO := hO.add hb hh; clear hb hh)
        | ((with_reducible refine gBld (T := 27) ?_); refine own_bld (ringC key m) (by kernel_rfl) ?_)
        | (go_at_call 10; refine (G5.out _ _ _ (rd_blk_off (hO.blk 0 rfl) 0 (by rw [List.drop_zero]; exact hCT) (by rw [u8s_length]; exact HY.out) (Nat.le_refl _) (by simp [maxLen]; omega)) (HT.out.own hO)).mono ?_; rintro e ww ⟨gS, CS, rfl, hb, hh, hCS⟩; replace hO := hO.add hb hh; clear hb hh)
        | (go_at_call 15; refine (HXX.out _ _ _ _ _ (rd_blk_off (hO.blk 2 rfl) 0 (by rw [List.drop_zero]; exact hCS) (by rw [u8s_length]; exact HTX.out) (Nat.le_refl _) (by simp [maxLen]; omega)) (hO.rd HR3.out)).mono ?_; rintro e ww ⟨rfl, hb⟩; replace hO := hO.call hb; clear hb))
      go_ret
      exact ⟨rfl, hO.below⟩
  · have g4 := fun w hR hT => open_bad key m a3 n3 c3 tX uX w hR (by omega) hx hT
    have G4 := Lib.hid g4
    clear hR1 hR2 hR3 hT g1 g2 g3 g4 htA huA htB huB hD hAB hS1 hbackA hx hn hne nlt hn1 la lb lx htAl htBl
    generalize hW : w = wn at hO HR1 HR2 HR3 HT ⊢
    clear hW w
    go_enter Tryd.func6, Tryd.ntmps6
    go_wp2_with (first
      | ((with_reducible refine gBox ?_); first | (refine bxA hO rfl ?_; clear hO; intro b ww hO) | (refine bx1 hO rfl rfl ?_; clear hO; intro b ww hO))
      | ((with_reducible refine gG ?_); refine wpList_want rfl ?_)
      | (go_at_call 9; refine (vlive_calls _ (HT.out.own hO)).mono ?_; rintro e ww ⟨rfl, hb⟩; replace hO := hO.call hb; clear hb)
      | ((with_reducible refine gLoad (T := 28) ?_); refine ldC hO 0 rfl rfl (tA rfl) rfl ?_)
      | ((with_reducible refine gAlloc (T := 31) ?_); refine own_alloc hO _ _ ibz ?_; clear hO; intro bx ww hO)
      | ((with_reducible refine gAlloc (T := 27) ?_); refine own_alloc hO _ _ irz ?_; clear hO; intro bn ww hO)
      | ((with_reducible refine gStore (T := 31) ?_); refine stX hO 1 rfl rfl rfl rfl rfl (tS rfl) ?_; clear hO; intro ww hO)
      | ((with_reducible refine gStore (T := 27) ?_); refine stX hO 0 rfl rfl rfl rfl rfl (tS rfl) ?_; clear hO; intro ww hO)
      | ((with_reducible refine gLoad (T := 27) ?_); first | refine ldX hO 1 rfl rfl (tA rfl) (tS rfl) ?_ | refine ldX hO 4 rfl rfl (tA rfl) (tS rfl) ?_)
      | ((with_reducible refine gLoad (T := 24) ?_); first | refine ldA hO 7 key.C rfl rfl (tA rfl) (tS rfl) rfl ?_ | refine ldA hO 8 key.C rfl rfl (tA rfl) (tS rfl) rfl ?_ | refine ldA hO 4 key.C rfl rfl (tA rfl) (tS rfl) rfl ?_ | refine ldA hO 9 key.C rfl rfl (tA rfl) (tS rfl) rfl ?_)
      | ((with_reducible refine gLoad (T := 25) ?_); first | refine ldC hO 8 rfl rfl (tA rfl) rfl ?_ | refine ldC hO 5 rfl rfl (tA rfl) rfl ?_ | refine ldC hO 4 rfl rfl (tA rfl) rfl ?_ | refine ldC hO 11 rfl rfl (tA rfl) rfl ?_)
      | ((with_reducible refine gLoad (T := 31) ?_); first | refine ldX hO 4 rfl rfl (tA rfl) (tS rfl) ?_ | refine ldX hO 5 rfl rfl (tA rfl) (tS rfl) ?_ | refine ldX hO 2 rfl rfl (tA rfl) (tS rfl) ?_ | refine ldX hO 7 rfl rfl (tA rfl) (tS rfl) ?_ | refine ldX hO 1 rfl rfl (tA rfl) (tS rfl) ?_ | refine ldX hO 11 rfl rfl (tA rfl) (tS rfl) ?_)
      | (go_at_call 10; (with_reducible refine gCall #[_, .slice a1 n1 c1] ?_); refine (G1.out _ (hO.rd HR1.out) (HT.out.own hO)).mono ?_; rintro e ww ⟨gA, CA, rfl, hb, hh, hCA⟩; replace hO := hO.add hb hh; clear hb hh)
      | (go_at_call 10; (with_reducible refine gCall #[_, .slice a2 n2 c2] ?_); refine (G2.out _ (hO.rd HR2.out) (HT.out.own hO)).mono ?_; rintro e ww ⟨gB, CB, rfl, hb, hh, hCB⟩; replace hO := hO.add hb hh; clear hb hh)
      | (go_at_call 11; (with_reducible refine gCall #[_, .agg (boxC n _ _)] ?_); refine (G3.out _ _ _ (rd_blk_off (hO.blk 5 rfl) 0 (by rw [List.drop_zero]; exact hCA) (by rw [u8s_length]; exact HTA.out) (Nat.le_refl _) (by simp [maxLen]; omega)) (HT.out.own hO)).mono ?_; rintro e ww ⟨gO, CO, rfl, hb, hh, hCO⟩; replace hO := hO.add hb hh; clear hb hh)
      | ((with_reducible refine gNeq (t := 24) ?_); refine neD v_egW rfl rfl ?_; (with_reducible refine ⟨_, HQN.out, ?_⟩))
      | (go_at_call 13; (with_reducible refine gCall #[.slice a1 n1 c1, .slice a2 n2 c2] ?_); refine (same_calls _ _ _ _ _ _ as_ bs _ (hO.rd HR1.out) (hO.rd HR2.out)).mono ?_; rw [HD.out]; rintro e ww ⟨rfl, rfl⟩)
      | (go_at_call 13; refine (same_calls _ _ _ _ _ _ as_ as_ _ (rd_blk_off (hO.blk 0 rfl) 0 (by rw [List.drop_zero]; exact hCO) (by rw [u8s_length]; exact HLA.out) (Nat.le_refl _) (by simp [maxLen]; omega)) (hO.rd HR1.out)).mono ?_; rw [decide_eq_true rfl]; rintro e ww ⟨rfl, rfl⟩)
      | (go_at_call 15; (with_reducible refine gCall #[.agg (boxC n _ _), .agg (boxC n _ _)] ?_); refine (HAB.out _ _ _ _ _ (rd_blk_off (hO.blk 6 rfl) 0 (by rw [List.drop_zero]; exact hCA) (by rw [u8s_length]; exact HTA.out) (Nat.le_refl _) (by simp [maxLen]; omega)) (rd_blk_off (hO.blk 3 rfl) 0 (by rw [List.drop_zero]; exact hCB) (by rw [u8s_length]; exact HTB.out) (Nat.le_refl _) (by simp [maxLen]; omega))).mono ?_; rintro e ww ⟨rfl, hb⟩; replace hO := hO.call hb; clear hb)
      | (go_at_call 11; refine (G4.out _ (hO.rd HR3.out) (HT.out.own hO)).mono ?_; rintro e ww ⟨rfl, hb⟩; replace hO := hO.call hb; clear hb))
    go_ret
    exact ⟨rfl, hO.below⟩
end Go.Proofs.YtekiloagckkneaaDoor
