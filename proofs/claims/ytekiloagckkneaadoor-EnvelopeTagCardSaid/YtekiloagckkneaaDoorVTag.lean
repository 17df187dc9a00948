/- The walk of EnvelopeTag. -/
import Derived.Test.YtekiloagckkneaaDoorVt
import Derived.Test.YtekiloagckkneaaDoorPOctEq
namespace Go.Proofs.YtekiloagckkneaaDoor
open Go.RowKit Go.Own Go.Bv Go.Ord Go.Eq

set_option maxHeartbeats 8000000 in
set_option maxRecDepth 100000 in
theorem vtag_walk (key : St) (n : BitVec 64) (a1 : Option Addr) (n1 c1 : Nat) (as_ : List (BitVec 8)) (a2 : Option Addr) (n2 c2 : Nat) (bs : List (BitVec 8)) (tg : St) (w : World) (hR1 : Rd w 1 a1 n1 c1 (u8s as_)) (hR2 : Rd w 1 a2 n2 c2 (u8s bs)) (hT : Turns w) :
    Calls Tryd.prog 3 #[.agg (ringC key n), .slice a1 n1 c1, .slice a2 n2 c2, .agg tg.C] w fun e w' => e = .returned (.bool true) ∧ Below w.heap.size w w' := by
  have hO := Own.start w
  by_cases h1 : 200 < n1
  · have d1 : decide ((200 : Int) < (n1 : Int)) = true := by simp; omega
    have HT := Lib.hid hT
    clear hR1 hR2 hT
    generalize hW : w = wn at hO HT ⊢
    clear hW w
    go_enter Tryd.func3, Tryd.ntmps3
    go_wp2_with (first
      | ((with_reducible refine gBox ?_); first | (refine bxA hO rfl ?_; clear hO; intro b ww hO) | (refine bx1 hO rfl rfl ?_; clear hO; intro b ww hO))
      | ((with_reducible refine gG ?_); refine wpList_want rfl ?_)
      | (go_at_call 9; refine (vlive_calls _ (HT.out.own hO)).mono ?_; rintro e ww ⟨rfl, hb⟩; replace hO := hO.call hb; clear hb))
    go_ret
    exact ⟨rfl, hO.below⟩
  have d1 : decide ((200 : Int) < (n1 : Int)) = false := by simp; omega
  by_cases h2 : 6 < n2
  · have d2 : decide ((6 : Int) < (n2 : Int)) = true := by simp; omega
    have HT := Lib.hid hT
    clear hR1 hR2 hT
    generalize hW : w = wn at hO HT ⊢
    clear hW w
    go_enter Tryd.func3, Tryd.ntmps3
    go_wp2_with (first
      | ((with_reducible refine gBox ?_); first | (refine bxA hO rfl ?_; clear hO; intro b ww hO) | (refine bx1 hO rfl rfl ?_; clear hO; intro b ww hO))
      | ((with_reducible refine gG ?_); refine wpList_want rfl ?_)
      | (go_at_call 9; refine (vlive_calls _ (HT.out.own hO)).mono ?_; rintro e ww ⟨rfl, hb⟩; replace hO := hO.call hb; clear hb))
    go_ret
    exact ⟨rfl, hO.below⟩
  have d2 : decide ((6 : Int) < (n2 : Int)) = false := by simp; omega
  by_cases hn : n = 18446744073709551615#64
  · have g1 := fun w hR hT => seal_full key n a1 n1 c1 as_ w hR (by omega) hn hT
    have G1 := Lib.hid g1
    have HR1 := Lib.hid hR1
    have HT := Lib.hid hT
    clear hR1 hR2 hT g1 hn
    generalize hW : w = wn at hO HR1 HT ⊢
    clear hW w
    go_enter Tryd.func3, Tryd.ntmps3
    go_wp2_with (first
      | ((with_reducible refine gBox ?_); first | (refine bxA hO rfl ?_; clear hO; intro b ww hO) | (refine bx1 hO rfl rfl ?_; clear hO; intro b ww hO))
      | ((with_reducible refine gG ?_); refine wpList_want rfl ?_)
      | ((with_reducible refine gAlloc ?_); refine own_alloc hO _ _ iwz ?_; clear hO; intro bb ww hO)
      | ((with_reducible refine gAlloc (T := 31) ?_); refine own_alloc hO _ _ ibz ?_; clear hO; intro bx ww hO)
      | ((with_reducible refine gAlloc (T := 27) ?_); refine own_alloc hO _ _ irz ?_; clear hO; intro bn ww hO)
      | (go_at_call 9; refine (vlive_calls _ (HT.out.own hO)).mono ?_; rintro e ww ⟨rfl, hb⟩; replace hO := hO.call hb; clear hb)
      | ((with_reducible refine gLoad (T := 27) ?_); first | refine ldX hO 1 rfl rfl (tA rfl) (tS rfl) ?_)
      | ((with_reducible refine gStore (T := 31) ?_); refine stX hO 1 rfl rfl rfl rfl rfl (tS rfl) ?_; clear hO; intro ww hO)
      | ((with_reducible refine gStore (T := 27) ?_); refine stX hO 0 rfl rfl rfl rfl rfl (tS rfl) ?_; clear hO; intro ww hO)
      | ((with_reducible refine gStore (T := 24) ?_); refine stX hO 0 rfl rfl rfl rfl rfl (tS rfl) ?_; clear hO; intro ww hO)
      | ((with_reducible refine gLoad (T := 25) ?_); first | refine ldC hO 0 rfl rfl (tA rfl) rfl ?_ | refine ldC hO 1 rfl rfl (tA rfl) rfl ?_ | refine ldC hO 2 rfl rfl (tA rfl) rfl ?_ | refine ldC hO 3 rfl rfl (tA rfl) rfl ?_ | refine ldC hO 4 rfl rfl (tA rfl) rfl ?_ | refine ldC hO 5 rfl rfl (tA rfl) rfl ?_ | refine ldC hO 6 rfl rfl (tA rfl) rfl ?_ | refine ldC hO 7 rfl rfl (tA rfl) rfl ?_)
      | ((with_reducible refine gLoad (T := 28) ?_); first | refine ldC hO 0 rfl rfl (tA rfl) rfl ?_ | refine ldC hO 1 rfl rfl (tA rfl) rfl ?_ | refine ldC hO 2 rfl rfl (tA rfl) rfl ?_ | refine ldC hO 3 rfl rfl (tA rfl) rfl ?_)
      | ((with_reducible refine gLoad (T := 24) ?_); first | refine ldA hO 4 key.C rfl rfl (tA rfl) (tS rfl) rfl ?_ | refine ldX hO 3 rfl rfl (tA rfl) (tS rfl) ?_ | refine ldX hO 4 rfl rfl (tA rfl) (tS rfl) ?_ | refine ldA hO 2 key.C rfl rfl (tA rfl) (tS rfl) rfl ?_ | refine ldA hO 1 key.C rfl rfl (tA rfl) (tS rfl) rfl ?_ | refine ldA hO 5 key.C rfl rfl (tA rfl) (tS rfl) rfl ?_ | refine ldA hO 6 key.C rfl rfl (tA rfl) (tS rfl) rfl ?_)
      | (go_at_call 10; refine (G1.out _ (hO.rd HR1.out) (HT.out.own hO)).mono ?_; rintro e ww ⟨rfl, hb⟩; replace hO := hO.call hb; clear hb))
    go_ret
    exact ⟨rfl, hO.below⟩
  have la : as_.length = n1 := by have := hR1.len; rw [u8s_length] at this; omega
  have lb : bs.length = n2 := by have := hR2.len; rw [u8s_length] at this; omega
  obtain ⟨t, ht⟩ : ∃ t, key.hide n as_ = t := ⟨_, rfl⟩
  have htl : t.length = n1 := by rw [← ht, St.hide_length, la]
  obtain ⟨u, hu⟩ : ∃ u, key.tag n t = u := ⟨_, rfl⟩
  obtain ⟨x, hx⟩ : ∃ x, key.tag n as_ = x := ⟨_, rfl⟩
  obtain ⟨y, hy⟩ : ∃ y, key.tag n bs = y := ⟨_, rfl⟩
  obtain ⟨D, hD⟩ : ∃ D : Bool, decide (as_ = bs) = D := ⟨_, rfl⟩
  have HQ2' : Hid (n1 ≤ 6 → ∀ w, (binOp .eql 24 (.agg x.C) (.agg y.C)).run Tryd.prog w = .ok (.bool D) w) := fun h w => by
    rw [eqW, ← hD, ← hx, ← hy]
    have e : decide (key.tag n as_ = key.tag n bs) = decide (as_ = bs) := decide_eq_decide.2 ⟨fun h' => St.tag_short (by omega) (by omega) h', fun h' => by rw [h']⟩
    rw [e]
  have g1 := fun w hR hT => seal_ok key n a1 n1 c1 as_ w hR (by omega) hn hT
  have g3 := fun w hR hT => tag_ok key n a1 n1 c1 as_ w hR (by omega) hT
  have g4 := fun w hR hT => tag_ok key n a2 n2 c2 bs w hR (by omega) hT
  rw [ht, hu] at g1
  rw [hx] at g3
  rw [hy] at g4
  have G1 := Lib.hid g1
  have G3 := Lib.hid g3
  have G4 := Lib.hid g4
  have HTL := Lib.hid htl
  have HD := Lib.hid hD
  have HR1 := Lib.hid hR1
  have HR2 := Lib.hid hR2
  have HT := Lib.hid hT
  by_cases hv : tg = u
  · subst hv
    have g2 := fun w a c hR hT => open_ok key n a n1 c t w hR (by omega) hT
    rw [hu] at g2
    unfold BkRet at g2
    have G2 : Hid (∀ w a c, Rd w 1 a n1 c (u8s t) → Turns w → Calls Tryd.prog 11 #[.agg key.C, .agg (boxC n (.slice a n1 c) tg)] w fun e w' => ∃ g C, e = .returned (.tuple #[.slice (some ⟨g, 0, none⟩) n1 n1, .int .i64 0]) ∧ Below w.heap.size w w' ∧ Res.holds w.heap.size w' (.blk g (.cells C 5 (0,0))) ∧ C.toList.take n1 = u8s (key.hide n t)) := g2
    have HQ : Hid (∀ w, (binOp .eql 24 (.agg tg.C) (.agg tg.C)).run Tryd.prog w = .ok (.bool true) w) := eqWT tg
    clear hR1 hR2 hT g1 g2 g3 g4 ht hu hx hy hD la lb htl hn
    generalize hW : w = wn at hO HR1 HR2 HT ⊢
    clear hW w
    by_cases h6 : 6 < n1
    · have d6 : decide ((6 : Int) < (n1 : Int)) = true := by simp; omega
      go_enter Tryd.func3, Tryd.ntmps3
      go_wp2_with (first
        | ((with_reducible refine gBox ?_); first | (refine bxA hO rfl ?_; clear hO; intro b ww hO) | (refine bx1 hO rfl rfl ?_; clear hO; intro b ww hO))
        | ((with_reducible refine gG ?_); refine wpList_want rfl ?_)
        | ((with_reducible refine gAlloc ?_); refine own_alloc hO _ _ iwz ?_; clear hO; intro bb ww hO)
        | ((with_reducible refine gAlloc (T := 31) ?_); refine own_alloc hO _ _ ibz ?_; clear hO; intro bx ww hO)
        | ((with_reducible refine gAlloc (T := 27) ?_); refine own_alloc hO _ _ irz ?_; clear hO; intro bn ww hO)
        | (go_at_call 9; refine (vlive_calls _ (HT.out.own hO)).mono ?_; rintro e ww ⟨rfl, hb⟩; replace hO := hO.call hb; clear hb)
        | ((with_reducible refine gLoad (T := 27) ?_); first | refine ldX hO 1 rfl rfl (tA rfl) (tS rfl) ?_)
        | ((with_reducible refine gStore (T := 31) ?_); refine stX hO 1 rfl rfl rfl rfl rfl (tS rfl) ?_; clear hO; intro ww hO)
        | ((with_reducible refine gStore (T := 27) ?_); refine stX hO 0 rfl rfl rfl rfl rfl (tS rfl) ?_; clear hO; intro ww hO)
        | ((with_reducible refine gStore (T := 24) ?_); refine stX hO 0 rfl rfl rfl rfl rfl (tS rfl) ?_; clear hO; intro ww hO)
        | ((with_reducible refine gBld (T := 31) ?_); refine own_bld (boxC n (.slice (some ⟨g, 0, none⟩) n1 n1) tg) (by kernel_rfl) ?_)
        | ((with_reducible refine gLoad (T := 25) ?_); first | refine ldC hO 0 rfl rfl (tA rfl) rfl ?_ | refine ldC hO 1 rfl rfl (tA rfl) rfl ?_ | refine ldC hO 2 rfl rfl (tA rfl) rfl ?_ | refine ldC hO 3 rfl rfl (tA rfl) rfl ?_ | refine ldC hO 4 rfl rfl (tA rfl) rfl ?_ | refine ldC hO 5 rfl rfl (tA rfl) rfl ?_ | refine ldC hO 6 rfl rfl (tA rfl) rfl ?_ | refine ldC hO 7 rfl rfl (tA rfl) rfl ?_)
        | ((with_reducible refine gLoad (T := 28) ?_); first | refine ldC hO 0 rfl rfl (tA rfl) rfl ?_ | refine ldC hO 1 rfl rfl (tA rfl) rfl ?_ | refine ldC hO 2 rfl rfl (tA rfl) rfl ?_ | refine ldC hO 3 rfl rfl (tA rfl) rfl ?_)
        | ((with_reducible refine gLoad (T := 24) ?_); first | refine ldA hO 4 key.C rfl rfl (tA rfl) (tS rfl) rfl ?_ | refine ldX hO 3 rfl rfl (tA rfl) (tS rfl) ?_ | refine ldX hO 4 rfl rfl (tA rfl) (tS rfl) ?_ | refine ldA hO 2 tg.C rfl rfl (tA rfl) (tS rfl) rfl ?_ | refine ldA hO 1 tg.C rfl rfl (tA rfl) (tS rfl) rfl ?_ | refine ldA hO 5 key.C rfl rfl (tA rfl) (tS rfl) rfl ?_ | refine ldA hO 6 key.C rfl rfl (tA rfl) (tS rfl) rfl ?_)
        | (go_at_call 10; refine (G1.out _ (hO.rd HR1.out) (HT.out.own hO)).mono ?_; rintro e ww ⟨g, C, rfl, hb, hh, hC⟩; replace hO := hO.add hb hh; clear hb hh)
        | (go_at_call 11; refine (G2.out _ _ _ (rd_blk_off (hO.blk 2 rfl) 0 (by rw [List.drop_zero]; exact hC) (by rw [u8s_length]; exact HTL.out) (Nat.le_refl _) (by simp [maxLen]; omega)) (HT.out.own hO)).mono ?_; rintro e ww ⟨g2, C2, rfl, hb, hh, hC2⟩; replace hO := hO.add hb hh; clear hb hh)
        | ((with_reducible refine gEql (t := 24) ?_); refine eqD v_egW rfl rfl ?_; (with_reducible refine ⟨_, HQ.out, ?_⟩)))
      go_ret
      exact ⟨rfl, hO.below⟩
    · have d6 : decide ((6 : Int) < (n1 : Int)) = false := by simp; omega
      have HQ2 := Lib.hid (HQ2'.out (by omega))
      go_enter Tryd.func3, Tryd.ntmps3
      go_wp2_with (first
        | ((with_reducible refine gBox ?_); first | (refine bxA hO rfl ?_; clear hO; intro b ww hO) | (refine bx1 hO rfl rfl ?_; clear hO; intro b ww hO))
        | ((with_reducible refine gG ?_); refine wpList_want rfl ?_)
        | ((with_reducible refine gAlloc ?_); refine own_alloc hO _ _ iwz ?_; clear hO; intro bb ww hO)
        | ((with_reducible refine gAlloc (T := 31) ?_); refine own_alloc hO _ _ ibz ?_; clear hO; intro bx ww hO)
        | ((with_reducible refine gAlloc (T := 27) ?_); refine own_alloc hO _ _ irz ?_; clear hO; intro bn ww hO)
        | (go_at_call 9; refine (vlive_calls _ (HT.out.own hO)).mono ?_; rintro e ww ⟨rfl, hb⟩; replace hO := hO.call hb; clear hb)
        | ((with_reducible refine gLoad (T := 27) ?_); first | refine ldX hO 1 rfl rfl (tA rfl) (tS rfl) ?_)
        | ((with_reducible refine gStore (T := 31) ?_); refine stX hO 1 rfl rfl rfl rfl rfl (tS rfl) ?_; clear hO; intro ww hO)
        | ((with_reducible refine gStore (T := 27) ?_); refine stX hO 0 rfl rfl rfl rfl rfl (tS rfl) ?_; clear hO; intro ww hO)
        | ((with_reducible refine gStore (T := 24) ?_); refine stX hO 0 rfl rfl rfl rfl rfl (tS rfl) ?_; clear hO; intro ww hO)
        | ((with_reducible refine gBld (T := 31) ?_); refine own_bld (boxC n (.slice (some ⟨g, 0, none⟩) n1 n1) tg) (by kernel_rfl) ?_)
        | ((with_reducible refine gLoad (T := 25) ?_); first | refine ldC hO 0 rfl rfl (tA rfl) rfl ?_ | refine ldC hO 1 rfl rfl (tA rfl) rfl ?_ | refine ldC hO 2 rfl rfl (tA rfl) rfl ?_ | refine ldC hO 3 rfl rfl (tA rfl) rfl ?_ | refine ldC hO 4 rfl rfl (tA rfl) rfl ?_ | refine ldC hO 5 rfl rfl (tA rfl) rfl ?_ | refine ldC hO 6 rfl rfl (tA rfl) rfl ?_ | refine ldC hO 7 rfl rfl (tA rfl) rfl ?_)
        | ((with_reducible refine gLoad (T := 28) ?_); first | refine ldC hO 0 rfl rfl (tA rfl) rfl ?_ | refine ldC hO 1 rfl rfl (tA rfl) rfl ?_ | refine ldC hO 2 rfl rfl (tA rfl) rfl ?_ | refine ldC hO 3 rfl rfl (tA rfl) rfl ?_)
        | ((with_reducible refine gLoad (T := 24) ?_); first | refine ldA hO 4 key.C rfl rfl (tA rfl) (tS rfl) rfl ?_ | refine ldX hO 3 rfl rfl (tA rfl) (tS rfl) ?_ | refine ldX hO 4 rfl rfl (tA rfl) (tS rfl) ?_ | refine ldA hO 2 tg.C rfl rfl (tA rfl) (tS rfl) rfl ?_ | refine ldA hO 1 tg.C rfl rfl (tA rfl) (tS rfl) rfl ?_ | refine ldA hO 5 key.C rfl rfl (tA rfl) (tS rfl) rfl ?_ | refine ldA hO 6 key.C rfl rfl (tA rfl) (tS rfl) rfl ?_)
        | (go_at_call 10; refine (G1.out _ (hO.rd HR1.out) (HT.out.own hO)).mono ?_; rintro e ww ⟨g, C, rfl, hb, hh, hC⟩; replace hO := hO.add hb hh; clear hb hh)
        | (go_at_call 11; refine (G2.out _ _ _ (rd_blk_off (hO.blk 2 rfl) 0 (by rw [List.drop_zero]; exact hC) (by rw [u8s_length]; exact HTL.out) (Nat.le_refl _) (by simp [maxLen]; omega)) (HT.out.own hO)).mono ?_; rintro e ww ⟨g2, C2, rfl, hb, hh, hC2⟩; replace hO := hO.add hb hh; clear hb hh)
        | ((with_reducible refine gEql (t := 24) ?_); refine eqD v_egW rfl rfl ?_; (with_reducible refine ⟨_, HQ.out, ?_⟩))
        | (go_at_call 12; (with_reducible refine gCall #[_, _, .slice a1 n1 c1] ?_); refine (G3.out _ (hO.rd HR1.out) (HT.out.own hO)).mono ?_; rintro e ww ⟨rfl, hb⟩; replace hO := hO.call hb; clear hb)
        | (go_at_call 12; refine (G4.out _ (hO.rd HR2.out) (HT.out.own hO)).mono ?_; rintro e ww ⟨rfl, hb⟩; replace hO := hO.call hb; clear hb))
      refine wp_region_textS (fun w' => Own wn w' _) (fun op => match op with | .load _ _ => true | .binOp _ 24 _ _ _ => true | _ => false) (by kernel_rfl) (by kernel_rfl) hO.drew ?_
      replace hO := hO.drew
      generalize World.drew _ = wd at hO ⊢
      go_wp2_with (first
        | (((with_reducible refine gIL ?_); first | refine wpI_ldS (fun w' hS => hS.blk 0 rfl) rfl rfl (tA rfl) (tS rfl) ?_ | refine wpI_ldS (fun w' hS => hS.blk 1 rfl) rfl rfl (tA rfl) (tS rfl) ?_); first | (refine wpI_act (by simp only [Act.put, List.setIfInBounds_toArray, List.set_cons_succ, List.set_cons_zero]; rfl) ?_) | skip)
        | ((with_reducible refine gIE (t := 24) ?_); refine wpI_eqD v_egW v_flW rfl rfl rfl ?_; (with_reducible refine ⟨_, HQ2.out, ?_⟩); first | (refine wpI_act (by simp only [Act.put, List.setIfInBounds_toArray, List.set_cons_succ, List.set_cons_zero]; rfl) ?_) | skip)
        | (go_at_call 13; refine (same_calls _ _ _ _ _ _ as_ bs _ (hO.rd HR1.out) (hO.rd HR2.out)).mono ?_; rw [HD.out]; rintro e ww ⟨rfl, rfl⟩)
        | ((with_reducible refine gI ?_); refine wpI_step rfl rfl (by kernel_rfl) ?_; intro K hK; have HK := Lib.hid hK; clear hK) | ((with_reducible refine gI ?_); first | refine wpI_skip rfl ?_ | refine wpI_want rfl ?_) | ((with_reducible refine gOnlyK HK.out ?_ ?_); exact hO; clear HK K; first | (refine wpI_act (by simp only [Act.put, List.setIfInBounds_toArray, List.set_cons_succ, List.set_cons_zero]; rfl) ?_) | skip) | (with_reducible refine wpI_nil ?_))
      go_ret
      exact ⟨rfl, hO.below⟩
  · have g2 := fun w a c hR hT => open_bad key n a n1 c t tg w hR (by omega) (by rw [hu]; exact hv) hT
    have G2 := Lib.hid g2
    have HQ : Hid (∀ w, (binOp .eql 24 (.agg tg.C) (.agg u.C)).run Tryd.prog w = .ok (.bool false) w) := fun w => by rw [eqW, decide_eq_false hv]
    clear hR1 hR2 hT g1 g2 g3 g4 ht hu hx hy hD la lb htl hn hv
    generalize hW : w = wn at hO HR1 HR2 HT ⊢
    clear hW w
    by_cases h6 : 6 < n1
    · have d6 : decide ((6 : Int) < (n1 : Int)) = true := by simp; omega
      go_enter Tryd.func3, Tryd.ntmps3
      go_wp2_with (first
        | ((with_reducible refine gBox ?_); first | (refine bxA hO rfl ?_; clear hO; intro b ww hO) | (refine bx1 hO rfl rfl ?_; clear hO; intro b ww hO))
        | ((with_reducible refine gG ?_); refine wpList_want rfl ?_)
        | ((with_reducible refine gAlloc ?_); refine own_alloc hO _ _ iwz ?_; clear hO; intro bb ww hO)
        | ((with_reducible refine gAlloc (T := 31) ?_); refine own_alloc hO _ _ ibz ?_; clear hO; intro bx ww hO)
        | ((with_reducible refine gAlloc (T := 27) ?_); refine own_alloc hO _ _ irz ?_; clear hO; intro bn ww hO)
        | (go_at_call 9; refine (vlive_calls _ (HT.out.own hO)).mono ?_; rintro e ww ⟨rfl, hb⟩; replace hO := hO.call hb; clear hb)
        | ((with_reducible refine gLoad (T := 27) ?_); first | refine ldX hO 1 rfl rfl (tA rfl) (tS rfl) ?_)
        | ((with_reducible refine gStore (T := 31) ?_); refine stX hO 1 rfl rfl rfl rfl rfl (tS rfl) ?_; clear hO; intro ww hO)
        | ((with_reducible refine gStore (T := 27) ?_); refine stX hO 0 rfl rfl rfl rfl rfl (tS rfl) ?_; clear hO; intro ww hO)
        | ((with_reducible refine gStore (T := 24) ?_); refine stX hO 0 rfl rfl rfl rfl rfl (tS rfl) ?_; clear hO; intro ww hO)
        | ((with_reducible refine gBld (T := 31) ?_); refine own_bld (boxC n (.slice (some ⟨g, 0, none⟩) n1 n1) tg) (by kernel_rfl) ?_)
        | ((with_reducible refine gLoad (T := 25) ?_); first | refine ldC hO 0 rfl rfl (tA rfl) rfl ?_ | refine ldC hO 1 rfl rfl (tA rfl) rfl ?_ | refine ldC hO 2 rfl rfl (tA rfl) rfl ?_ | refine ldC hO 3 rfl rfl (tA rfl) rfl ?_ | refine ldC hO 4 rfl rfl (tA rfl) rfl ?_ | refine ldC hO 5 rfl rfl (tA rfl) rfl ?_ | refine ldC hO 6 rfl rfl (tA rfl) rfl ?_ | refine ldC hO 7 rfl rfl (tA rfl) rfl ?_)
        | ((with_reducible refine gLoad (T := 28) ?_); first | refine ldC hO 0 rfl rfl (tA rfl) rfl ?_ | refine ldC hO 1 rfl rfl (tA rfl) rfl ?_ | refine ldC hO 2 rfl rfl (tA rfl) rfl ?_ | refine ldC hO 3 rfl rfl (tA rfl) rfl ?_)
        | ((with_reducible refine gLoad (T := 24) ?_); first | refine ldA hO 4 key.C rfl rfl (tA rfl) (tS rfl) rfl ?_ | refine ldX hO 3 rfl rfl (tA rfl) (tS rfl) ?_ | refine ldX hO 4 rfl rfl (tA rfl) (tS rfl) ?_ | refine ldA hO 2 u.C rfl rfl (tA rfl) (tS rfl) rfl ?_ | refine ldA hO 1 u.C rfl rfl (tA rfl) (tS rfl) rfl ?_ | refine ldA hO 5 key.C rfl rfl (tA rfl) (tS rfl) rfl ?_ | refine ldA hO 6 key.C rfl rfl (tA rfl) (tS rfl) rfl ?_)
        | (go_at_call 10; refine (G1.out _ (hO.rd HR1.out) (HT.out.own hO)).mono ?_; rintro e ww ⟨g, C, rfl, hb, hh, hC⟩; replace hO := hO.add hb hh; clear hb hh)
        | (go_at_call 11; refine (G2.out _ _ _ (rd_blk_off (hO.blk 2 rfl) 0 (by rw [List.drop_zero]; exact hC) (by rw [u8s_length]; exact HTL.out) (Nat.le_refl _) (by simp [maxLen]; omega)) (HT.out.own hO)).mono ?_; rintro e ww ⟨rfl, hb⟩; replace hO := hO.call hb; clear hb)
        | ((with_reducible refine gEql (t := 24) ?_); refine eqD v_egW rfl rfl ?_; (with_reducible refine ⟨_, HQ.out, ?_⟩)))
      go_ret
      exact ⟨rfl, hO.below⟩
    · have d6 : decide ((6 : Int) < (n1 : Int)) = false := by simp; omega
      have HQ2 := Lib.hid (HQ2'.out (by omega))
      go_enter Tryd.func3, Tryd.ntmps3
      go_wp2_with (first
        | ((with_reducible refine gBox ?_); first | (refine bxA hO rfl ?_; clear hO; intro b ww hO) | (refine bx1 hO rfl rfl ?_; clear hO; intro b ww hO))
        | ((with_reducible refine gG ?_); refine wpList_want rfl ?_)
        | ((with_reducible refine gAlloc ?_); refine own_alloc hO _ _ iwz ?_; clear hO; intro bb ww hO)
        | ((with_reducible refine gAlloc (T := 31) ?_); refine own_alloc hO _ _ ibz ?_; clear hO; intro bx ww hO)
        | ((with_reducible refine gAlloc (T := 27) ?_); refine own_alloc hO _ _ irz ?_; clear hO; intro bn ww hO)
        | (go_at_call 9; refine (vlive_calls _ (HT.out.own hO)).mono ?_; rintro e ww ⟨rfl, hb⟩; replace hO := hO.call hb; clear hb)
        | ((with_reducible refine gLoad (T := 27) ?_); first | refine ldX hO 1 rfl rfl (tA rfl) (tS rfl) ?_)
        | ((with_reducible refine gStore (T := 31) ?_); refine stX hO 1 rfl rfl rfl rfl rfl (tS rfl) ?_; clear hO; intro ww hO)
        | ((with_reducible refine gStore (T := 27) ?_); refine stX hO 0 rfl rfl rfl rfl rfl (tS rfl) ?_; clear hO; intro ww hO)
        | ((with_reducible refine gStore (T := 24) ?_); refine stX hO 0 rfl rfl rfl rfl rfl (tS rfl) ?_; clear hO; intro ww hO)
        | ((with_reducible refine gBld (T := 31) ?_); refine own_bld (boxC n (.slice (some ⟨g, 0, none⟩) n1 n1) tg) (by kernel_rfl) ?_)
        | ((with_reducible refine gLoad (T := 25) ?_); first | refine ldC hO 0 rfl rfl (tA rfl) rfl ?_ | refine ldC hO 1 rfl rfl (tA rfl) rfl ?_ | refine ldC hO 2 rfl rfl (tA rfl) rfl ?_ | refine ldC hO 3 rfl rfl (tA rfl) rfl ?_ | refine ldC hO 4 rfl rfl (tA rfl) rfl ?_ | refine ldC hO 5 rfl rfl (tA rfl) rfl ?_ | refine ldC hO 6 rfl rfl (tA rfl) rfl ?_ | refine ldC hO 7 rfl rfl (tA rfl) rfl ?_)
        | ((with_reducible refine gLoad (T := 28) ?_); first | refine ldC hO 0 rfl rfl (tA rfl) rfl ?_ | refine ldC hO 1 rfl rfl (tA rfl) rfl ?_ | refine ldC hO 2 rfl rfl (tA rfl) rfl ?_ | refine ldC hO 3 rfl rfl (tA rfl) rfl ?_)
        | ((with_reducible refine gLoad (T := 24) ?_); first | refine ldA hO 4 key.C rfl rfl (tA rfl) (tS rfl) rfl ?_ | refine ldX hO 3 rfl rfl (tA rfl) (tS rfl) ?_ | refine ldX hO 4 rfl rfl (tA rfl) (tS rfl) ?_ | refine ldA hO 2 u.C rfl rfl (tA rfl) (tS rfl) rfl ?_ | refine ldA hO 1 u.C rfl rfl (tA rfl) (tS rfl) rfl ?_ | refine ldA hO 5 key.C rfl rfl (tA rfl) (tS rfl) rfl ?_ | refine ldA hO 6 key.C rfl rfl (tA rfl) (tS rfl) rfl ?_)
        | (go_at_call 10; refine (G1.out _ (hO.rd HR1.out) (HT.out.own hO)).mono ?_; rintro e ww ⟨g, C, rfl, hb, hh, hC⟩; replace hO := hO.add hb hh; clear hb hh)
        | (go_at_call 11; refine (G2.out _ _ _ (rd_blk_off (hO.blk 2 rfl) 0 (by rw [List.drop_zero]; exact hC) (by rw [u8s_length]; exact HTL.out) (Nat.le_refl _) (by simp [maxLen]; omega)) (HT.out.own hO)).mono ?_; rintro e ww ⟨rfl, hb⟩; replace hO := hO.call hb; clear hb)
        | ((with_reducible refine gEql (t := 24) ?_); refine eqD v_egW rfl rfl ?_; (with_reducible refine ⟨_, HQ.out, ?_⟩))
        | (go_at_call 12; (with_reducible refine gCall #[_, _, .slice a1 n1 c1] ?_); refine (G3.out _ (hO.rd HR1.out) (HT.out.own hO)).mono ?_; rintro e ww ⟨rfl, hb⟩; replace hO := hO.call hb; clear hb)
        | (go_at_call 12; refine (G4.out _ (hO.rd HR2.out) (HT.out.own hO)).mono ?_; rintro e ww ⟨rfl, hb⟩; replace hO := hO.call hb; clear hb))
      refine wp_region_textS (fun w' => Own wn w' _) (fun op => match op with | .load _ _ => true | .binOp _ 24 _ _ _ => true | _ => false) (by kernel_rfl) (by kernel_rfl) hO.drew ?_
      replace hO := hO.drew
      generalize World.drew _ = wd at hO ⊢
      go_wp2_with (first
        | (((with_reducible refine gIL ?_); first | refine wpI_ldS (fun w' hS => hS.blk 0 rfl) rfl rfl (tA rfl) (tS rfl) ?_ | refine wpI_ldS (fun w' hS => hS.blk 1 rfl) rfl rfl (tA rfl) (tS rfl) ?_); first | (refine wpI_act (by simp only [Act.put, List.setIfInBounds_toArray, List.set_cons_succ, List.set_cons_zero]; rfl) ?_) | skip)
        | ((with_reducible refine gIE (t := 24) ?_); refine wpI_eqD v_egW v_flW rfl rfl rfl ?_; (with_reducible refine ⟨_, HQ2.out, ?_⟩); first | (refine wpI_act (by simp only [Act.put, List.setIfInBounds_toArray, List.set_cons_succ, List.set_cons_zero]; rfl) ?_) | skip)
        | (go_at_call 13; refine (same_calls _ _ _ _ _ _ as_ bs _ (hO.rd HR1.out) (hO.rd HR2.out)).mono ?_; rw [HD.out]; rintro e ww ⟨rfl, rfl⟩)
        | ((with_reducible refine gI ?_); refine wpI_step rfl rfl (by kernel_rfl) ?_; intro K hK; have HK := Lib.hid hK; clear hK) | ((with_reducible refine gI ?_); first | refine wpI_skip rfl ?_ | refine wpI_want rfl ?_) | ((with_reducible refine gOnlyK HK.out ?_ ?_); exact hO; clear HK K; first | (refine wpI_act (by simp only [Act.put, List.setIfInBounds_toArray, List.set_cons_succ, List.set_cons_zero]; rfl) ?_) | skip) | (with_reducible refine wpI_nil ?_))
      go_ret
      exact ⟨rfl, hO.below⟩
end Go.Proofs.YtekiloagckkneaaDoor
