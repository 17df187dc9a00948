/- Of several texts of this claim, one behind the other: Vu Vx Vy Vz Vo Sk Sl Sm Sn Sq Sj So Sz. -/
import Derived.Test.YtniibdglodnhoaaGreatDoorU9
import Derived.Laws.StructEq
import Derived.ChangeSame

/- Walks of the document's Tag, and its refusal. -/
namespace Go.Proofs.YtniibdglodnhoaaGreatDoor
open Go.RowKit Go.Own Go.Bv Go.Ord Go.Eq

set_option maxHeartbeats 4000000 in
set_option maxRecDepth 100000 in
theorem rtag_ok (key : St) (n : BitVec 64) (a : Option Addr) (len cap : Nat) (t : List (BitVec 8)) (w : World) (hR : Rd w 1 a len cap (u8s t)) (hl : len ≤ 65536) :
    Calls Tryz.prog 46 #[.agg key.C, .int .u64 (n.toNat : Int), .slice a len cap] w fun e w' => e = .returned (.tuple #[.agg (key.tag n t).C, .int .i64 0]) ∧ Below w.heap.size w w' := by
  have hO := Own.start w
  obtain ⟨E8, hE8⟩ : ∃ L, eight n = L := ⟨_, rfl⟩
  obtain ⟨L9, hL9⟩ : ∃ L, E8 ++ [2#8] = L := ⟨_, rfl⟩
  obtain ⟨L, hL⟩ : ∃ L, L9 ++ t = L := ⟨_, rfl⟩
  obtain ⟨u, hu⟩ : ∃ u, key.absorb L = u := ⟨_, rfl⟩
  have hS : key.tag n t = u := by rw [← hu, ← hL, ← hL9, ← hE8]; rfl
  have g1 := fun w => reight_calls n w
  have g2 := fun w a c hR => rabsorb_ok key a (9 + len) c L w hR (by omega)
  rw [hE8] at g1
  rw [hu] at g2
  rw [hS]
  have HL9 : Hid (u8s L9 = u8s E8 ++ u8s [2#8]) := by show _ = _; rw [← hL9, u8s_append']
  have HL : Hid (u8s L = u8s L9 ++ u8s t) := by show _ = _; rw [← hL, u8s_append']
  have G1 := Lib.hid g1
  have G2 := Lib.hid g2
  have HR := Lib.hid hR
  have d1 : decide ((65536 : Int) < (len : Int)) = false := by simp; omega
  clear hR g1 g2 hL9 hL hu hS hE8
  generalize hW : w = wn at hO HR ⊢
  clear hW w
  go_enter Tryz.func46, Tryz.ntmps46
  go_wp2_with (first | ((with_reducible refine gBox ?_); first | (refine bxA hO rfl ?_; clear hO; intro b ww hO) | (refine bx1 hO rfl rfl ?_; clear hO; intro b ww hO)) | ((with_reducible refine gAlloc ?_); refine own_alloc hO _ _ iwz ?_; clear hO; intro rr ww hO))
  replace hO : Own wn _ [.blk rr (.cells St.zero.C 24 (0,0)), .blk b (.cells key.C 24 (0,0))] := hO
  refine wp_region_float (fun w' => Own wn w' [.blk b (.cells key.C 24 (0,0))]) (fun op => match op with | .load _ _ => true | _ => false) [.n, .n, .b, .z, .m, .n, .n, .n, .n, .n, .n, .n] (by kernel_rfl) (by kernel_rfl) (hO.drew.sub (by repeat first | exact List.Sublist.refl _ | apply List.Sublist.cons)) ?_
  dsimp only [zipF, zOf]
  replace hO := hO.drew
  generalize World.drew _ = wd at hO ⊢
  go_wp2_with (first
    | (((with_reducible refine gIL ?_); first | refine wpI_ldS (fun w' hS => hS.blk 0 rfl) rfl rfl (tA rfl) (tS rfl) ?_); first | (refine wpI_act (by simp only [Act.put, List.setIfInBounds_toArray, List.set_cons_succ, List.set_cons_zero]; rfl) ?_) | skip)
    | ((with_reducible refine gStore ?_); refine stX hO 2 rfl rfl rfl rfl rfl (tS rfl) ?_; clear hO; intro ww hO)
    | ((with_reducible refine gBuild ?_); refine own_build hO 29 1 _ eu8_8 (u8s [2#8]).toArray (by omega) (by omega) (by simp [go_sem, Instr.fill, u8s]) rfl ?_; clear hO; intro g ww hO)
    | (go_at_call 63; refine (G1.out _).mono ?_; rintro e ww ⟨a2, c2, rfl, hb, hr⟩; replace hO := hO.addRow hb hr; clear hb hr)
    | ((with_reducible refine gAppend ?_); first
        | (refine own_append hO 1 _ _ 29 eu8_8 rfl rfl rfl (hO.rdAt 0 rfl) (u8s_one _) 9 rfl (by simp [maxLen]) (by omega) ?_; clear hO; intro a3 c3 ww hO)
        | (refine own_append hO 0 _ _ 29 eu8_8 rfl rfl rfl (hO.rdAt 1 rfl) (u8s_one _) 9 rfl (by simp [maxLen]) (by omega) ?_; clear hO; intro a3 c3 ww hO)
        | (refine own_append hO 1 _ _ 29 eu8_8 rfl rfl rfl (hO.rd HR.out) (u8s_one _) (9 + len) rfl (by simp [maxLen]; omega) (by omega) ?_; clear hO; intro a4 c4 ww hO)
        | (refine own_append hO 0 _ _ 29 eu8_8 rfl rfl rfl (hO.rd HR.out) (u8s_one _) (9 + len) rfl (by simp [maxLen]; omega) (by omega) ?_; clear hO; intro a4 c4 ww hO))
    | (go_at_call 74; (first | refine (G2.out _ _ _ (by rw [HL.out, HL9.out]; exact hO.rdAt 1 rfl)).mono ?_ | refine (G2.out _ _ _ (by rw [HL.out, HL9.out]; exact hO.rdAt 0 rfl)).mono ?_); rintro e ww ⟨rfl, hb⟩; replace hO := hO.call hb; clear hb)
    | ((with_reducible refine wpF_n ?_ ?_); exact hO.sub (by repeat first | exact List.Sublist.refl _ | apply List.Sublist.cons)) | ((with_reducible refine wpF_b ?_ ?_ ?_); exact hO.sub (by repeat first | exact List.Sublist.refl _ | apply List.Sublist.cons); dsimp only [List.map]) | ((with_reducible refine wpF_m ?_); dsimp only [List.map]) | ((with_reducible refine wpI_nilS ?_ ?_); exact hO.sub (by repeat first | exact List.Sublist.refl _ | apply List.Sublist.cons))
    | ((with_reducible refine gI ?_); refine wpI_step rfl rfl (by kernel_rfl) ?_; intro K hK; have HK := Lib.hid hK; clear hK) | ((with_reducible refine gI ?_); first | refine wpI_skip rfl ?_ | refine wpI_want rfl ?_) | ((with_reducible refine gOnlyK HK.out ?_ ?_); exact hO.sub (by repeat first | exact List.Sublist.refl _ | apply List.Sublist.cons); clear HK K; first | (refine wpI_act (by simp only [Act.put, List.setIfInBounds_toArray, List.set_cons_succ, List.set_cons_zero]; rfl) ?_) | skip) | (with_reducible refine wpI_nil ?_))
  all_goals refine bodyPost_ret (res_ct rfl _ _ rr 24 u.C (0,0) _ rfl (hO.blk 2 rfl) Tryz.underlying24 rfl (iws' _)) rfl ⟨rfl, hO.below⟩
end Go.Proofs.YtniibdglodnhoaaGreatDoor

/- Refusals: Stream, hide of the program; Stream of the document; its Seal and Open of too long a text, its Seal of a ring that is full. -/
namespace Go.Proofs.YtniibdglodnhoaaGreatDoor
open Go.RowKit Go.Own Go.Bv Go.Ord Go.Eq

set_option maxHeartbeats 1000000 in
set_option maxRecDepth 100000 in
theorem rseal_full (key : St) (a : Option Addr) (len cap : Nat) (hl : len ≤ 65536) (w : World) :
    Calls Tryz.prog 32 #[.agg (ringC key 18446744073709551615#64), .slice a len cap] w fun e w' => e = .returned (.tuple #[.agg (boxC 0#64 (.slice none 0 0) St.zero), .agg (ringC St.zero 0#64), .int .i64 6]) ∧ Below w.heap.size w w' := by
  have hO := Own.start w
  have d1 : decide ((65536 : Int) < (len : Int)) = false := by simp; omega
  generalize hW : w = wn at hO ⊢
  clear hW w
  go_enter Tryz.func32, Tryz.ntmps32
  go_wp2_with (first
    | ((with_reducible refine gBox ?_); first | (refine bxA hO rfl ?_; clear hO; intro br ww hO) | (refine bx1 hO rfl rfl ?_; clear hO; intro br ww hO))
    | ((with_reducible refine gLoad (T := 25) ?_); refine ldC hO 2 rfl rfl (tA rfl) rfl ?_)
    | ((with_reducible refine gAlloc (T := 54) ?_); refine own_alloc hO _ _ ibz ?_; clear hO; intro bx ww hO)
    | ((with_reducible refine gAlloc (T := 27) ?_); refine own_alloc hO _ _ irz ?_; clear hO; intro bn ww hO)
    | ((with_reducible refine gStore (T := 54) ?_); refine stX hO 1 rfl rfl rfl rfl rfl (tS rfl) ?_; clear hO; intro ww hO)
    | ((with_reducible refine gStore (T := 27) ?_); refine stX hO 0 rfl rfl rfl rfl rfl (tS rfl) ?_; clear hO; intro ww hO))
  refine bodyPost_ret (res_cct rfl _ _ bx bn 54 27 (boxC 0#64 (.slice none 0 0) St.zero) (ringC St.zero 0#64) (0,0) (0,0) _ _ rfl (hO.blk 1 rfl) Tryz.underlying54 rfl (ibs _ _ _) rfl (hO.blk 0 rfl) Tryz.underlying27 rfl (irs _ _)) rfl ⟨rfl, hO.below⟩
end Go.Proofs.YtniibdglodnhoaaGreatDoor

/- Refusals: Seal and Open of too long a text; the document's Open of too long a text, or a wrong tag. -/
namespace Go.Proofs.YtniibdglodnhoaaGreatDoor
open Go.RowKit Go.Own Go.Bv Go.Ord Go.Eq

set_option maxHeartbeats 2000000 in
set_option maxRecDepth 100000 in
theorem ropen_bad (key : St) (n : BitVec 64) (a : Option Addr) (len cap : Nat) (t : List (BitVec 8)) (v : St) (w : World) (hR : Rd w 1 a len cap (u8s t)) (hl : len ≤ 65536) (hv : v ≠ key.tag n t) :
    Calls Tryz.prog 25 #[.agg key.C, .agg (boxC n (.slice a len cap) v)] w fun e w' => e = .returned (.tuple #[.slice none 0 0, .int .i64 8]) ∧ Below w.heap.size w w' := by
  have hO := Own.start w
  obtain ⟨u, hu⟩ : ∃ u, key.tag n t = u := ⟨_, rfl⟩
  have g1 := fun w hR => rtag_ok key n a len cap t w hR hl
  rw [hu] at g1 hv
  have HQ : Hid (∀ w, (binOp .neq 24 (.agg u.C) (.agg v.C)).run Tryz.prog w = .ok (.bool true) w) := fun w => by rw [neW, decide_eq_false (Ne.symm hv)]; rfl
  have G1 := Lib.hid g1
  have HR := Lib.hid hR
  clear hR g1 hu hv
  generalize hW : w = wn at hO HR ⊢
  clear hW w
  go_enter Tryz.func25, Tryz.ntmps25
  go_wp2_with (first
    | ((with_reducible refine gBox ?_); first | (refine bxA hO rfl ?_; clear hO; intro bx ww hO) | (refine bx1 hO rfl rfl ?_; clear hO; intro bx ww hO))
    | ((with_reducible refine gAlloc ?_); refine own_alloc hO _ _ iwz ?_; clear hO; intro bt ww hO)
    | ((with_reducible refine gLoad (T := 24) ?_); first | refine ldX hO 1 rfl rfl (tA rfl) (tS rfl) ?_ | refine ldX hO 0 rfl rfl (tA rfl) (tS rfl) ?_ | refine ldA hO 1 v.C rfl rfl (tA rfl) (tS rfl) rfl ?_ | refine ldX hO 2 rfl rfl (tA rfl) (tS rfl) ?_)
    | ((with_reducible refine gLoad (T := 25) ?_); first | refine ldC hO 0 rfl rfl (tA rfl) rfl ?_ | refine ldC hO 1 rfl rfl (tA rfl) rfl ?_)
    | ((with_reducible refine gLoad (T := 29) ?_); first | refine ldC hO 0 rfl rfl (tA rfl) rfl ?_ | refine ldC hO 1 rfl rfl (tA rfl) rfl ?_)
    | ((with_reducible refine gStore (T := 24) ?_); refine stX hO 0 rfl rfl rfl rfl rfl (tS rfl) ?_; clear hO; intro ww hO)
    | (go_at_call 46; refine (G1.out _ (hO.rd HR.out)).mono ?_; rintro e ww ⟨rfl, hb⟩; replace hO := hO.call hb; clear hb)
    | ((with_reducible refine gNeq (t := 24) ?_); refine neD v_egW rfl rfl ?_; (with_reducible refine ⟨_, HQ.out, ?_⟩)))
  go_ret2
  exact ⟨rfl, hO.below⟩
end Go.Proofs.YtniibdglodnhoaaGreatDoor

/- Walk of the document's Stream. -/
namespace Go.Proofs.YtniibdglodnhoaaGreatDoor
open Go.RowKit Go.Own Go.Bv Go.Ord Go.Eq

set_option maxHeartbeats 4000000 in
set_option maxRecDepth 100000 in
theorem rstream_ok (key : St) (n : BitVec 64) (m : Nat) (hm : m ≤ 65536) (w : World) :
    Calls Tryz.prog 75 #[.agg key.C, .int .u64 (n.toNat : Int), .int .i64 (m : Int)] w fun e w' => ∃ a c, e = .returned (.tuple #[.slice a m c, .int .i64 0]) ∧ Below w.heap.size w w' ∧ Rd w' 1 a m c (u8s (key.stream n m)) := by
  have hO := Own.start w
  obtain ⟨E8, hE8⟩ : ∃ L, eight n = L := ⟨_, rfl⟩
  obtain ⟨L9, hL9⟩ : ∃ L, E8 ++ [1#8] = L := ⟨_, rfl⟩
  obtain ⟨u, hu⟩ : ∃ u, key.absorb L9 = u := ⟨_, rfl⟩
  obtain ⟨X, hX⟩ : ∃ X, u.squeeze m = X := ⟨_, rfl⟩
  have hS : key.stream n m = X := by rw [← hX, ← hu, ← hL9, ← hE8]; rfl
  have g1 := fun w => reight_calls n w
  have g2 := fun w a c hR => rabsorb_ok key a 9 c L9 w hR (by omega)
  have g3 := fun w => rsqueeze_ok u m (by omega) w
  rw [hE8] at g1
  rw [hu] at g2
  rw [hX] at g3
  rw [hS]
  have HL9 : Hid (u8s L9 = u8s E8 ++ u8s [1#8]) := by show _ = _; rw [← hL9, u8s_append']
  have G1 := Lib.hid g1
  have G2 := Lib.hid g2
  have G3 := Lib.hid g3
  have d0 : decide ((m : Int) < 0) = false := by simp
  have d1 : decide ((65536 : Int) < (m : Int)) = false := by simp; omega
  clear g1 g2 g3 hL9 hu hX hS hE8
  generalize hW : w = wn at hO ⊢
  clear hW w
  go_enter Tryz.func75, Tryz.ntmps75
  go_wp2_with (first | ((with_reducible refine gBox ?_); first | (refine bxA hO rfl ?_; clear hO; intro b ww hO) | (refine bx1 hO rfl rfl ?_; clear hO; intro b ww hO)))
  replace hO : Own wn _ [.blk b (.cells key.C 24 (0,0))] := hO
  refine wp_region_plan (fun w' => Own wn w' [.blk b (.cells key.C 24 (0,0))]) (fun op => match op with | .load _ _ => true | _ => false) (.one 0 (.one 1 (.br 2 (.br 3 (.br 4 (.br 5 (.one 6 (.one 7 (.one 8 (.one 9 (.one 10 (.one 11 (.done))))))) (.one 9 (.one 5 (.one 6 (.one 7 (.one 8 (.one 10 (.one 11 (.done))))))))) (.one 9 (.one 4 (.one 5 (.one 6 (.one 7 (.one 8 (.one 10 (.one 11 (.done)))))))))) (.one 9 (.one 3 (.one 4 (.one 5 (.one 6 (.one 7 (.one 8 (.one 10 (.one 11 (.done))))))))))) (.br 3 (.br 2 (.br 4 (.br 5 (.one 6 (.one 7 (.one 8 (.one 9 (.one 10 (.one 11 (.done))))))) (.one 9 (.one 5 (.one 6 (.one 7 (.one 8 (.one 10 (.one 11 (.done))))))))) (.one 9 (.one 4 (.one 5 (.one 6 (.one 7 (.one 8 (.one 10 (.one 11 (.done)))))))))) (.one 9 (.one 2 (.one 4 (.one 5 (.one 6 (.one 7 (.one 8 (.one 10 (.one 11 (.done))))))))))) (.one 9 (.br 2 (.one 3 (.one 4 (.one 5 (.one 6 (.one 7 (.one 8 (.one 10 (.one 11 (.done))))))))) (.one 3 (.one 2 (.one 4 (.one 5 (.one 6 (.one 7 (.one 8 (.one 10 (.one 11 (.done)))))))))))))))) (by kernel_rfl) (by kernel_rfl) hO.drew ?_
  dsimp only [Plan.withOps, planAt]
  replace hO := hO.drew
  generalize World.drew _ = wd at hO ⊢
  go_wp2_with (first
    | (((with_reducible refine gIL ?_); first | refine wpI_ldS (fun w' hS => hS.blk 0 rfl) rfl rfl (tA rfl) (tS rfl) ?_); first | (refine wpI_act (by simp only [Act.put, List.setIfInBounds_toArray, List.set_cons_succ, List.set_cons_zero]; rfl) ?_) | skip)
    | ((with_reducible refine gLoad ?_); first | refine ldX hO 0 rfl rfl (tA rfl) (tS rfl) ?_ | refine ldC hO 0 rfl rfl (tA rfl) rfl ?_ | refine ldX hO 1 rfl rfl (tA rfl) (tS rfl) ?_ | refine ldC hO 1 rfl rfl (tA rfl) rfl ?_ | refine ldX hO 2 rfl rfl (tA rfl) (tS rfl) ?_ | refine ldC hO 2 rfl rfl (tA rfl) rfl ?_ | refine ldX hO 3 rfl rfl (tA rfl) (tS rfl) ?_ | refine ldC hO 3 rfl rfl (tA rfl) rfl ?_ | refine ldX hO 4 rfl rfl (tA rfl) (tS rfl) ?_ | refine ldC hO 4 rfl rfl (tA rfl) rfl ?_)
    | ((with_reducible refine gStore ?_); first | (refine stX hO 0 rfl rfl rfl rfl rfl (tS rfl) ?_; clear hO; intro ww hO) | (refine stC hO 0 rfl rfl rfl (ltb rfl) rfl (tS rfl) ?_; clear hO; intro ww hO) | (refine stX hO 1 rfl rfl rfl rfl rfl (tS rfl) ?_; clear hO; intro ww hO) | (refine stC hO 1 rfl rfl rfl (ltb rfl) rfl (tS rfl) ?_; clear hO; intro ww hO) | (refine stX hO 2 rfl rfl rfl rfl rfl (tS rfl) ?_; clear hO; intro ww hO) | (refine stC hO 2 rfl rfl rfl (ltb rfl) rfl (tS rfl) ?_; clear hO; intro ww hO) | (refine stX hO 3 rfl rfl rfl rfl rfl (tS rfl) ?_; clear hO; intro ww hO) | (refine stC hO 3 rfl rfl rfl (ltb rfl) rfl (tS rfl) ?_; clear hO; intro ww hO))
    | ((with_reducible refine gAlloc ?_); refine own_alloc hO _ _ iwz ?_; clear hO; intro bb ww hO)
    | ((with_reducible refine gBuild ?_); refine own_build hO 29 1 _ eu8_8 (u8s [1#8]).toArray (by omega) (by omega) (by simp [go_sem, Instr.fill, u8s]) rfl ?_; clear hO; intro g ww hO)
    | (go_at_call 63; refine (G1.out _).mono ?_; rintro e ww ⟨a2, c2, rfl, hb, hr⟩; replace hO := hO.addRow hb hr; clear hb hr)
    | ((with_reducible refine gAppend ?_); first
        | (refine own_append hO 1 _ _ 29 eu8_8 rfl rfl rfl (hO.rdAt 0 rfl) (u8s_one _) 9 rfl (by simp [maxLen]) (by omega) ?_; clear hO; intro a3 c3 ww hO)
        | (refine own_append hO 0 _ _ 29 eu8_8 rfl rfl rfl (hO.rdAt 1 rfl) (u8s_one _) 9 rfl (by simp [maxLen]) (by omega) ?_; clear hO; intro a3 c3 ww hO)
        | (refine own_append hO 2 _ _ 29 eu8_8 rfl rfl rfl (hO.rdAt 0 rfl) (u8s_one _) 9 rfl (by simp [maxLen]) (by omega) ?_; clear hO; intro a3 c3 ww hO)
        | (refine own_append hO 0 _ _ 29 eu8_8 rfl rfl rfl (hO.rdAt 2 rfl) (u8s_one _) 9 rfl (by simp [maxLen]) (by omega) ?_; clear hO; intro a3 c3 ww hO)
        | (refine own_append hO 1 _ _ 29 eu8_8 rfl rfl rfl (hO.rdAt 2 rfl) (u8s_one _) 9 rfl (by simp [maxLen]) (by omega) ?_; clear hO; intro a3 c3 ww hO)
        | (refine own_append hO 2 _ _ 29 eu8_8 rfl rfl rfl (hO.rdAt 1 rfl) (u8s_one _) 9 rfl (by simp [maxLen]) (by omega) ?_; clear hO; intro a3 c3 ww hO))
    | (go_at_call 74; (first | refine (G2.out _ _ _ (by rw [HL9.out]; exact hO.rdAt 1 rfl)).mono ?_ | refine (G2.out _ _ _ (by rw [HL9.out]; exact hO.rdAt 0 rfl)).mono ?_ | refine (G2.out _ _ _ (by rw [HL9.out]; exact hO.rdAt 2 rfl)).mono ?_); rintro e ww ⟨rfl, hb⟩; replace hO := hO.call hb; clear hb)
    | (go_at_call 106; refine (G3.out _).mono ?_; rintro e ww ⟨a5, c5, rfl, hb, hX⟩; replace hO := hO.call hb; clear hb)
    | ((with_reducible refine wpO_one ?_ ?_); exact hO.sub (by repeat first | exact List.Sublist.refl _ | apply List.Sublist.cons)) | ((with_reducible refine wpO_br ?_ ?_ ?_); exact hO.sub (by repeat first | exact List.Sublist.refl _ | apply List.Sublist.cons)) | ((with_reducible refine wpI_nilS ?_ ?_); exact hO.sub (by repeat first | exact List.Sublist.refl _ | apply List.Sublist.cons)) | (with_reducible refine wpO_done ?_)
    | ((with_reducible refine gI ?_); refine wpI_step rfl rfl (by kernel_rfl) ?_; intro K hK; have HK := Lib.hid hK; clear hK) | ((with_reducible refine gI ?_); first | refine wpI_skip rfl ?_ | refine wpI_want rfl ?_) | ((with_reducible refine gOnlyK HK.out ?_ ?_); exact hO.sub (by repeat first | exact List.Sublist.refl _ | apply List.Sublist.cons); clear HK K; first | (refine wpI_act (by simp only [Act.put, List.setIfInBounds_toArray, List.set_cons_succ, List.set_cons_zero]; rfl) ?_) | skip) | (with_reducible refine wpI_nil ?_))
  all_goals
    go_ret2
    exact ⟨_, _, rfl, hO.below, hX⟩
end Go.Proofs.YtniibdglodnhoaaGreatDoor

/- Walks of the document's hidden, Open, Seal. -/
namespace Go.Proofs.YtniibdglodnhoaaGreatDoor
open Go.RowKit Go.Own Go.Bv Go.Ord Go.Eq

theorem hide_get' (key : St) (n : BitVec 64) (b : List (BitVec 8)) (k : Nat) (hk : k < b.length) : (key.hide n b).take (k + 1) = (key.hide n b).take k ++ [b[k] ^^^ ((key.stream n b.length)[k]'(by rw [St.stream_length]; exact hk))] := by
  have hl : k < (key.hide n b).length := by rw [St.hide_length]; exact hk
  rw [List.take_succ_eq_append_getElem hl]
  congr 2
  have h := St.hide_get (k := key) (n := n) (b := b) (i := k) 0 hk
  rw [List.getElem?_eq_getElem hl] at h
  exact Option.some.inj h

theorem hide_get2 (key : St) (n : BitVec 64) (b : List (BitVec 8)) (len : Nat) (hbl : b.length = len) (s : List (BitVec 8)) (hs : key.stream n len = s) (H : List (BitVec 8)) (hH : key.hide n b = H) :
    ∀ k (hk : k < len), H.take (k + 1) = H.take k ++ [(b[k]'(by omega)) ^^^ (s[k]'(by rw [← hs, St.stream_length]; exact hk))] := by
  subst hbl hs hH
  exact fun k hk => hide_get' key n b k hk

set_option maxHeartbeats 4000000 in
set_option maxRecDepth 100000 in
theorem rhidden_ok (key : St) (n : BitVec 64) (a : Option Addr) (len cap : Nat) (b : List (BitVec 8)) (w : World) (hR : Rd w 1 a len cap (u8s b)) (hl : len ≤ 65536) :
    Calls Tryz.prog 47 #[.agg key.C, .int .u64 (n.toNat : Int), .slice a len cap] w fun e w' => ∃ a' c', e = .returned (.slice a' len c') ∧ Below w.heap.size w w' ∧ w'.ownsRow w.heap.size 5 1 (.slice a' len c') len (u8s (key.hide n b)) := by
  have hO := Own.start w
  have hbl : b.length = len := by have := hR.len; rw [u8s_length] at this; omega
  obtain ⟨s, hs⟩ : ∃ s, key.stream n len = s := ⟨_, rfl⟩
  have hsl : s.length = b.length := by rw [← hs, St.stream_length, hbl]
  obtain ⟨H, hH⟩ : ∃ H, key.hide n b = H := ⟨_, rfl⟩
  have hHl : H.length = len := by rw [← hH, St.hide_length, hbl]
  have hnx2 := hide_get2 key n b len hbl s hs H hH
  rw [hH]
  have g1 := fun w => rstream_ok key n len hl w
  rw [hs] at g1
  have G1 := Lib.hid g1
  have HR := Lib.hid hR
  have HBL := Lib.hid hbl
  have HSL := Lib.hid hsl
  have HNX := Lib.hid hnx2
  have HHL := Lib.hid hHl
  clear hR g1 hsl hnx2 hHl
  generalize hW : w = wn at hO HR ⊢
  clear hW w
  go_enter Tryz.func47, Tryz.ntmps47
  go_wp2_with (first
    | ((with_reducible refine gBox ?_); first | (refine bxA hO rfl ?_; clear hO; intro bk ww hO) | (refine bx1 hO rfl rfl ?_; clear hO; intro bk ww hO))
    | ((with_reducible refine gLoad ?_); first | refine ldX hO 0 rfl rfl (tA rfl) (tS rfl) ?_ | refine ldC hO 0 rfl rfl (tA rfl) rfl ?_)
    | (go_at_call 75; refine (G1.out _).mono ?_; rintro e ww ⟨aS, cS, rfl, hb, hX⟩; replace hO := hO.call hb; clear hb; have HX := Lib.hid hX; clear hX))
  have HB0 := Lib.hid hO.below
  have HR2 := Lib.hid (hO.rd HR.out)
  have hO2 := Own.start ww
  clear hO HR
  have hO := hO2
  clear hO2
  generalize hW : ww = w1 at hO HX HR2 HB0 ⊢
  clear hW ww
  go_loopg [9, 21] len (fun mm s9 cc wr => ∃ (k : Nat) (aO : Option Addr) (cO : Nat), mm = len - k ∧ k ≤ len ∧ cc = .int .i64 (k : Int) ∧ s9 = .slice aO k cO ∧ Own w1 wr [.sl 5 1 (.slice aO k cO) k (u8s (H.take k))])
  case atStart => exact ⟨0, none, 0, rfl, by omega, rfl, rfl, hO.addRow (Below.refl _ _) (World.ownsRow_nil _ _ _ _)⟩
  case round =>
    obtain ⟨k, aO, cO, rfl, hk, rfl, rfl, hO1⟩ := hrel
    clear hO
    have hO := hO1
    clear hO1
    by_cases hlt : k < len
    · have hb0 : decide ((k : Int) < (len : Int)) = true := decide_eq_true (by omega)
      have hkb : k < b.length := by rw [HBL.out]; exact hlt
      have hks : k < s.length := by rw [HSL.out]; exact hkb
      have HB := Lib.hid (u8s_get b k hkb)
      have HS := Lib.hid (u8s_get s k hks)
      have HN := Lib.hid (HNX.out k hlt)
      obtain ⟨b0, off, rfl⟩ := HR2.out.place (by omega)
      obtain ⟨s0, offs, rfl⟩ := HX.out.place (by omega)
      generalize s[k] = x at *
      generalize b[k] = y at *
      have e := xor8 y x
      generalize y ^^^ x = z at *
      have HUA : Hid (u8s (H.take (k + 1)) = u8s (H.take k) ++ u8s [z]) := by show _ = _; rw [HN.out]; unfold u8s; rw [List.map_append]
      clear hkb hks
      go_wp2
      refine wp_region_text (by kernel_rfl) (by kernel_rfl) ?_
      replace hO := hO.drew
      generalize World.drew _ = wd at hO ⊢
      go_wp2_with (first
        | ((with_reducible refine gLoad (T := 5) ?_); first | refine ld_rd (hO.rd HR2.out) rfl HB.out (tA rfl) ?_ | refine ld_rd (hO.rd HX.out) rfl HS.out (tA rfl) ?_)
        | ((with_reducible refine gBuild (T := 29) ?_); refine own_build hO 29 1 _ eu8_8 (u8s [z]).toArray (by omega) (by omega) (by kernel_rfl) rfl ?_; clear hO; intro g2 ww hO)
        | ((with_reducible refine gAppend ?_); refine own_append hO 1 _ _ 29 eu8_8 rfl rfl rfl (hO.rdAt 0 rfl) (u8s_one _) (k + 1) rfl (by simp [maxLen]; omega) (by omega) ?_; clear hO; intro a2 c2 ww hO)
        | ((with_reducible refine gI ?_); refine wpI_step rfl rfl (by kernel_rfl) ?_; intro K hK; have HK := Lib.hid hK; clear hK) | ((with_reducible refine gI ?_); first | refine wpI_skip rfl ?_ | refine wpI_want rfl ?_) | ((with_reducible refine gOnlyK0 HK.out ?_); clear HK K; first | (refine wpI_act (by simp only [Act.put, List.setIfInBounds_toArray, List.set_cons_succ, List.set_cons_zero]; rfl) ?_) | skip) | (with_reducible refine wpI_nil ?_))
      go_roundg (len - (k + 1))
      case measure => omega
      case rel => exact ⟨k + 1, a2, c2, rfl, by omega, by go_num, rfl, by rw [HUA.out]; exact hO.tail⟩
    · obtain rfl : k = len := by omega
      have HT : Hid (H.take k = H) := List.take_of_length_le (by rw [HHL.out]; exact Nat.le_refl _)
      rw [HT.out] at hO
      go_wp2
      go_ret
      exact ⟨aO, cO, rfl, HB0.out.trans (hO.below.mono HB0.out.size), Res.holds.mono (r := .sl 5 1 (.slice aO k cO) k (u8s H)) (hO.at 0 rfl) HB0.out.size⟩

set_option maxHeartbeats 2000000 in
set_option maxRecDepth 100000 in
theorem ropen_ok (key : St) (n : BitVec 64) (a : Option Addr) (len cap : Nat) (t : List (BitVec 8)) (w : World) (hR : Rd w 1 a len cap (u8s t)) (hl : len ≤ 65536) :
    Calls Tryz.prog 25 #[.agg key.C, .agg (boxC n (.slice a len cap) (key.tag n t))] w fun e w' => ∃ a' c', e = .returned (.tuple #[.slice a' len c', .int .i64 0]) ∧ Below w.heap.size w w' ∧ w'.ownsRow w.heap.size 5 1 (.slice a' len c') len (u8s (key.hide n t)) := by
  have hO := Own.start w
  obtain ⟨u, hu⟩ : ∃ u, key.tag n t = u := ⟨_, rfl⟩
  obtain ⟨X, hX⟩ : ∃ X, key.hide n t = X := ⟨_, rfl⟩
  have g1 := fun w hR => rtag_ok key n a len cap t w hR hl
  have g2 := fun w hR => rhidden_ok key n a len cap t w hR hl
  rw [hu] at g1
  rw [hX] at g2
  rw [hu, hX]
  have HQ : Hid (∀ w, (binOp .neq 24 (.agg u.C) (.agg u.C)).run Tryz.prog w = .ok (.bool false) w) := fun w => by rw [neW, decide_eq_true rfl]; rfl
  have G1 := Lib.hid g1
  have G2 := Lib.hid g2
  have HR := Lib.hid hR
  clear hR g1 g2 hu hX
  generalize hW : w = wn at hO HR ⊢
  clear hW w
  go_enter Tryz.func25, Tryz.ntmps25
  go_wp2_with (first
    | ((with_reducible refine gBox ?_); first | (refine bxA hO rfl ?_; clear hO; intro bx ww hO) | (refine bx1 hO rfl rfl ?_; clear hO; intro bx ww hO))
    | ((with_reducible refine gAlloc ?_); refine own_alloc hO _ _ iwz ?_; clear hO; intro bt ww hO)
    | ((with_reducible refine gLoad (T := 24) ?_); first | refine ldX hO 1 rfl rfl (tA rfl) (tS rfl) ?_ | refine ldX hO 0 rfl rfl (tA rfl) (tS rfl) ?_ | refine ldA hO 1 u.C rfl rfl (tA rfl) (tS rfl) rfl ?_ | refine ldX hO 2 rfl rfl (tA rfl) (tS rfl) ?_)
    | ((with_reducible refine gLoad (T := 25) ?_); first | refine ldC hO 0 rfl rfl (tA rfl) rfl ?_ | refine ldC hO 1 rfl rfl (tA rfl) rfl ?_)
    | ((with_reducible refine gLoad (T := 29) ?_); first | refine ldC hO 0 rfl rfl (tA rfl) rfl ?_ | refine ldC hO 1 rfl rfl (tA rfl) rfl ?_)
    | ((with_reducible refine gStore (T := 24) ?_); refine stX hO 0 rfl rfl rfl rfl rfl (tS rfl) ?_; clear hO; intro ww hO)
    | (go_at_call 46; refine (G1.out _ (hO.rd HR.out)).mono ?_; rintro e ww ⟨rfl, hb⟩; replace hO := hO.call hb; clear hb)
    | ((with_reducible refine gNeq (t := 24) ?_); refine neD v_egW rfl rfl ?_; (with_reducible refine ⟨_, HQ.out, ?_⟩))
    | (go_at_call 47; refine (G2.out _ (hO.rd HR.out)).mono ?_; rintro e ww ⟨a3, c3, rfl, hb, hr⟩; replace hO := hO.addRow hb hr; clear hb hr))
  go_ret2
  exact ⟨a3, c3, rfl, hO.below, hO.row 0 rfl⟩

set_option maxHeartbeats 4000000 in
set_option maxRecDepth 100000 in
theorem rseal_ok (key : St) (n : BitVec 64) (a : Option Addr) (len cap : Nat) (b : List (BitVec 8)) (w : World) (hR : Rd w 1 a len cap (u8s b)) (hl : len ≤ 65536) (hn : n ≠ 18446744073709551615#64) :
    Calls Tryz.prog 32 #[.agg (ringC key n), .slice a len cap] w fun e w' => ∃ a' c', e = .returned (.tuple #[.agg (boxC n (.slice a' len c') (key.tag n (key.hide n b))), .agg (ringC key (n + 1#64)), .int .i64 0]) ∧ Below w.heap.size w w' ∧ w'.ownsRow w.heap.size 5 1 (.slice a' len c') len (u8s (key.hide n b)) := by
  have hO := Own.start w
  obtain ⟨t, ht⟩ : ∃ t, key.hide n b = t := ⟨_, rfl⟩
  obtain ⟨u, hu⟩ : ∃ u, key.tag n t = u := ⟨_, rfl⟩
  have g1 := fun w hR => rhidden_ok key n a len cap b w hR hl
  have g2 := fun w a c hR => rtag_ok key n a len c t w hR hl
  rw [ht] at g1
  rw [hu] at g2
  rw [ht, hu]
  have nlt := n.isLt
  have hne : n.toNat ≠ 18446744073709551615 := fun h => hn (BitVec.eq_of_toNat_eq h)
  have d1 : ((n.toNat : Int) == 18446744073709551615) = false := by simp; omega
  have d0 : decide ((65536 : Int) < (len : Int)) = false := by simp; omega
  obtain ⟨n1, hn1⟩ : ∃ n1, n + 1#64 = n1 := ⟨_, rfl⟩
  have e1 : IntKind.u64.wrap ((n.toNat : Int) + 1) = (n1.toNat : Int) := by rw [wrap_u64', ← hn1, BitVec.toNat_add]; simp
  rw [hn1]
  have G1 := Lib.hid g1
  have G2 := Lib.hid g2
  have HR := Lib.hid hR
  clear hR g1 g2 ht hu hn hne nlt hn1
  generalize hW : w = wn at hO HR ⊢
  clear hW w
  go_enter Tryz.func32, Tryz.ntmps32
  go_wp2_with (first
    | ((with_reducible refine gBox ?_); first | (refine bxA hO rfl ?_; clear hO; intro br ww hO) | (refine bx1 hO rfl rfl ?_; clear hO; intro br ww hO))
    | ((with_reducible refine gAlloc (T := 54) ?_); refine own_alloc hO _ _ ibz ?_; clear hO; intro bx ww hO)
    | ((with_reducible refine gAlloc (T := 27) ?_); refine own_alloc hO _ _ irz ?_; clear hO; intro bn ww hO)
    | ((with_reducible refine gAlloc (T := 24) ?_); refine own_alloc hO _ _ iwz ?_; clear hO; intro bt ww hO)
    | ((with_reducible refine gLoad (T := 24) ?_); first | refine ldA hO 2 key.C rfl rfl (tA rfl) (tS rfl) rfl ?_ | refine ldA hO 3 key.C rfl rfl (tA rfl) (tS rfl) rfl ?_)
    | ((with_reducible refine gLoad (T := 25) ?_); first | refine ldC hO 2 rfl rfl (tA rfl) rfl ?_ | refine ldC hO 3 rfl rfl (tA rfl) rfl ?_)
    | (go_at_call 47; refine (G1.out _ (hO.rd HR.out)).mono ?_; rintro e ww ⟨a3, c3, rfl, hb, hr⟩; replace hO := hO.addRow hb hr; clear hb hr)
    | (go_at_call 46; refine (G2.out _ _ _ (hO.rdAt 0 rfl)).mono ?_; rintro e ww ⟨rfl, hb⟩; replace hO := hO.call hb; clear hb)
    | ((with_reducible refine gStore (T := 24) ?_); refine stX hO 0 rfl rfl rfl rfl rfl (tS rfl) ?_; clear hO; intro ww hO))
  replace hO : Own wn ww [.blk bt (.cells u.C 24 (0,0)), .sl 5 1 (.slice a3 len c3) len (u8s t), .blk bn (.cells (ringC St.zero 0#64) 27 (0,0)), .blk bx (.cells (boxC 0#64 (.slice none 0 0) St.zero) 54 (0,0)), .blk br (.cells (ringC key n) 27 (0,0))] := hO
  refine wp_region_plan (fun w' => w'.heap[bt]? = some (.cells u.C 24 (0,0)) ∧ w'.heap[br]? = some (.cells (ringC key n) 27 (0,0))) (fun op => match op with | .load _ _ => true | _ => false) (.one 0 (.one 1 (.one 2 (.one 3 (.br 4 (.one 5 (.one 6 (.one 7 (.one 8 (.one 9 (.br 10 (.one 11 (.one 12 (.one 13 (.done)))) (.one 11 (.one 10 (.one 12 (.one 13 (.done))))))))))) (.one 5 (.br 4 (.one 6 (.one 7 (.one 8 (.one 9 (.br 10 (.one 11 (.one 12 (.one 13 (.done)))) (.one 11 (.one 10 (.one 12 (.one 13 (.done)))))))))) (.one 6 (.br 4 (.one 7 (.one 8 (.one 9 (.br 10 (.one 11 (.one 12 (.one 13 (.done)))) (.one 11 (.one 10 (.one 12 (.one 13 (.done))))))))) (.one 7 (.br 4 (.one 8 (.one 9 (.br 10 (.one 11 (.one 12 (.one 13 (.done)))) (.one 11 (.one 10 (.one 12 (.one 13 (.done)))))))) (.one 8 (.br 4 (.one 9 (.br 10 (.one 11 (.one 12 (.one 13 (.done)))) (.one 11 (.one 10 (.one 12 (.one 13 (.done))))))) (.one 9 (.br 4 (.br 10 (.one 11 (.one 12 (.one 13 (.done)))) (.one 11 (.one 10 (.one 12 (.one 13 (.done)))))) (.one 10 (.one 4 (.one 11 (.one 12 (.one 13 (.done))))))))))))))))))))) (by kernel_rfl) (by kernel_rfl) ⟨hO.drew.blk 0 rfl, hO.drew.blk 4 rfl⟩ ?_
  dsimp only [Plan.withOps, planAt]
  replace hO := hO.drew
  generalize World.drew _ = wd at hO ⊢
  go_wp2_with (first
    | (((with_reducible refine gIL ?_); first | refine wpI_ldS (fun w' hS => hS.1) rfl rfl (tA rfl) (tS rfl) ?_ | refine wpI_ldpS key.C.toList (fun w' hS => hS.2) rfl rfl (tA rfl) (tS rfl) rfl ?_ | refine wpI_ldcS (fun w' hS => hS.2) rfl rfl (tA rfl) rfl ?_); first | (refine wpI_act (by simp only [Act.put, List.setIfInBounds_toArray, List.set_cons_succ, List.set_cons_zero]; rfl) ?_) | skip)
    | ((with_reducible refine gBld (T := 54) ?_); refine own_bld (boxC n (.slice a3 len c3) u) (by kernel_rfl) ?_)
    | ((with_reducible refine gBld (T := 27) ?_); refine own_bld (ringC key n1) (by kernel_rfl) ?_)
    | ((with_reducible refine gStore (T := 54) ?_); refine stX hO 3 rfl rfl rfl rfl rfl (tS rfl) ?_; clear hO; intro ww hO)
    | ((with_reducible refine gStore (T := 27) ?_); refine stX hO 2 rfl rfl rfl rfl rfl (tS rfl) ?_; clear hO; intro ww hO)
    | ((with_reducible refine wpO_one ?_ ?_); exact ⟨hO.blk 0 rfl, hO.blk 4 rfl⟩) | ((with_reducible refine wpO_br ?_ ?_ ?_); exact ⟨hO.blk 0 rfl, hO.blk 4 rfl⟩) | ((with_reducible refine wpI_nilS ?_ ?_); exact ⟨hO.blk 0 rfl, hO.blk 4 rfl⟩) | (with_reducible refine wpO_done ?_)
    | ((with_reducible refine gI ?_); refine wpI_step rfl rfl (by kernel_rfl) ?_; intro K hK; have HK := Lib.hid hK; clear hK) | ((with_reducible refine gI ?_); first | refine wpI_skip rfl ?_ | refine wpI_want rfl ?_) | ((with_reducible refine gOnlyK HK.out ?_ ?_); exact ⟨hO.blk 0 rfl, hO.blk 4 rfl⟩; clear HK K; first | (refine wpI_act (by simp only [Act.put, List.setIfInBounds_toArray, List.set_cons_succ, List.set_cons_zero]; rfl) ?_) | skip) | (with_reducible refine wpI_nil ?_))
  all_goals
    refine bodyPost_ret (res_cct rfl _ _ bx bn 54 27 (boxC n (.slice a3 len c3) u) (ringC key n1) (0,0) (0,0) _ _ rfl (hO.blk 3 rfl) Tryz.underlying54 rfl (ibs _ _ _) rfl (hO.blk 2 rfl) Tryz.underlying27 rfl (irs _ _)) rfl ⟨a3, c3, rfl, hO.below, hO.row 1 rfl⟩
end Go.Proofs.YtniibdglodnhoaaGreatDoor

/- Walks: the document's Open, Cut, Test. -/
namespace Go.Proofs.YtniibdglodnhoaaGreatDoor
open Go.RowKit Go.Own Go.Bv Go.Ord Go.Eq Go.Opn Go.Pb Go.Sl

set_option maxHeartbeats 4000000 in
set_option maxRecDepth 100000 in
theorem rsopen_calls (key : St) (a : Option Addr) (n cap : Nat) (b : List (BitVec 8)) (w : World) (hR : Rd w 1 a n cap (u8s b)) (E : Int) (T : List (BitVec 8)) (M : Nat) (hE : soE key b = E) (hX : soT key b = T) (hM : T.length = M) :
    Calls Tryz.prog 10 #[.agg key.C, .slice a n cap] w fun e w' => ∃ a' c', e = .returned (.tuple #[.slice a' M c', .int .i64 E]) ∧ Below w.heap.size w w' ∧ w'.ownsRow w.heap.size 5 1 (.slice a' M c') M (u8s T) := by
  have hO := Own.start w
  have hln : b.length = n := by have := hR.len; rw [u8s_length] at this; omega
  have nilX : E ≠ 0 → T = [] ∧ M = 0 := fun h => by
    have h1 : T = [] := by rw [← hX]; unfold soT; rw [hE, if_neg h]
    exact ⟨h1, by rw [← hM, h1]; rfl⟩
  have HR := Lib.hid hR
  by_cases h1 : 131072 < n
  · unfold soE at hE
    rw [hln, if_pos h1] at hE
    subst hE
    obtain ⟨rfl, rfl⟩ := nilX (by decide)
    have d1 : Hid (131072 < n) := h1
    clear hX hM nilX hR hln h1
    generalize hW : w = wn at hO HR ⊢
    clear hW w
    have d2 : decide ((131072 : Int) < (n : Int)) = true := decide_eq_true (by have := d1.out; omega)
    go_enter Tryz.func10, Tryz.ntmps10
    go_wp2_with (first
      | ((with_reducible refine gBox ?_); first | (refine bxA hO rfl ?_; clear hO; intro bk ww hO) | (refine bx1 hO rfl rfl ?_; clear hO; intro bk ww hO)))
    go_ret2
    exact ⟨none, 0, rfl, hO.below, World.ownsRow_nil _ _ _ _⟩
  have d2 : decide ((131072 : Int) < (n : Int)) = false := decide_eq_false (by omega)
  unfold soT at hX
  rw [hE] at hX
  unfold soE at hE
  rw [hln, if_neg h1] at hE
  have g1 := fun w h => ropen_calls a n cap b w h (by omega)
  obtain ⟨E1, hE1⟩ : ∃ x, openE b = x := ⟨_, rfl⟩
  obtain ⟨T1, hT1⟩ : ∃ x, openT b = x := ⟨_, rfl⟩
  obtain ⟨M1, hM1⟩ : ∃ x, T1.length = x := ⟨_, rfl⟩
  unfold RetSE at g1
  rw [hE1, hT1, hM1] at g1
  rw [hE1, hT1] at hE
  rw [hT1] at hX
  have G1 := Lib.hid g1
  by_cases h0 : E1 = 0
  rotate_left
  · rw [if_pos h0] at hE
    subst hE
    obtain ⟨rfl, rfl⟩ := nilX h0
    have d0 : (E1 == 0) = false := by simpa using h0
    have d0' : decide (E1 = 0) = false := decide_eq_false h0
    have d0'' : (E1 != 0) = true := by simpa using h0
    clear hX hM nilX hR hln h1 g1 h0 hE1 hT1 hM1
    generalize hW : w = wn at hO HR ⊢
    clear hW w
    go_enter Tryz.func10, Tryz.ntmps10
    go_wp2_with (first
      | ((with_reducible refine gBox ?_); first | (refine bxA hO rfl ?_; clear hO; intro bk ww hO) | (refine bx1 hO rfl rfl ?_; clear hO; intro bk ww hO))
      | (go_at_call 23; refine (G1.out _ (hO.rd HR.out)).mono ?_; rintro e ww ⟨a2, c2, rfl, hb, hr⟩; replace hO := hO.addRow hb hr; clear hb hr))
    go_ret2
    exact ⟨none, 0, rfl, hO.below, World.ownsRow_nil _ _ _ _⟩
  subst h0
  rw [if_neg (by decide)] at hE
  obtain ⟨E2, hE2⟩ : ∃ x, unboxE key T1 = x := ⟨_, rfl⟩
  obtain ⟨T2, hT2⟩ : ∃ x, unboxT key T1 = x := ⟨_, rfl⟩
  obtain ⟨M2, hM2⟩ : ∃ x, T2.length = x := ⟨_, rfl⟩
  rw [hE2, hT2] at hE
  rw [hT2] at hX
  have b1 : M1 ≤ 131072 := by rw [← hM1, ← hT1]; have := openT_length b; omega
  have hE2' := hE2
  unfold unboxE at hE2
  rw [hM1] at hE2
  by_cases h24 : M1 < 24
  · rw [if_pos h24] at hE2
    subst hE2
    rw [if_pos (by decide)] at hE
    subst hE
    obtain ⟨rfl, rfl⟩ := nilX (by decide)
    have G2 := Lib.hid (fun a c w => rfrom_no a M1 c w h24)
    clear hX hM nilX hR hln h1 g1 hE1 hT1 hM1 hE2' hT2 hM2 b1 h24
    generalize hW : w = wn at hO HR ⊢
    clear hW w
    go_enter Tryz.func10, Tryz.ntmps10
    go_wp2_with (first
      | ((with_reducible refine gBox ?_); first | (refine bxA hO rfl ?_; clear hO; intro bk ww hO) | (refine bx1 hO rfl rfl ?_; clear hO; intro bk ww hO))
      | (go_at_call 23; refine (G1.out _ (hO.rd HR.out)).mono ?_; rintro e ww ⟨a2, c2, rfl, hb, hr⟩; replace hO := hO.addRow hb hr; clear hb hr)
      | (go_at_call 24; refine (G2.out _ _ _).mono ?_; rintro e ww ⟨rfl, hb⟩; replace hO := hO.call hb; clear hb)
      | ((with_reducible refine gAlloc (T := 54) ?_); refine own_alloc hO _ _ ibz ?_; clear hO; intro bx ww hO)
      | ((with_reducible refine gLoad ?_); first | refine ldX hO 0 rfl rfl (tA rfl) (tS rfl) ?_ | refine ldC hO 0 rfl rfl (tA rfl) rfl ?_)
      | ((with_reducible refine gStore ?_); first | (refine stX hO 0 rfl rfl rfl rfl rfl (tS rfl) ?_; clear hO; intro ww hO) | (refine stC hO 0 rfl rfl rfl (ltb rfl) rfl (tS rfl) ?_; clear hO; intro ww hO)))
    go_ret2
    exact ⟨none, 0, rfl, hO.below, World.ownsRow_nil _ _ _ _⟩
  rw [if_neg h24] at hE2
  by_cases h65 : 65560 < M1
  · rw [if_pos h65] at hE2
    subst hE2
    rw [if_pos (by decide)] at hE
    subst hE
    obtain ⟨rfl, rfl⟩ := nilX (by decide)
    have G2 := Lib.hid (fun a c w => rfrom_long a M1 c w h65)
    clear hX hM nilX hR hln h1 g1 hE1 hT1 hM1 hE2' hT2 hM2 b1 h24 h65
    generalize hW : w = wn at hO HR ⊢
    clear hW w
    go_enter Tryz.func10, Tryz.ntmps10
    go_wp2_with (first
      | ((with_reducible refine gBox ?_); first | (refine bxA hO rfl ?_; clear hO; intro bk ww hO) | (refine bx1 hO rfl rfl ?_; clear hO; intro bk ww hO))
      | (go_at_call 23; refine (G1.out _ (hO.rd HR.out)).mono ?_; rintro e ww ⟨a2, c2, rfl, hb, hr⟩; replace hO := hO.addRow hb hr; clear hb hr)
      | (go_at_call 24; refine (G2.out _ _ _).mono ?_; rintro e ww ⟨rfl, hb⟩; replace hO := hO.call hb; clear hb)
      | ((with_reducible refine gAlloc (T := 54) ?_); refine own_alloc hO _ _ ibz ?_; clear hO; intro bx ww hO)
      | ((with_reducible refine gLoad ?_); first | refine ldX hO 0 rfl rfl (tA rfl) (tS rfl) ?_ | refine ldC hO 0 rfl rfl (tA rfl) rfl ?_)
      | ((with_reducible refine gStore ?_); first | (refine stX hO 0 rfl rfl rfl rfl rfl (tS rfl) ?_; clear hO; intro ww hO) | (refine stC hO 0 rfl rfl rfl (ltb rfl) rfl (tS rfl) ?_; clear hO; intro ww hO)))
    go_ret2
    exact ⟨none, 0, rfl, hO.below, World.ownsRow_nil _ _ _ _⟩
  rw [if_neg h65] at hE2
  have g2 := fun a c w h => rfrom_ok a M1 c T1 w h (by omega) (by omega)
  obtain ⟨N, hN⟩ : ∃ N, num T1 8 = N := ⟨_, rfl⟩
  obtain ⟨u, hu⟩ : ∃ u, St.of ((T1.drop 8).take 16) = u := ⟨_, rfl⟩
  obtain ⟨v, hv⟩ : ∃ v, T1.drop 24 = v := ⟨_, rfl⟩
  have hvl : v.length = M1 - 24 := by rw [← hv, List.length_drop, hM1]
  unfold unboxT at hT2
  rw [hE2', hN, hv] at hT2
  rw [hN, hu, hv] at g2 hE2
  have G2 := Lib.hid g2
  by_cases h3 : u = key.tag N v
  rotate_left
  · rw [if_neg h3] at hE2
    subst hE2
    rw [if_pos (by decide)] at hE
    subst hE
    obtain ⟨rfl, rfl⟩ := nilX (by decide)
    have G3 := Lib.hid (fun a c w h => ropen_bad key N a (M1 - 24) c v u w h (by omega) h3)
    clear hX hM nilX hR hln h1 g1 g2 hE1 hT1 hM1 hE2' hT2 hM2 b1 h24 h65 hN hu hv hvl h3
    generalize hW : w = wn at hO HR ⊢
    clear hW w
    go_enter Tryz.func10, Tryz.ntmps10
    go_wp2_with (first
      | ((with_reducible refine gBox ?_); first | (refine bxA hO rfl ?_; clear hO; intro bk ww hO) | (refine bx1 hO rfl rfl ?_; clear hO; intro bk ww hO))
      | (go_at_call 23; refine (G1.out _ (hO.rd HR.out)).mono ?_; rintro e ww ⟨a2, c2, rfl, hb, hr⟩; replace hO := hO.addRow hb hr; clear hb hr)
      | (go_at_call 24; refine (G2.out _ _ _ (hO.rdAt 0 rfl)).mono ?_; rintro e ww ⟨a3, c3, rfl, hb, hr⟩; replace hO := hO.addRow hb hr; clear hb hr)
      | (go_at_call 25; refine (G3.out _ _ _ (hO.rdAt 1 rfl)).mono ?_; rintro e ww ⟨rfl, hb⟩; replace hO := hO.call hb; clear hb)
      | ((with_reducible refine gAlloc (T := 54) ?_); refine own_alloc hO _ _ ibz ?_; clear hO; intro bx ww hO)
      | ((with_reducible refine gLoad ?_); first | refine ldX hO 0 rfl rfl (tA rfl) (tS rfl) ?_ | refine ldC hO 0 rfl rfl (tA rfl) rfl ?_ | refine ldX hO 1 rfl rfl (tA rfl) (tS rfl) ?_ | refine ldC hO 1 rfl rfl (tA rfl) rfl ?_ | refine ldX hO 2 rfl rfl (tA rfl) (tS rfl) ?_ | refine ldC hO 2 rfl rfl (tA rfl) rfl ?_ | refine ldX hO 3 rfl rfl (tA rfl) (tS rfl) ?_ | refine ldC hO 3 rfl rfl (tA rfl) rfl ?_)
      | ((with_reducible refine gStore ?_); first | (refine stX hO 0 rfl rfl rfl rfl rfl (tS rfl) ?_; clear hO; intro ww hO) | (refine stC hO 0 rfl rfl rfl (ltb rfl) rfl (tS rfl) ?_; clear hO; intro ww hO)))
    go_ret2
    exact ⟨none, 0, rfl, hO.below, World.ownsRow_nil _ _ _ _⟩
  rw [if_pos h3] at hE2
  subst hE2
  rw [if_neg (by decide)] at hE
  rw [if_pos rfl] at hT2
  have hMn : M2 = M1 - 24 := by rw [← hM2, ← hT2, St.hide_length, hvl]
  have g3 := fun a c w h => ropen_ok key N a (M1 - 24) c v w h (by omega)
  rw [← h3, hT2, ← hMn] at g3
  have G3 := Lib.hid g3
  rw [← hMn] at G2
  have hT' : T = Go.Pz.unT T2 65536 := by
    rw [← hX]
    by_cases he : E = 0
    · rw [if_pos he]
    · rw [if_neg he]
      exact (((Go.Pz.unT_facts T2 65536).2 (by rw [hE]; exact he)).1).symm
  have G4 := Lib.hid (fun a c w h => runpack_calls a M2 c T2 65536 w h (by omega) T E M hT'.symm hE hM)
  by_cases hez : E = 0
  · have d0 : (E == 0) = true := by simpa using hez
    clear hX hM nilX hR hln h1 g1 g2 g3 hE1 hT1 hM1 hE2' hT2 hM2 b1 h24 h65 hN hu hv hvl h3 hMn hT' hE d0 hez
    generalize hW : w = wn at hO HR ⊢
    clear hW w
    go_enter Tryz.func10, Tryz.ntmps10
    go_wp2_with (first
      | ((with_reducible refine gBox ?_); first | (refine bxA hO rfl ?_; clear hO; intro bk ww hO) | (refine bx1 hO rfl rfl ?_; clear hO; intro bk ww hO))
      | (go_at_call 23; refine (G1.out _ (hO.rd HR.out)).mono ?_; rintro e ww ⟨a2, c2, rfl, hb, hr⟩; replace hO := hO.addRow hb hr; clear hb hr)
      | (go_at_call 24; refine (G2.out _ _ _ (hO.rdAt 0 rfl)).mono ?_; rintro e ww ⟨a3, c3, rfl, hb, hr⟩; replace hO := hO.addRow hb hr; clear hb hr)
      | (go_at_call 25; refine (G3.out _ _ _ (hO.rdAt 1 rfl)).mono ?_; rintro e ww ⟨a4, c4, rfl, hb, hr⟩; replace hO := hO.addRow hb hr; clear hb hr)
      | (go_at_call 26; refine (G4.out _ _ _ (hO.rdAt 0 rfl)).mono ?_; rintro e ww ⟨a5, c5, rfl, hb, hr⟩; replace hO := hO.addRow hb hr; clear hb hr)
      | ((with_reducible refine gAlloc (T := 54) ?_); refine own_alloc hO _ _ ibz ?_; clear hO; intro bx ww hO)
      | ((with_reducible refine gLoad ?_); first | refine ldX hO 0 rfl rfl (tA rfl) (tS rfl) ?_ | refine ldC hO 0 rfl rfl (tA rfl) rfl ?_ | refine ldX hO 1 rfl rfl (tA rfl) (tS rfl) ?_ | refine ldC hO 1 rfl rfl (tA rfl) rfl ?_ | refine ldX hO 2 rfl rfl (tA rfl) (tS rfl) ?_ | refine ldC hO 2 rfl rfl (tA rfl) rfl ?_ | refine ldX hO 3 rfl rfl (tA rfl) (tS rfl) ?_ | refine ldC hO 3 rfl rfl (tA rfl) rfl ?_)
      | ((with_reducible refine gStore ?_); first | (refine stX hO 0 rfl rfl rfl rfl rfl (tS rfl) ?_; clear hO; intro ww hO) | (refine stC hO 0 rfl rfl rfl (ltb rfl) rfl (tS rfl) ?_; clear hO; intro ww hO)))
    go_ret2
    exact ⟨a5, c5, rfl, hO.below, hO.row 0 rfl⟩
  · clear hX hM nilX hR hln h1 g1 g2 g3 hE1 hT1 hM1 hE2' hT2 hM2 b1 h24 h65 hN hu hv hvl h3 hMn hT' hE hez
    generalize hW : w = wn at hO HR ⊢
    clear hW w
    go_enter Tryz.func10, Tryz.ntmps10
    go_wp2_with (first
      | ((with_reducible refine gBox ?_); first | (refine bxA hO rfl ?_; clear hO; intro bk ww hO) | (refine bx1 hO rfl rfl ?_; clear hO; intro bk ww hO))
      | (go_at_call 23; refine (G1.out _ (hO.rd HR.out)).mono ?_; rintro e ww ⟨a2, c2, rfl, hb, hr⟩; replace hO := hO.addRow hb hr; clear hb hr)
      | (go_at_call 24; refine (G2.out _ _ _ (hO.rdAt 0 rfl)).mono ?_; rintro e ww ⟨a3, c3, rfl, hb, hr⟩; replace hO := hO.addRow hb hr; clear hb hr)
      | (go_at_call 25; refine (G3.out _ _ _ (hO.rdAt 1 rfl)).mono ?_; rintro e ww ⟨a4, c4, rfl, hb, hr⟩; replace hO := hO.addRow hb hr; clear hb hr)
      | (go_at_call 26; refine (G4.out _ _ _ (hO.rdAt 0 rfl)).mono ?_; rintro e ww ⟨a5, c5, rfl, hb, hr⟩; replace hO := hO.addRow hb hr; clear hb hr)
      | ((with_reducible refine gAlloc (T := 54) ?_); refine own_alloc hO _ _ ibz ?_; clear hO; intro bx ww hO)
      | ((with_reducible refine gLoad ?_); first | refine ldX hO 0 rfl rfl (tA rfl) (tS rfl) ?_ | refine ldC hO 0 rfl rfl (tA rfl) rfl ?_ | refine ldX hO 1 rfl rfl (tA rfl) (tS rfl) ?_ | refine ldC hO 1 rfl rfl (tA rfl) rfl ?_ | refine ldX hO 2 rfl rfl (tA rfl) (tS rfl) ?_ | refine ldC hO 2 rfl rfl (tA rfl) rfl ?_ | refine ldX hO 3 rfl rfl (tA rfl) (tS rfl) ?_ | refine ldC hO 3 rfl rfl (tA rfl) rfl ?_)
      | ((with_reducible refine gStore ?_); first | (refine stX hO 0 rfl rfl rfl rfl rfl (tS rfl) ?_; clear hO; intro ww hO) | (refine stC hO 0 rfl rfl rfl (ltb rfl) rfl (tS rfl) ?_; clear hO; intro ww hO)))
    go_ret2
    exact ⟨a5, c5, rfl, hO.below, hO.row 0 rfl⟩
end Go.Proofs.YtniibdglodnhoaaGreatDoor

/- Walks: the document's Cut. -/
namespace Go.Proofs.YtniibdglodnhoaaGreatDoor
open Go.RowKit Go.Own Go.Bv Go.Ord Go.Eq Go.Opn Go.Pb Go.Sl

theorem slc_ft (a : Option Addr) (n cap F K : Nat) (hF : F + K ≤ cap) (aX : Option Addr) (hX : (if cap = F then a else a.map fun x => x.add (F * 1)) = aX) (w : World) :
    (Instr.slice 29 (.slice a n cap) (some (.int .i64 (F : Int))) (some (.int .i64 ((F : Int) + (K : Int)))) none).run Tryz.prog w = .ok (.slice aX K (cap - F)) w := by
  rw [run_slice_lh w 29 a n cap hu8 .i64 .i64 F ((F : Int) + (K : Int)) (by omega) (by omega) (by omega), size8]
  simp only [Result.andThen_ok, sliced, Int.toNat_natCast]
  rw [hX, show ((F : Int) + (K : Int)).toNat - F = K by omega]

set_option maxHeartbeats 4000000 in
set_option maxRecDepth 100000 in
theorem rcut_calls (a : Option Addr) (n cap : Nat) (b : List (BitVec 8)) (p : Pc) (w : World) (hR : Rd w 1 a n cap (u8s b)) (hn : n ≤ 1000000) (E : Int) (T : List (BitVec 8)) (M : Nat) (hE : cutE b p = E) (hT : cutT b p = T) (hM : T.length = M) :
    Calls Tryz.prog 16 #[.slice a n cap, .agg p.C] w fun e w' => ∃ a' c', e = .returned (.tuple #[.slice a' M c', .int .i64 E]) ∧ Below w.heap.size w w' ∧ w'.ownsRow w.heap.size 5 1 (.slice a' M c') M (u8s T) := by
  have hO := Own.start w
  have hln : b.length = n := by have := hR.len; rw [u8s_length] at this; omega
  have nilT : E ≠ 0 → T = [] ∧ M = 0 := fun h => by
    have h1 : T = [] := by rw [← hT]; unfold cutT; rw [hE, if_neg h]
    exact ⟨h1, by rw [← hM, h1]; rfl⟩
  have hE0 := hE
  unfold cutE at hE
  rw [hln] at hE
  obtain ⟨f, l, s⟩ := p
  dsimp only at hE
  by_cases h1 : f < 0 ∨ f > (n : Int) ∨ l < 0 ∨ l > (n : Int) - f
  · rw [if_pos h1] at hE
    subst hE
    obtain ⟨rfl, rfl⟩ := nilT (by decide)
    clear hT hM nilT hE0 hR hln
    generalize hW : w = wn at hO ⊢
    clear hW w
    by_cases c1 : f < 0
    · have d1 : decide (f < 0) = true := decide_eq_true c1
      clear h1 c1
      go_enter Tryz.func16, Tryz.ntmps16
      go_wp2_with (first
        | ((with_reducible refine gBox ?_); first | (refine bxA hO rfl ?_; clear hO; intro pb ww hO) | (refine bx1 hO rfl rfl ?_; clear hO; intro pb ww hO))
        | ((with_reducible refine gLoad ?_); first | refine ldX hO 0 rfl rfl (tA rfl) (tS rfl) ?_ | refine ldC hO 0 rfl rfl (tA rfl) rfl ?_))
      go_ret2
      exact ⟨none, 0, rfl, hO.below, World.ownsRow_nil _ _ _ _⟩
    have d1 : decide (f < 0) = false := decide_eq_false c1
    by_cases c3 : l < 0
    · have d3 : decide (l < 0) = true := decide_eq_true c3
      clear h1 c1 c3
      go_enter Tryz.func16, Tryz.ntmps16
      go_wp2_with (first
        | ((with_reducible refine gG (d := some 12) ?_); refine wpList_want rfl ?_)
        | ((with_reducible refine gBox ?_); first | (refine bxA hO rfl ?_; clear hO; intro pb ww hO) | (refine bx1 hO rfl rfl ?_; clear hO; intro pb ww hO))
        | ((with_reducible refine gLoad ?_); first | refine ldX hO 0 rfl rfl (tA rfl) (tS rfl) ?_ | refine ldC hO 0 rfl rfl (tA rfl) rfl ?_))
      go_ret2
      exact ⟨none, 0, rfl, hO.below, World.ownsRow_nil _ _ _ _⟩
    have d3 : decide (l < 0) = false := decide_eq_false c3
    by_cases c2 : (n : Int) < f
    · have d2 : decide ((n : Int) < f) = true := decide_eq_true c2
      clear h1 c1 c2 c3
      go_enter Tryz.func16, Tryz.ntmps16
      go_wp2_with (first
        | ((with_reducible refine gG (d := some 12) ?_); refine wpList_want rfl ?_) | ((with_reducible refine gG (d := some 17) ?_); refine wpList_want rfl ?_)
        | ((with_reducible refine gBox ?_); first | (refine bxA hO rfl ?_; clear hO; intro pb ww hO) | (refine bx1 hO rfl rfl ?_; clear hO; intro pb ww hO))
        | ((with_reducible refine gLoad ?_); first | refine ldX hO 0 rfl rfl (tA rfl) (tS rfl) ?_ | refine ldC hO 0 rfl rfl (tA rfl) rfl ?_))
      go_ret2
      exact ⟨none, 0, rfl, hO.below, World.ownsRow_nil _ _ _ _⟩
    have d2 : decide ((n : Int) < f) = false := decide_eq_false c2
    have d4 : decide ((n : Int) - f < l) = true := decide_eq_true (by omega)
    have e4 : wrap64 ((n : Int) - f) = (n : Int) - f := by unfold wrap64; omega
    clear h1
    go_enter Tryz.func16, Tryz.ntmps16
    go_wp2_with (first
      | ((with_reducible refine gG (d := some 12) ?_); refine wpList_want rfl ?_) | ((with_reducible refine gG (d := some 17) ?_); refine wpList_want rfl ?_) | ((with_reducible refine gG (d := some 24) ?_); refine wpList_want rfl ?_) | ((with_reducible refine gG (d := some 28) ?_); refine wpList_want rfl ?_)
      | ((with_reducible refine gBox ?_); first | (refine bxA hO rfl ?_; clear hO; intro pb ww hO) | (refine bx1 hO rfl rfl ?_; clear hO; intro pb ww hO))
      | ((with_reducible refine gLoad ?_); first | refine ldX hO 0 rfl rfl (tA rfl) (tS rfl) ?_ | refine ldC hO 0 rfl rfl (tA rfl) rfl ?_))
    go_ret2
    exact ⟨none, 0, rfl, hO.below, World.ownsRow_nil _ _ _ _⟩
  rw [if_neg h1] at hE
  obtain ⟨F, rfl⟩ : ∃ F : Nat, f = (F : Int) := ⟨f.toNat, by omega⟩
  obtain ⟨K, rfl⟩ : ∃ K : Nat, l = (K : Int) := ⟨l.toNat, by omega⟩
  rw [Int.toNat_natCast, Int.toNat_natCast] at hE
  have hFK : F + K ≤ n := by omega
  obtain ⟨X, hX⟩ : ∃ X, (b.drop F).take K = X := ⟨_, rfl⟩
  have hXl : X.length = K := by rw [← hX, List.length_take, List.length_drop, hln]; omega
  rw [hX] at hE
  have hT2 : T = if E = 0 then X else [] := by
    rw [← hT]; unfold cutT; rw [hE0]
    dsimp only
    rw [Int.toNat_natCast, Int.toNat_natCast, hX]
  obtain ⟨u, hu⟩ : ∃ u, Crc.sum X = u := ⟨_, rfl⟩
  rw [hu] at hE
  have d1 : decide ((F : Int) < 0) = false := decide_eq_false (by omega)
  have d2 : decide ((n : Int) < (F : Int)) = false := decide_eq_false (by omega)
  have d2' : decide (n < F) = false := decide_eq_false (by omega)
  have d2'' : decide (F ≤ n) = true := decide_eq_true (by omega)
  have d3 : decide ((K : Int) < 0) = false := decide_eq_false (by omega)
  have d4 : decide ((n : Int) - (F : Int) < (K : Int)) = false := decide_eq_false (by omega)
  have e4 : wrap64 ((n : Int) - (F : Int)) = (n : Int) - (F : Int) := by unfold wrap64; omega
  have hle := hR.le
  have hmx := hR.max
  unfold maxLen at hmx
  obtain ⟨aX, hv, hRX⟩ := rd_cutAny hR F K hFK
  rw [hX] at hRX
  have hs1 := slc_ft a n cap F K (by omega) aX hv
  have e5 : wrap64 ((F : Int) + (K : Int)) = (F : Int) + (K : Int) := by unfold wrap64; omega
  obtain ⟨cX, hcX⟩ : ∃ c, cap - F = c := ⟨_, rfl⟩
  rw [hcX] at hs1 hRX
  have hK6 : K ≤ 1000000 := Nat.le_trans (Nat.le_trans (Nat.le_add_left K F) hFK) hn
  have G2 := Lib.hid (fun a c w h => rsum_calls a K c X w h)
  rw [hu] at G2
  have HRX := Lib.hid hRX
  have HE := Lib.hid hE
  have HT2 := Lib.hid hT2
  have HM := Lib.hid hM
  have HXL := Lib.hid hXl
  clear hR hE hT hM nilT hE0 hln h1 hX hXl hT2 hu hv hRX hle hmx hcX hFK
  generalize hW : w = wn at hO HRX ⊢
  clear hW w
  go_enter Tryz.func16, Tryz.ntmps16
  go_wp2_with (first
    | ((with_reducible refine gG (d := some 12) ?_); refine wpList_want rfl ?_) | ((with_reducible refine gG (d := some 17) ?_); refine wpList_want rfl ?_) | ((with_reducible refine gG (d := some 24) ?_); refine wpList_want rfl ?_) | ((with_reducible refine gG (d := some 28) ?_); refine wpList_want rfl ?_)
    | ((with_reducible refine gBox ?_); first | (refine bxA hO rfl ?_; clear hO; intro pb ww hO) | (refine bx1 hO rfl rfl ?_; clear hO; intro pb ww hO))
    | ((with_reducible refine gAppendNil ?_); refine own_appendNil hO _ _ 29 eu8_8 rfl rfl (hO.rd HRX.out) (u8s_one _) (by simp [maxLen]; omega) (by omega) ?_; clear hO; intro a2 c2 ww hO)
    | ((with_reducible refine gLoad ?_); first | refine ldX hO 0 rfl rfl (tA rfl) (tS rfl) ?_ | refine ldC hO 0 rfl rfl (tA rfl) rfl ?_))
  by_cases hus : u = s
  · have d5 : ((u.toNat : Int) != (s.toNat : Int)) = false := by simp [hus]
    have d5' : ((u.toNat : Int) == (s.toNat : Int)) = true := by simp [hus]
    have d5'' : decide ((u.toNat : Int) = (s.toNat : Int)) = true := decide_eq_true (by rw [hus])
    have d5n : decide (u = s) = true := decide_eq_true hus
    have he := HE.out
    rw [if_neg (fun h => h hus)] at he
    have ht := HT2.out
    rw [← he, if_pos rfl] at ht
    subst ht
    subst he
    obtain rfl : M = K := by rw [← HM.out, HXL.out]
    clear HE HT2 HM HXL hus
    refine wp_region_textS (fun w' => Own wn w' [.blk pb (.cells (Pc.C ⟨(F : Int), (M : Int), s⟩) 44 (0,0))]) (fun op => match op with | .load _ _ => true | _ => false) (by kernel_rfl) (by kernel_rfl) (hO.drew.only (by simp)) ?_
    replace hO := hO.drew
    generalize World.drew _ = wd at hO ⊢
    go_wp2_with (first
      | (((with_reducible refine gIL ?_); first | refine wpI_ldcS (fun w' hS => hS.blk 0 rfl) rfl rfl (tA rfl) rfl ?_ | refine wpI_ldcS (fun w' hS => hS.blk 1 rfl) rfl rfl (tA rfl) rfl ?_); first | (refine wpI_act (by simp only [Act.put, List.setIfInBounds_toArray, List.set_cons_succ, List.set_cons_zero]; rfl) ?_) | skip)
      | (go_at_call 21; refine (G2.out _ _ _ (hO.rdAt 0 rfl)).mono ?_; rintro e ww ⟨rfl, rfl⟩)
      | ((with_reducible refine gI ?_); refine wpI_step rfl rfl (by kernel_rfl) ?_; intro K hK; have HK := Lib.hid hK; clear hK) | ((with_reducible refine gI ?_); first | refine wpI_skip rfl ?_ | refine wpI_want rfl ?_) | ((with_reducible refine gOnlyK HK.out ?_ ?_); exact hO.only (by simp); clear HK K; first | (refine wpI_act (by simp only [Act.put, List.setIfInBounds_toArray, List.set_cons_succ, List.set_cons_zero]; rfl) ?_) | skip) | (with_reducible refine wpI_nil ?_))
    go_ret2
    exact ⟨a2, c2, rfl, hO.below, hO.row 0 rfl⟩
  · have hne : ¬ (u.toNat : Int) = (s.toNat : Int) := fun h => hus (BitVec.eq_of_toNat_eq (by omega))
    have hne2 : ¬ u.toNat = s.toNat := fun h => hus (BitVec.eq_of_toNat_eq h)
    have d5 : ((u.toNat : Int) != (s.toNat : Int)) = true := by simp; omega
    have d5' : ((u.toNat : Int) == (s.toNat : Int)) = false := by simp; omega
    have d5'' : decide ((u.toNat : Int) = (s.toNat : Int)) = false := decide_eq_false hne
    have d5n : decide (u = s) = false := decide_eq_false hus
    have he := HE.out
    rw [if_pos hus] at he
    have ht := HT2.out
    rw [← he, if_neg (by decide)] at ht
    subst ht
    subst he
    obtain rfl : M = 0 := by rw [← HM.out]; rfl
    clear HE HT2 HM HXL hne hne2
    refine wp_region_textS (fun w' => Own wn w' [.blk pb (.cells (Pc.C ⟨(F : Int), (K : Int), s⟩) 44 (0,0))]) (fun op => match op with | .load _ _ => true | _ => false) (by kernel_rfl) (by kernel_rfl) (hO.drew.only (by simp)) ?_
    replace hO := hO.drew
    generalize World.drew _ = wd at hO ⊢
    go_wp2_with (first
      | (((with_reducible refine gIL ?_); first | refine wpI_ldcS (fun w' hS => hS.blk 0 rfl) rfl rfl (tA rfl) rfl ?_ | refine wpI_ldcS (fun w' hS => hS.blk 1 rfl) rfl rfl (tA rfl) rfl ?_); first | (refine wpI_act (by simp only [Act.put, List.setIfInBounds_toArray, List.set_cons_succ, List.set_cons_zero]; rfl) ?_) | skip)
      | (go_at_call 21; refine (G2.out _ _ _ (hO.rdAt 0 rfl)).mono ?_; rintro e ww ⟨rfl, rfl⟩)
      | ((with_reducible refine gI ?_); refine wpI_step rfl rfl (by kernel_rfl) ?_; intro K hK; have HK := Lib.hid hK; clear hK) | ((with_reducible refine gI ?_); first | refine wpI_skip rfl ?_ | refine wpI_want rfl ?_) | ((with_reducible refine gOnlyK HK.out ?_ ?_); exact hO.only (by simp); clear HK K; first | (refine wpI_act (by simp only [Act.put, List.setIfInBounds_toArray, List.set_cons_succ, List.set_cons_zero]; rfl) ?_) | skip) | (with_reducible refine wpI_nil ?_))
    go_ret2
    exact ⟨none, 0, rfl, hO.below, World.ownsRow_nil _ _ _ _⟩
end Go.Proofs.YtniibdglodnhoaaGreatDoor

/- Walk: the document's Test. -/
namespace Go.Proofs.YtniibdglodnhoaaGreatDoor
open Go.RowKit Go.Own Go.Bv Go.Ord Go.Eq Go.Opn Go.Pb Go.Sl

set_option maxHeartbeats 4000000 in
set_option maxRecDepth 100000 in
theorem rtest_calls (key : St) (a : Option Addr) (n cap : Nat) (b : List (BitVec 8)) (a2 : Option Addr) (m c2 : Nat) (l : List Pc) (w : World) (hR : Rd w 1 a n cap (u8s b)) (hL : Rd w 3 a2 m c2 (pcs l)) (E : Int) (hE : teE key b l = E) :
    Calls Tryz.prog 18 #[.agg key.C, .slice a n cap, .slice a2 m c2] w fun e w' => e = .returned (.int .i64 E) ∧ Below w.heap.size w w' := by
  have hO := Own.start w
  have hll : l.length = m := by have := hL.len; rw [pcs_length] at this; omega
  have hmx := Nat.le_trans hL.le hL.max
  unfold maxLen at hmx
  have hTl := soT_length key b
  unfold teE at hE
  obtain ⟨E1, hE1⟩ : ∃ x, soE key b = x := ⟨_, rfl⟩
  obtain ⟨T, hTT⟩ : ∃ x, soT key b = x := ⟨_, rfl⟩
  obtain ⟨M, hM⟩ : ∃ x, T.length = x := ⟨_, rfl⟩
  rw [hE1, hTT] at hE
  rw [hTT, hM] at hTl
  have G1 := Lib.hid (fun w h => rsopen_calls key a n cap b w h E1 T M hE1 hTT hM)
  have HR := Lib.hid hR
  have HL := Lib.hid hL
  have HLL := Lib.hid hll
  by_cases h0 : E1 = 0
  rotate_left
  · rw [if_pos h0] at hE
    subst hE
    have d0 : (E1 == 0) = false := by simpa using h0
    have d0' : decide (E1 = 0) = false := decide_eq_false h0
    have d0'' : (E1 != 0) = true := by simpa using h0
    clear hR hL hll hE1 hTT hM h0
    generalize hW : w = wn at hO HR HL ⊢
    clear hW w
    go_enter Tryz.func18, Tryz.ntmps18
    go_wp2_with (first
      | ((with_reducible refine gBox ?_); first | (refine bxA hO rfl ?_; clear hO; intro bk ww hO) | (refine bx1 hO rfl rfl ?_; clear hO; intro bk ww hO))
      | ((with_reducible refine gLoad ?_); first | refine ldX hO 0 rfl rfl (tA rfl) (tS rfl) ?_ | refine ldC hO 0 rfl rfl (tA rfl) rfl ?_)
      | (go_at_call 10; refine (G1.out _ (hO.rd HR.out)).mono ?_; rintro e ww ⟨a3, c3, rfl, hb, hr⟩; replace hO := hO.addRow hb hr; clear hb hr))
    go_ret
    exact ⟨rfl, hO.below⟩
  subst h0
  rw [if_neg (by decide)] at hE
  have HE := Lib.hid hE
  clear hR hL hll hE1 hTT hM hE
  generalize hW : w = wn at hO HR HL ⊢
  clear hW w
  go_enter Tryz.func18, Tryz.ntmps18
  go_wp2_with (first
    | ((with_reducible refine gBox ?_); first | (refine bxA hO rfl ?_; clear hO; intro bk ww hO) | (refine bx1 hO rfl rfl ?_; clear hO; intro bk ww hO))
    | ((with_reducible refine gLoad ?_); first | refine ldX hO 0 rfl rfl (tA rfl) (tS rfl) ?_ | refine ldC hO 0 rfl rfl (tA rfl) rfl ?_)
    | (go_at_call 10; refine (G1.out _ (hO.rd HR.out)).mono ?_; rintro e ww ⟨a3, c3, rfl, hb, hr⟩; replace hO := hO.addRow hb hr; clear hb hr))
  go_loopg [24] m (fun q c wr => ∃ k : Nat, q = m - k ∧ k ≤ m ∧ c = .int .i64 (k : Int) ∧ Hid (testE T (l.drop k) = E) ∧ Own wn wr [.sl 5 1 (.slice a3 M c3) M (u8s T), .blk bk (.cells key.C 24 (0,0))])
  case atStart => exact ⟨0, rfl, by omega, rfl, by show _ = _; rw [List.drop_zero]; exact HE.out, hO⟩
  case round =>
    obtain ⟨k, rfl, hk, rfl, HK, hO1⟩ := hrel
    clear hO
    have hO := hO1
    clear hO1
    by_cases hlt : k < m
    · have d0 : decide ((k : Int) < (m : Int)) = true := decide_eq_true (by omega)
      have hkl : k < l.length := by rw [HLL.out]; exact hlt
      have hst := HK.out
      rw [testE_step hkl] at hst
      have hx : l[k]? = some l[k] := List.getElem?_eq_getElem hkl
      generalize l[k] = t at *
      obtain ⟨ba, off, rfl⟩ := HL.out.place (by omega)
      obtain ⟨E2, hE2⟩ : ∃ x, cutE T t = x := ⟨_, rfl⟩
      rw [hE2] at hst
      have HX := Lib.hid hx
      have G2 := Lib.hid (fun w h => rcut_calls a3 M c3 T t w h (by omega) E2 _ _ hE2 rfl rfl)
      by_cases h2 : E2 = 0
      · rw [if_pos h2] at hst
        subst h2
        have HS := Lib.hid hst
        clear hst hx hE2 hkl HK HE
        go_wp2_with (first
          | ((with_reducible refine gLoad (d := some 27) ?_); refine ld_pc (hO.rd HL.out) HX.out rfl (tA rfl) ipc ?_)
          | ((with_reducible refine gAlloc (T := 44) ?_); refine own_alloc hO _ _ ipcz ?_; clear hO; intro pb ww hO)
          | ((with_reducible refine gStore (T := 44) ?_); refine stX hO 0 rfl rfl rfl rfl rfl ipc ?_; clear hO; intro ww hO)
          | ((with_reducible refine gLoad (d := some 30) ?_); refine ldX hO 0 rfl rfl (tA rfl) ipc ?_)
          | (go_at_call 16; refine (G2.out _ (hO.rdAt 1 rfl)).mono ?_; rintro e ww ⟨a5, c5, rfl, hb, hr⟩; replace hO := hO.call hb; clear hb hr))
        go_roundg (m - (k + 1))
        case measure => omega
        case rel => exact ⟨k + 1, rfl, by omega, by go_num, HS.out, hO.tail⟩
      · rw [if_neg h2] at hst
        subst hst
        have d5 : (E2 == 0) = false := by simpa using h2
        have d5' : decide (E2 = 0) = false := decide_eq_false h2
        have d5'' : (E2 != 0) = true := by simpa using h2
        clear hx hE2 hkl HK HE
        go_wp2_with (first
          | ((with_reducible refine gLoad (d := some 27) ?_); refine ld_pc (hO.rd HL.out) HX.out rfl (tA rfl) ipc ?_)
          | ((with_reducible refine gAlloc (T := 44) ?_); refine own_alloc hO _ _ ipcz ?_; clear hO; intro pb ww hO)
          | ((with_reducible refine gStore (T := 44) ?_); refine stX hO 0 rfl rfl rfl rfl rfl ipc ?_; clear hO; intro ww hO)
          | ((with_reducible refine gLoad (d := some 30) ?_); refine ldX hO 0 rfl rfl (tA rfl) ipc ?_)
          | (go_at_call 16; refine (G2.out _ (hO.rdAt 1 rfl)).mono ?_; rintro e ww ⟨a5, c5, rfl, hb, hr⟩; replace hO := hO.call hb; clear hb hr))
        go_ret
        exact ⟨rfl, hO.below⟩
    · obtain rfl : k = m := by omega
      have d0 : decide ((k : Int) < (k : Int)) = false := decide_eq_false (by omega)
      have hee := HK.out
      rw [List.drop_of_length_le (by rw [HLL.out]; omega)] at hee
      have he0 : (0 : Int) = E := hee
      subst he0
      clear HK HE hee
      go_wp2
      go_ret
      exact ⟨rfl, hO.below⟩
end Go.Proofs.YtniibdglodnhoaaGreatDoor

/- Walks: the document's Seal. -/
namespace Go.Proofs.YtniibdglodnhoaaGreatDoor
open Go.RowKit Go.Own Go.Bv Go.Ord Go.Eq Go.Opn Go.Pb

set_option maxHeartbeats 4000000 in
set_option maxRecDepth 100000 in
theorem rsseal_ok (key : St) (n : BitVec 64) (a : Option Addr) (len cap : Nat) (b : List (BitVec 8)) (w : World) (hR : Rd w 1 a len cap (u8s b)) (hl : len ≤ 600) (hn : n ≠ 18446744073709551615#64) (T : List (BitVec 8)) (hTT : sealT key n b = T) (M : Nat) (hM : T.length = M) :
    Calls Tryz.prog 14 #[.agg (ringC key n), .slice a len cap] w fun e w' => ∃ a' c', e = .returned (.tuple #[.slice a' M c', .agg (ringC key (n + 1#64)), .int .i64 0]) ∧ Below w.heap.size w w' ∧ w'.ownsRow w.heap.size 5 1 (.slice a' M c') M (u8s T) := by
  have hO := Own.start w
  have hbl : b.length = len := by have := hR.len; rw [u8s_length] at this; omega
  obtain ⟨l1, l2⟩ := Go.Pz.pack_length b
  have hls := sealT_length key n b
  obtain ⟨p, hp⟩ : ∃ p, Go.Pz.packT b = p := ⟨_, rfl⟩
  obtain ⟨P, hP⟩ : ∃ P, p.length = P := ⟨_, rfl⟩
  have hTT2 := hTT
  unfold sealT boxT at hTT2
  rw [hp] at l1 l2 hls hTT2
  rw [hP] at l1 l2 hls
  rw [hTT, hM] at hls
  obtain ⟨t, ht⟩ : ∃ t, key.hide n p = t := ⟨_, rfl⟩
  have htl : t.length = P := by rw [← ht, St.hide_length, hP]
  obtain ⟨u, hu⟩ : ∃ u, key.tag n t = u := ⟨_, rfl⟩
  rw [ht, hu] at hTT2
  have g1 := fun w h => rpack_ok a len cap b w h (by omega) p hp P hP
  have g2 := fun w a c h => rseal_ok key n a P c p w h (by omega) hn
  rw [ht, hu] at g2
  have g3 := fun w a c h => rbytes_ok n u a P c t w h (by omega)
  have hx : (eight n ++ u.octs ++ t).length = 24 + P := by rw [List.length_append, List.length_append, eight_length, St.octs_length, htl]
  obtain ⟨X, hX⟩ : ∃ X, eight n ++ u.octs ++ t = X := ⟨_, rfl⟩
  rw [hX] at g3 hTT2 hx
  have hP8 : 8 + 16 + P + 4 = M := by omega
  have g4 := fun w a c h => rseal_calls a (8 + 16 + P) c X w h (by omega)
  rw [hTT2, hP8] at g4
  obtain ⟨n1, hn1⟩ : ∃ n1, n + 1#64 = n1 := ⟨_, rfl⟩
  rw [hn1] at g2 ⊢
  have G1 := Lib.hid g1
  have G2 := Lib.hid g2
  have G3 := Lib.hid g3
  have G4 := Lib.hid g4
  have HR := Lib.hid hR
  have HTL := Lib.hid htl
  have hP6 : P ≤ 65536 := by omega
  clear hR hTT hTT2 hM hbl l1 l2 hls hp hP ht htl hu g1 g2 g3 g4 hx hX hn1 hn hP8
  generalize hW : w = wn at hO HR ⊢
  clear hW w
  go_enter Tryz.func14, Tryz.ntmps14
  go_wp2_with (first
    | ((with_reducible refine gBox ?_); first | (refine bxA hO rfl ?_; clear hO; intro br ww hO) | (refine bx1 hO rfl rfl ?_; clear hO; intro br ww hO))
    | ((with_reducible refine gG ?_); refine wpList_want rfl ?_)
    | ((with_reducible refine gAlloc (T := 54) ?_); refine own_alloc hO _ _ ibz ?_; clear hO; intro bx ww hO)
    | ((with_reducible refine gAlloc (T := 27) ?_); refine own_alloc hO _ _ irz ?_; clear hO; intro bn ww hO)
    | (go_at_call 31; refine (G1.out _ (hO.rd HR.out)).mono ?_; rintro e ww ⟨a2, c2, rfl, hb, hr⟩; replace hO := hO.addRow hb hr; clear hb hr)
    | (go_at_call 32; refine (G2.out _ _ _ (hO.rdAt 0 rfl)).mono ?_; rintro e ww ⟨g, cg, rfl, hb, hr⟩; replace hO := hO.addRow hb hr; clear hb hr)
    | (go_at_call 33; refine (G3.out _ _ _ (hO.rdAt 2 rfl)).mono ?_; rintro e ww ⟨a3, c3, rfl, hb, hr⟩; replace hO := hO.addRow hb hr; clear hb hr)
    | ((with_reducible refine gLoad ?_); first | refine ldX hO 0 rfl rfl (tA rfl) (tS rfl) ?_ | refine ldC hO 0 rfl rfl (tA rfl) rfl ?_ | refine ldX hO 1 rfl rfl (tA rfl) (tS rfl) ?_ | refine ldC hO 1 rfl rfl (tA rfl) rfl ?_ | refine ldX hO 2 rfl rfl (tA rfl) (tS rfl) ?_ | refine ldC hO 2 rfl rfl (tA rfl) rfl ?_ | refine ldX hO 3 rfl rfl (tA rfl) (tS rfl) ?_ | refine ldC hO 3 rfl rfl (tA rfl) rfl ?_ | refine ldX hO 4 rfl rfl (tA rfl) (tS rfl) ?_ | refine ldC hO 4 rfl rfl (tA rfl) rfl ?_ | refine ldX hO 5 rfl rfl (tA rfl) (tS rfl) ?_ | refine ldC hO 5 rfl rfl (tA rfl) rfl ?_)
    | ((with_reducible refine gStore ?_); first | (refine stX hO 0 rfl rfl rfl rfl rfl (tS rfl) ?_; clear hO; intro ww hO) | (refine stC hO 0 rfl rfl rfl (ltb rfl) rfl (tS rfl) ?_; clear hO; intro ww hO) | (refine stX hO 1 rfl rfl rfl rfl rfl (tS rfl) ?_; clear hO; intro ww hO) | (refine stC hO 1 rfl rfl rfl (ltb rfl) rfl (tS rfl) ?_; clear hO; intro ww hO) | (refine stX hO 2 rfl rfl rfl rfl rfl (tS rfl) ?_; clear hO; intro ww hO) | (refine stC hO 2 rfl rfl rfl (ltb rfl) rfl (tS rfl) ?_; clear hO; intro ww hO) | (refine stX hO 3 rfl rfl rfl rfl rfl (tS rfl) ?_; clear hO; intro ww hO) | (refine stC hO 3 rfl rfl rfl (ltb rfl) rfl (tS rfl) ?_; clear hO; intro ww hO) | (refine stX hO 4 rfl rfl rfl rfl rfl (tS rfl) ?_; clear hO; intro ww hO) | (refine stC hO 4 rfl rfl rfl (ltb rfl) rfl (tS rfl) ?_; clear hO; intro ww hO) | (refine stX hO 5 rfl rfl rfl rfl rfl (tS rfl) ?_; clear hO; intro ww hO) | (refine stC hO 5 rfl rfl rfl (ltb rfl) rfl (tS rfl) ?_; clear hO; intro ww hO)))
  refine wp_region_textS (fun w' => Own wn w' [.blk bn (.cells (ringC key n1) 27 (0,0))]) (fun op => match op with | .load _ _ => true | _ => false) (by kernel_rfl) (by kernel_rfl) (hO.drew.only (by simp)) ?_
  replace hO := hO.drew
  generalize World.drew _ = wd at hO ⊢
  go_wp2_with (first
    | (((with_reducible refine gIL ?_); first | refine wpI_ldS (fun w' hS => hS.blk 0 rfl) rfl rfl (tA rfl) (tS rfl) ?_); first | (refine wpI_act (by simp only [Act.put, List.setIfInBounds_toArray, List.set_cons_succ, List.set_cons_zero]; rfl) ?_) | skip)
    | (go_at_call 34; refine (G4.out _ _ _ (hO.rdAt 0 rfl)).mono ?_; rintro e ww ⟨a4, c4, rfl, hb, hr⟩; replace hO := hO.addRow hb hr; clear hb hr)
    | ((with_reducible refine gStore ?_); first | (refine stX hO 0 rfl rfl rfl rfl rfl (tS rfl) ?_; clear hO; intro ww hO) | (refine stC hO 0 rfl rfl rfl (ltb rfl) rfl (tS rfl) ?_; clear hO; intro ww hO) | (refine stX hO 1 rfl rfl rfl rfl rfl (tS rfl) ?_; clear hO; intro ww hO) | (refine stC hO 1 rfl rfl rfl (ltb rfl) rfl (tS rfl) ?_; clear hO; intro ww hO) | (refine stX hO 2 rfl rfl rfl rfl rfl (tS rfl) ?_; clear hO; intro ww hO) | (refine stC hO 2 rfl rfl rfl (ltb rfl) rfl (tS rfl) ?_; clear hO; intro ww hO) | (refine stX hO 3 rfl rfl rfl rfl rfl (tS rfl) ?_; clear hO; intro ww hO) | (refine stC hO 3 rfl rfl rfl (ltb rfl) rfl (tS rfl) ?_; clear hO; intro ww hO) | (refine stX hO 4 rfl rfl rfl rfl rfl (tS rfl) ?_; clear hO; intro ww hO) | (refine stC hO 4 rfl rfl rfl (ltb rfl) rfl (tS rfl) ?_; clear hO; intro ww hO) | (refine stX hO 5 rfl rfl rfl rfl rfl (tS rfl) ?_; clear hO; intro ww hO) | (refine stC hO 5 rfl rfl rfl (ltb rfl) rfl (tS rfl) ?_; clear hO; intro ww hO) | (refine stX hO 6 rfl rfl rfl rfl rfl (tS rfl) ?_; clear hO; intro ww hO) | (refine stC hO 6 rfl rfl rfl (ltb rfl) rfl (tS rfl) ?_; clear hO; intro ww hO) | (refine stX hO 7 rfl rfl rfl rfl rfl (tS rfl) ?_; clear hO; intro ww hO) | (refine stC hO 7 rfl rfl rfl (ltb rfl) rfl (tS rfl) ?_; clear hO; intro ww hO))
    | ((with_reducible refine gI ?_); refine wpI_step rfl rfl (by kernel_rfl) ?_; intro K hK; have HK := Lib.hid hK; clear hK) | ((with_reducible refine gI ?_); first | refine wpI_skip rfl ?_ | refine wpI_want rfl ?_) | ((with_reducible refine gOnlyK HK.out ?_ ?_); exact hO.only (by simp); clear HK K; first | (refine wpI_act (by simp only [Act.put, List.setIfInBounds_toArray, List.set_cons_succ, List.set_cons_zero]; rfl) ?_) | skip) | (with_reducible refine wpI_nil ?_))
  refine bodyPost_ret (res_tct rfl _ _ _ 27 (ringC key n1) (0,0) _ rfl (hO.blk 6 rfl) Tryz.underlying27 rfl (irs _ _)) rfl ⟨a4, c4, rfl, hO.below, hO.row 0 rfl⟩

set_option maxHeartbeats 2000000 in
set_option maxRecDepth 100000 in
theorem rsseal_full (key : St) (n : BitVec 64) (a : Option Addr) (len cap : Nat) (b : List (BitVec 8)) (w : World) (hR : Rd w 1 a len cap (u8s b)) (hl : len ≤ 600) (hn : n = 18446744073709551615#64) :
    Calls Tryz.prog 14 #[.agg (ringC key n), .slice a len cap] w fun e w' => e = .returned (.tuple #[.slice none 0 0, .agg (ringC St.zero 0#64), .int .i64 6]) ∧ Below w.heap.size w w' := by
  have hO := Own.start w
  have hbl : b.length = len := by have := hR.len; rw [u8s_length] at this; omega
  obtain ⟨l1, l2⟩ := Go.Pz.pack_length b
  obtain ⟨p, hp⟩ : ∃ p, Go.Pz.packT b = p := ⟨_, rfl⟩
  obtain ⟨P, hP⟩ : ∃ P, p.length = P := ⟨_, rfl⟩
  rw [hp] at l1 l2
  rw [hP] at l1 l2
  have g1 := fun w h => rpack_ok a len cap b w h (by omega) p hp P hP
  subst hn
  have g2 := fun w a c => rseal_full key a P c (by omega) w
  have G1 := Lib.hid g1
  have G2 := Lib.hid g2
  have HR := Lib.hid hR
  clear hR hbl l1 l2 hp hP g1 g2
  generalize hW : w = wn at hO HR ⊢
  clear hW w
  go_enter Tryz.func14, Tryz.ntmps14
  go_wp2_with (first
    | ((with_reducible refine gBox ?_); first | (refine bxA hO rfl ?_; clear hO; intro br ww hO) | (refine bx1 hO rfl rfl ?_; clear hO; intro br ww hO))
    | ((with_reducible refine gG ?_); refine wpList_want rfl ?_)
    | ((with_reducible refine gAlloc (T := 54) ?_); refine own_alloc hO _ _ ibz ?_; clear hO; intro bx ww hO)
    | ((with_reducible refine gAlloc (T := 27) ?_); refine own_alloc hO _ _ irz ?_; clear hO; intro bn ww hO)
    | (go_at_call 31; refine (G1.out _ (hO.rd HR.out)).mono ?_; rintro e ww ⟨a2, c2, rfl, hb, hr⟩; replace hO := hO.addRow hb hr; clear hb hr)
    | (go_at_call 32; refine (G2.out _ _ _).mono ?_; rintro e ww ⟨rfl, hb⟩; replace hO := hO.call hb; clear hb)
    | ((with_reducible refine gBld (T := 27) ?_); refine own_bld (ringC St.zero 0#64) (by kernel_rfl) ?_)
    | ((with_reducible refine gLoad ?_); first | refine ldX hO 0 rfl rfl (tA rfl) (tS rfl) ?_ | refine ldC hO 0 rfl rfl (tA rfl) rfl ?_ | refine ldX hO 1 rfl rfl (tA rfl) (tS rfl) ?_ | refine ldC hO 1 rfl rfl (tA rfl) rfl ?_ | refine ldX hO 2 rfl rfl (tA rfl) (tS rfl) ?_ | refine ldC hO 2 rfl rfl (tA rfl) rfl ?_ | refine ldX hO 3 rfl rfl (tA rfl) (tS rfl) ?_ | refine ldC hO 3 rfl rfl (tA rfl) rfl ?_ | refine ldX hO 4 rfl rfl (tA rfl) (tS rfl) ?_ | refine ldC hO 4 rfl rfl (tA rfl) rfl ?_ | refine ldX hO 5 rfl rfl (tA rfl) (tS rfl) ?_ | refine ldC hO 5 rfl rfl (tA rfl) rfl ?_)
    | ((with_reducible refine gStore ?_); first | (refine stX hO 0 rfl rfl rfl rfl rfl (tS rfl) ?_; clear hO; intro ww hO) | (refine stC hO 0 rfl rfl rfl (ltb rfl) rfl (tS rfl) ?_; clear hO; intro ww hO) | (refine stX hO 1 rfl rfl rfl rfl rfl (tS rfl) ?_; clear hO; intro ww hO) | (refine stC hO 1 rfl rfl rfl (ltb rfl) rfl (tS rfl) ?_; clear hO; intro ww hO) | (refine stX hO 2 rfl rfl rfl rfl rfl (tS rfl) ?_; clear hO; intro ww hO) | (refine stC hO 2 rfl rfl rfl (ltb rfl) rfl (tS rfl) ?_; clear hO; intro ww hO) | (refine stX hO 3 rfl rfl rfl rfl rfl (tS rfl) ?_; clear hO; intro ww hO) | (refine stC hO 3 rfl rfl rfl (ltb rfl) rfl (tS rfl) ?_; clear hO; intro ww hO) | (refine stX hO 4 rfl rfl rfl rfl rfl (tS rfl) ?_; clear hO; intro ww hO) | (refine stC hO 4 rfl rfl rfl (ltb rfl) rfl (tS rfl) ?_; clear hO; intro ww hO) | (refine stX hO 5 rfl rfl rfl rfl rfl (tS rfl) ?_; clear hO; intro ww hO) | (refine stC hO 5 rfl rfl rfl (ltb rfl) rfl (tS rfl) ?_; clear hO; intro ww hO)))
  refine bodyPost_ret (res_tct rfl _ _ _ 27 (ringC St.zero 0#64) (0,0) _ rfl (hO.blk 3 rfl) Tryz.underlying27 rfl (irs _ _)) rfl ⟨rfl, hO.below⟩
end Go.Proofs.YtniibdglodnhoaaGreatDoor

/- Walks: the document's Build, SamePieces. -/
namespace Go.Proofs.YtniibdglodnhoaaGreatDoor
open Go.RowKit Go.Own Go.Bv Go.Ord Go.Eq Go.Opn Go.Pb Go.Sl

theorem pcs_append' : ∀ l r : List Pc, pcs (l ++ r) = pcs l ++ pcs r
  | [], r => rfl
  | t :: l, r => by simp only [pcs, List.cons_append, pcs_append' l r]
theorem pcs_one (l : List Pc) : ∀ u ∈ pcs l, u.oneCell' = true := by
  induction l with
  | nil => simp [pcs]
  | cons t r ih =>
    intro u hu
    simp only [pcs, List.mem_cons] at hu
    rcases hu with rfl | rfl | rfl | hu
    · rfl
    · rfl
    · rfl
    · exact ih u hu

theorem next_piece (ss : List Tb) : ∀ k (hk : k < ss.length), (pieces (txs ss)).take (k + 1) = (pieces (txs ss)).take k ++ [⟨((upTo ss k).length : Int), (ss[k].b.length : Int), Crc.sum ss[k].b⟩] := by
  intro k hk
  have e : (txs ss).getD k [] = ss[k].b := by
    rw [List.getD_eq_getElem?_getD, List.getElem?_eq_getElem (by rw [txs_length]; exact hk), txs_get ss k hk]; rfl
  rw [List.take_succ_eq_append_getElem (by rw [pieces_length, txs_length]; exact hk), pieces_get]
  unfold pieceAt upTo
  rw [e]

set_option maxHeartbeats 4000000 in
set_option maxRecDepth 100000 in
theorem rbuild_okN (key : St) (n : BitVec 64) (a : Option Addr) (len cap : Nat) (ss : List Tb) (w : World) (hR : Txs w a len cap ss) (hlen : len ≤ 8) (hn : n ≠ 18446744073709551615#64) (X : List (BitVec 8)) (hX : (txs ss).flatten = X) (hX6 : X.length ≤ 600) (T : List (BitVec 8)) (hTT : sealT key n X = T) (M : Nat) (hM : T.length = M) :
    Calls Tryz.prog 8 #[.agg (ringC key n), .slice a len cap] w fun e w' => ∃ a1 c1 a2 c2, e = .returned (.tuple #[.slice a1 M c1, .slice a2 len c2, .agg (ringC key (n + 1#64)), .int .i64 0]) ∧
      Own w w' [.sl 5 1 (.slice a1 M c1) M (u8s T), .sl 44 3 (.slice a2 len c2) len (pcs (pieces (txs ss)))] := by
  have hO := Own.start w
  have hsl := hR.len
  have htl : (txs ss).length = len := by rw [txs_length, hsl]
  obtain ⟨N, hN⟩ : ∃ N, X.length = N := ⟨_, rfl⟩
  have hle : ∀ k, (upTo ss k).length ≤ N := fun k => by rw [← hN, ← hX]; exact upTo_le ss k
  have hN480 : N ≤ 600 := by omega
  have hall : upTo ss len = X := by rw [← hsl, upTo_all, hX]
  have HNX := Lib.hid (next_piece ss)
  have HPALL : Hid ((pieces (txs ss)).take len = pieces (txs ss)) := by show _ = _; rw [List.take_of_length_le (by rw [pieces_length, htl]; omega)]
  have G2 := Lib.hid (fun w a c h => rsseal_ok key n a N c X w h (by omega) hn T hTT M hM)
  have HR := Lib.hid hR
  have HSL := Lib.hid hsl
  have HLE := Lib.hid hle
  have HALL := Lib.hid hall
  have HNN := Lib.hid hN
  have d0 : decide ((65536 : Int) < (N : Int)) = false := decide_eq_false (by omega)
  obtain ⟨n1, hn1⟩ : ∃ n1, n + 1#64 = n1 := ⟨_, rfl⟩
  rw [hn1] at G2 ⊢
  clear hR hsl htl hN hle hX hTT hM hn hn1 hX6 hall
  generalize hW : w = wn at hO HR ⊢
  clear hW w
  go_enter Tryz.func8, Tryz.ntmps8
  go_wp2_with (first
    | ((with_reducible refine gG ?_); refine wpList_want rfl ?_)
    | ((with_reducible refine gBox ?_); first | (refine bxA hO rfl ?_; clear hO; intro br ww hO) | (refine bx1 hO rfl rfl ?_; clear hO; intro br ww hO))
    | ((with_reducible refine gAlloc (d := some 6) (T := 27) ?_); refine own_alloc hO _ _ irz ?_; clear hO; intro zb ww hO))
  replace hO : Own wn ww [.sl 44 3 (.slice none 0 0) 0 (pcs []), .sl 5 1 (.slice none 0 0) 0 (u8s []), .blk zb (.cells (ringC St.zero 0#64) 27 (0,0)), .blk br (.cells (ringC key n) 27 (0,0))] := (hO.add (Below.refl _ _) (r := .sl 5 1 (.slice none 0 0) 0 (u8s [])) (World.ownsRow_nil _ _ _ _)).add (Below.refl _ _) (World.ownsRow_nil _ _ _ _)
  go_loopg [8, 9, 17] len (fun m s8 s9 c wr => ∃ (k K : Nat) (aA : Option Addr) (cA : Nat) (aP : Option Addr) (cP : Nat), m = len - k ∧ k ≤ len ∧ c = .int .i64 k ∧ s8 = .slice aA K cA ∧ s9 = .slice aP k cP ∧ Hid ((upTo ss k).length = K) ∧
    Own wn wr [.sl 44 3 (.slice aP k cP) k (pcs ((pieces (txs ss)).take k)), .sl 5 1 (.slice aA K cA) K (u8s (upTo ss k)), .blk zb (.cells (ringC St.zero 0#64) 27 (0,0)), .blk br (.cells (ringC key n) 27 (0,0))])
  case atStart => exact ⟨0, 0, none, 0, none, 0, rfl, by omega, rfl, rfl, rfl, by show _ = _; rw [upTo_zero]; rfl, by rw [upTo_zero, List.take_zero]; exact hO⟩
  case round =>
    obtain ⟨k, K, aA, cA, aP, cP, rfl, hk, rfl, rfl, rfl, HK, hO1⟩ := hrel
    clear hO
    have hO := hO1
    clear hO1
    by_cases hlt : k < len
    · have d1 : decide ((k : Int) < (len : Int)) = true := decide_eq_true (by omega)
      have hkl : k < ss.length := by rw [HSL.out]; exact hlt
      obtain ⟨q1, q2, q3⟩ := HR.out.at hkl
      have hnx := upTo_next ss k hkl
      have hle1 := HLE.out (k + 1)
      have hlk : (upTo ss (k + 1)).length = K + ss[k].n := by rw [hnx, List.length_append, HK.out, q3]
      rw [hlk] at hle1
      have hpc := HNX.out k hkl
      rw [HK.out, q3] at hpc
      generalize ss[k] = t at *
      obtain ⟨ta, tn, tc, tb⟩ := t
      dsimp only at q1 q2 q3 hlk hle1 hpc hnx
      obtain ⟨ba, off, rfl⟩ := HR.out.1.place (by omega)
      obtain ⟨su, hsu⟩ : ∃ su, Crc.sum tb = su := ⟨_, rfl⟩
      rw [hsu] at hpc
      have HQ := Lib.hid q2
      have G3 := Lib.hid (fun w h => rsum_calls ta tn tc tb w h)
      rw [hsu] at G3
      have HX := Lib.hid q1
      have HLK := Lib.hid hlk
      have HPC : Hid (pcs ((pieces (txs ss)).take k) ++ pcs [⟨(K : Int), (tn : Int), su⟩] = pcs ((pieces (txs ss)).take (k + 1))) := by show _ = _; rw [hpc, pcs_append']
      have HU : Hid (u8s (upTo ss k) ++ u8s tb = u8s (upTo ss (k + 1))) := by show _ = _; rw [hnx, u8s_append]
      clear q1 q2 q3 hnx hlk hkl hpc hsu
      generalize pcs ((pieces (txs ss)).take k) = cur at *
      generalize u8s (upTo ss k) = cua at *
      go_wp2_with (first
        | ((with_reducible refine gLoad (d := some 20) ?_); refine ld_rd (hO.rd HR.out.1) rfl HX.out (tA rfl) ?_)
        | (go_at_call 21; refine (G3.out _ (hO.rd HQ.out)).mono ?_; rintro e ww ⟨rfl, rfl⟩)
        | ((with_reducible refine gBld (T := 44) ?_); refine own_bld #[.int .i64 (K : Int), .int .i64 (tn : Int), .int .u32 (su.toNat : Int)] (by kernel_rfl) ?_)
        | ((with_reducible refine gBuild (d := some 29) ?_); refine own_build hO 32 1 _ epc (pcs [⟨(K : Int), (tn : Int), su⟩]).toArray (by omega) (by omega) (by kernel_rfl) rfl ?_; clear hO; intro gb ww hO)
        | ((with_reducible refine gAppend (d := some 30) ?_); refine own_append hO 1 _ _ 32 epc rfl rfl rfl (hO.rdAt 0 rfl) (pcs_one _) (k + 1) rfl (by simp [maxLen]; omega) (by omega) ?_; clear hO; intro a1 c1 ww hO)
        | ((with_reducible refine gAppend (d := some 33) ?_); refine own_append hO 2 _ _ 29 eu8_8 rfl rfl rfl (hO.rd HQ.out) (u8s_one _) (K + tn) rfl (by simp [maxLen]; omega) (by omega) ?_; clear hO; intro a2 c2 ww hO))
      go_roundg (len - (k + 1))
      case measure => omega
      case rel => exact ⟨k + 1, K + tn, a2, c2, a1, c1, rfl, by omega, by go_num, rfl, rfl, HLK.out, by rw [← HPC.out, ← HU.out]; exact hO.tail⟩
    · obtain rfl : k = len := by omega
      have d1 : decide ((k : Int) < (k : Int)) = false := decide_eq_false (by omega)
      have hKN : K = N := by have := HK.out; rw [HALL.out, HNN.out] at this; exact this.symm
      subst hKN
      rw [HALL.out, HPALL.out] at hO
      clear HK HNX HPALL HALL
      go_wp2_with (first
        | ((with_reducible refine gAlloc (d := some 13) (T := 27) ?_); refine own_alloc hO _ _ irz ?_; clear hO; intro bn ww hO)
        | (go_at_call 14; refine (G2.out _ _ _ (hO.rdAt 1 rfl)).mono ?_; rintro e ww ⟨a3, c3, rfl, hb, hr⟩; replace hO := hO.addRow hb hr; clear hb hr)
        | ((with_reducible refine gLoad ?_); first | refine ldX hO 0 rfl rfl (tA rfl) (tS rfl) ?_ | refine ldC hO 0 rfl rfl (tA rfl) rfl ?_ | refine ldX hO 1 rfl rfl (tA rfl) (tS rfl) ?_ | refine ldC hO 1 rfl rfl (tA rfl) rfl ?_ | refine ldX hO 2 rfl rfl (tA rfl) (tS rfl) ?_ | refine ldC hO 2 rfl rfl (tA rfl) rfl ?_ | refine ldX hO 3 rfl rfl (tA rfl) (tS rfl) ?_ | refine ldC hO 3 rfl rfl (tA rfl) rfl ?_ | refine ldX hO 4 rfl rfl (tA rfl) (tS rfl) ?_ | refine ldC hO 4 rfl rfl (tA rfl) rfl ?_ | refine ldX hO 5 rfl rfl (tA rfl) (tS rfl) ?_ | refine ldC hO 5 rfl rfl (tA rfl) rfl ?_)
        | ((with_reducible refine gStore ?_); first | (refine stX hO 0 rfl rfl rfl rfl rfl (tS rfl) ?_; clear hO; intro ww hO) | (refine stC hO 0 rfl rfl rfl (ltb rfl) rfl (tS rfl) ?_; clear hO; intro ww hO) | (refine stX hO 1 rfl rfl rfl rfl rfl (tS rfl) ?_; clear hO; intro ww hO) | (refine stC hO 1 rfl rfl rfl (ltb rfl) rfl (tS rfl) ?_; clear hO; intro ww hO) | (refine stX hO 2 rfl rfl rfl rfl rfl (tS rfl) ?_; clear hO; intro ww hO) | (refine stC hO 2 rfl rfl rfl (ltb rfl) rfl (tS rfl) ?_; clear hO; intro ww hO) | (refine stX hO 3 rfl rfl rfl rfl rfl (tS rfl) ?_; clear hO; intro ww hO) | (refine stC hO 3 rfl rfl rfl (ltb rfl) rfl (tS rfl) ?_; clear hO; intro ww hO) | (refine stX hO 4 rfl rfl rfl rfl rfl (tS rfl) ?_; clear hO; intro ww hO) | (refine stC hO 4 rfl rfl rfl (ltb rfl) rfl (tS rfl) ?_; clear hO; intro ww hO) | (refine stX hO 5 rfl rfl rfl rfl rfl (tS rfl) ?_; clear hO; intro ww hO) | (refine stC hO 5 rfl rfl rfl (ltb rfl) rfl (tS rfl) ?_; clear hO; intro ww hO)))
      refine wp_region_text (by kernel_rfl) (by kernel_rfl) ?_
      replace hO := hO.drew
      generalize World.drew _ = wd at hO ⊢
      go_wp2_with (first
        | ((with_reducible refine gLoad ?_); first | refine ldX hO 0 rfl rfl (tA rfl) (tS rfl) ?_ | refine ldC hO 0 rfl rfl (tA rfl) rfl ?_ | refine ldX hO 1 rfl rfl (tA rfl) (tS rfl) ?_ | refine ldC hO 1 rfl rfl (tA rfl) rfl ?_ | refine ldX hO 2 rfl rfl (tA rfl) (tS rfl) ?_ | refine ldC hO 2 rfl rfl (tA rfl) rfl ?_ | refine ldX hO 3 rfl rfl (tA rfl) (tS rfl) ?_ | refine ldC hO 3 rfl rfl (tA rfl) rfl ?_ | refine ldX hO 4 rfl rfl (tA rfl) (tS rfl) ?_ | refine ldC hO 4 rfl rfl (tA rfl) rfl ?_ | refine ldX hO 5 rfl rfl (tA rfl) (tS rfl) ?_ | refine ldC hO 5 rfl rfl (tA rfl) rfl ?_)
        | ((with_reducible refine gStore ?_); first | (refine stX hO 0 rfl rfl rfl rfl rfl (tS rfl) ?_; clear hO; intro ww hO) | (refine stC hO 0 rfl rfl rfl (ltb rfl) rfl (tS rfl) ?_; clear hO; intro ww hO) | (refine stX hO 1 rfl rfl rfl rfl rfl (tS rfl) ?_; clear hO; intro ww hO) | (refine stC hO 1 rfl rfl rfl (ltb rfl) rfl (tS rfl) ?_; clear hO; intro ww hO) | (refine stX hO 2 rfl rfl rfl rfl rfl (tS rfl) ?_; clear hO; intro ww hO) | (refine stC hO 2 rfl rfl rfl (ltb rfl) rfl (tS rfl) ?_; clear hO; intro ww hO) | (refine stX hO 3 rfl rfl rfl rfl rfl (tS rfl) ?_; clear hO; intro ww hO) | (refine stC hO 3 rfl rfl rfl (ltb rfl) rfl (tS rfl) ?_; clear hO; intro ww hO) | (refine stX hO 4 rfl rfl rfl rfl rfl (tS rfl) ?_; clear hO; intro ww hO) | (refine stC hO 4 rfl rfl rfl (ltb rfl) rfl (tS rfl) ?_; clear hO; intro ww hO) | (refine stX hO 5 rfl rfl rfl rfl rfl (tS rfl) ?_; clear hO; intro ww hO) | (refine stC hO 5 rfl rfl rfl (ltb rfl) rfl (tS rfl) ?_; clear hO; intro ww hO))
        | ((with_reducible refine gI ?_); refine wpI_step rfl rfl (by kernel_rfl) ?_; intro K hK; have HK := Lib.hid hK; clear hK) | ((with_reducible refine gI ?_); first | refine wpI_skip rfl ?_ | refine wpI_want rfl ?_) | ((with_reducible refine gOnlyK0 HK.out ?_); clear HK K; first | (refine wpI_act (by simp only [Act.put, List.setIfInBounds_toArray, List.set_cons_succ, List.set_cons_zero]; rfl) ?_) | skip) | (with_reducible refine wpI_nil ?_))
      refine bodyPost_ret (res_ttct rfl _ _ _ 27 (ringC key n1) (0,0) _ rfl (hO.blk 4 rfl) Tryz.underlying27 rfl (irs _ _)) rfl ⟨a3, c3, aP, cP, rfl, hO.sub (List.Sublist.cons _ (List.Sublist.cons_cons _ (List.Sublist.cons_cons _ (List.nil_sublist _))))⟩

set_option maxHeartbeats 2000000 in
set_option maxRecDepth 100000 in
theorem rbuild_full (key : St) (n : BitVec 64) (a : Option Addr) (len cap : Nat) (ss : List Tb) (w : World) (hR : Txs w a len cap ss) (hlen : len ≤ 8) (hn : n = 18446744073709551615#64) (X : List (BitVec 8)) (hX : (txs ss).flatten = X) (hX6 : X.length ≤ 600) :
    Calls Tryz.prog 8 #[.agg (ringC key n), .slice a len cap] w fun e w' => e = .returned (.tuple #[.slice none 0 0, .slice none 0 0, .agg (ringC St.zero 0#64), .int .i64 6]) ∧ Below w.heap.size w w' := by
  have hO := Own.start w
  have hsl := hR.len
  have htl : (txs ss).length = len := by rw [txs_length, hsl]
  obtain ⟨N, hN⟩ : ∃ N, X.length = N := ⟨_, rfl⟩
  have hle : ∀ k, (upTo ss k).length ≤ N := fun k => by rw [← hN, ← hX]; exact upTo_le ss k
  have hN480 : N ≤ 600 := by omega
  have hall : upTo ss len = X := by rw [← hsl, upTo_all, hX]
  have HNX := Lib.hid (next_piece ss)
  have HPALL : Hid ((pieces (txs ss)).take len = pieces (txs ss)) := by show _ = _; rw [List.take_of_length_le (by rw [pieces_length, htl]; omega)]
  have G2 := Lib.hid (fun w a c h => rsseal_full key n a N c X w h (by omega) hn)
  have HR := Lib.hid hR
  have HSL := Lib.hid hsl
  have HLE := Lib.hid hle
  have HALL := Lib.hid hall
  have HNN := Lib.hid hN
  have d0 : decide ((65536 : Int) < (N : Int)) = false := decide_eq_false (by omega)
  clear hR hsl htl hN hle hX hn hX6 hall
  generalize hW : w = wn at hO HR ⊢
  clear hW w
  go_enter Tryz.func8, Tryz.ntmps8
  go_wp2_with (first
    | ((with_reducible refine gG ?_); refine wpList_want rfl ?_)
    | ((with_reducible refine gBox ?_); first | (refine bxA hO rfl ?_; clear hO; intro br ww hO) | (refine bx1 hO rfl rfl ?_; clear hO; intro br ww hO))
    | ((with_reducible refine gAlloc (d := some 6) (T := 27) ?_); refine own_alloc hO _ _ irz ?_; clear hO; intro zb ww hO))
  replace hO : Own wn ww [.sl 44 3 (.slice none 0 0) 0 (pcs []), .sl 5 1 (.slice none 0 0) 0 (u8s []), .blk zb (.cells (ringC St.zero 0#64) 27 (0,0)), .blk br (.cells (ringC key n) 27 (0,0))] := (hO.add (Below.refl _ _) (r := .sl 5 1 (.slice none 0 0) 0 (u8s [])) (World.ownsRow_nil _ _ _ _)).add (Below.refl _ _) (World.ownsRow_nil _ _ _ _)
  go_loopg [8, 9, 17] len (fun m s8 s9 c wr => ∃ (k K : Nat) (aA : Option Addr) (cA : Nat) (aP : Option Addr) (cP : Nat), m = len - k ∧ k ≤ len ∧ c = .int .i64 k ∧ s8 = .slice aA K cA ∧ s9 = .slice aP k cP ∧ Hid ((upTo ss k).length = K) ∧
    Own wn wr [.sl 44 3 (.slice aP k cP) k (pcs ((pieces (txs ss)).take k)), .sl 5 1 (.slice aA K cA) K (u8s (upTo ss k)), .blk zb (.cells (ringC St.zero 0#64) 27 (0,0)), .blk br (.cells (ringC key n) 27 (0,0))])
  case atStart => exact ⟨0, 0, none, 0, none, 0, rfl, by omega, rfl, rfl, rfl, by show _ = _; rw [upTo_zero]; rfl, by rw [upTo_zero, List.take_zero]; exact hO⟩
  case round =>
    obtain ⟨k, K, aA, cA, aP, cP, rfl, hk, rfl, rfl, rfl, HK, hO1⟩ := hrel
    clear hO
    have hO := hO1
    clear hO1
    by_cases hlt : k < len
    · have d1 : decide ((k : Int) < (len : Int)) = true := decide_eq_true (by omega)
      have hkl : k < ss.length := by rw [HSL.out]; exact hlt
      obtain ⟨q1, q2, q3⟩ := HR.out.at hkl
      have hnx := upTo_next ss k hkl
      have hle1 := HLE.out (k + 1)
      have hlk : (upTo ss (k + 1)).length = K + ss[k].n := by rw [hnx, List.length_append, HK.out, q3]
      rw [hlk] at hle1
      have hpc := HNX.out k hkl
      rw [HK.out, q3] at hpc
      generalize ss[k] = t at *
      obtain ⟨ta, tn, tc, tb⟩ := t
      dsimp only at q1 q2 q3 hlk hle1 hpc hnx
      obtain ⟨ba, off, rfl⟩ := HR.out.1.place (by omega)
      obtain ⟨su, hsu⟩ : ∃ su, Crc.sum tb = su := ⟨_, rfl⟩
      rw [hsu] at hpc
      have HQ := Lib.hid q2
      have G3 := Lib.hid (fun w h => rsum_calls ta tn tc tb w h)
      rw [hsu] at G3
      have HX := Lib.hid q1
      have HLK := Lib.hid hlk
      have HPC : Hid (pcs ((pieces (txs ss)).take k) ++ pcs [⟨(K : Int), (tn : Int), su⟩] = pcs ((pieces (txs ss)).take (k + 1))) := by show _ = _; rw [hpc, pcs_append']
      have HU : Hid (u8s (upTo ss k) ++ u8s tb = u8s (upTo ss (k + 1))) := by show _ = _; rw [hnx, u8s_append]
      clear q1 q2 q3 hnx hlk hkl hpc hsu
      generalize pcs ((pieces (txs ss)).take k) = cur at *
      generalize u8s (upTo ss k) = cua at *
      go_wp2_with (first
        | ((with_reducible refine gLoad (d := some 20) ?_); refine ld_rd (hO.rd HR.out.1) rfl HX.out (tA rfl) ?_)
        | (go_at_call 21; refine (G3.out _ (hO.rd HQ.out)).mono ?_; rintro e ww ⟨rfl, rfl⟩)
        | ((with_reducible refine gBld (T := 44) ?_); refine own_bld #[.int .i64 (K : Int), .int .i64 (tn : Int), .int .u32 (su.toNat : Int)] (by kernel_rfl) ?_)
        | ((with_reducible refine gBuild (d := some 29) ?_); refine own_build hO 32 1 _ epc (pcs [⟨(K : Int), (tn : Int), su⟩]).toArray (by omega) (by omega) (by kernel_rfl) rfl ?_; clear hO; intro gb ww hO)
        | ((with_reducible refine gAppend (d := some 30) ?_); refine own_append hO 1 _ _ 32 epc rfl rfl rfl (hO.rdAt 0 rfl) (pcs_one _) (k + 1) rfl (by simp [maxLen]; omega) (by omega) ?_; clear hO; intro a1 c1 ww hO)
        | ((with_reducible refine gAppend (d := some 33) ?_); refine own_append hO 2 _ _ 29 eu8_8 rfl rfl rfl (hO.rd HQ.out) (u8s_one _) (K + tn) rfl (by simp [maxLen]; omega) (by omega) ?_; clear hO; intro a2 c2 ww hO))
      go_roundg (len - (k + 1))
      case measure => omega
      case rel => exact ⟨k + 1, K + tn, a2, c2, a1, c1, rfl, by omega, by go_num, rfl, rfl, HLK.out, by rw [← HPC.out, ← HU.out]; exact hO.tail⟩
    · obtain rfl : k = len := by omega
      have d1 : decide ((k : Int) < (k : Int)) = false := decide_eq_false (by omega)
      have hKN : K = N := by have := HK.out; rw [HALL.out, HNN.out] at this; exact this.symm
      subst hKN
      rw [HALL.out, HPALL.out] at hO
      clear HK HNX HPALL HALL
      go_wp2_with (first
        | ((with_reducible refine gG ?_); refine wpList_want rfl ?_)
        | ((with_reducible refine gAlloc (d := some 13) (T := 27) ?_); refine own_alloc hO _ _ irz ?_; clear hO; intro bn ww hO)
        | (go_at_call 14; refine (G2.out _ _ _ (hO.rdAt 1 rfl)).mono ?_; rintro e ww ⟨rfl, hb⟩; replace hO := hO.call hb; clear hb)
        | ((with_reducible refine gBld (T := 27) ?_); refine own_bld (ringC St.zero 0#64) (by kernel_rfl) ?_)
        | ((with_reducible refine gLoad ?_); first | refine ldX hO 0 rfl rfl (tA rfl) (tS rfl) ?_ | refine ldC hO 0 rfl rfl (tA rfl) rfl ?_ | refine ldX hO 1 rfl rfl (tA rfl) (tS rfl) ?_ | refine ldC hO 1 rfl rfl (tA rfl) rfl ?_ | refine ldX hO 2 rfl rfl (tA rfl) (tS rfl) ?_ | refine ldC hO 2 rfl rfl (tA rfl) rfl ?_ | refine ldX hO 3 rfl rfl (tA rfl) (tS rfl) ?_ | refine ldC hO 3 rfl rfl (tA rfl) rfl ?_ | refine ldX hO 4 rfl rfl (tA rfl) (tS rfl) ?_ | refine ldC hO 4 rfl rfl (tA rfl) rfl ?_ | refine ldX hO 5 rfl rfl (tA rfl) (tS rfl) ?_ | refine ldC hO 5 rfl rfl (tA rfl) rfl ?_)
        | ((with_reducible refine gStore ?_); first | (refine stX hO 0 rfl rfl rfl rfl rfl (tS rfl) ?_; clear hO; intro ww hO) | (refine stC hO 0 rfl rfl rfl (ltb rfl) rfl (tS rfl) ?_; clear hO; intro ww hO) | (refine stX hO 1 rfl rfl rfl rfl rfl (tS rfl) ?_; clear hO; intro ww hO) | (refine stC hO 1 rfl rfl rfl (ltb rfl) rfl (tS rfl) ?_; clear hO; intro ww hO) | (refine stX hO 2 rfl rfl rfl rfl rfl (tS rfl) ?_; clear hO; intro ww hO) | (refine stC hO 2 rfl rfl rfl (ltb rfl) rfl (tS rfl) ?_; clear hO; intro ww hO) | (refine stX hO 3 rfl rfl rfl rfl rfl (tS rfl) ?_; clear hO; intro ww hO) | (refine stC hO 3 rfl rfl rfl (ltb rfl) rfl (tS rfl) ?_; clear hO; intro ww hO) | (refine stX hO 4 rfl rfl rfl rfl rfl (tS rfl) ?_; clear hO; intro ww hO) | (refine stC hO 4 rfl rfl rfl (ltb rfl) rfl (tS rfl) ?_; clear hO; intro ww hO) | (refine stX hO 5 rfl rfl rfl rfl rfl (tS rfl) ?_; clear hO; intro ww hO) | (refine stC hO 5 rfl rfl rfl (ltb rfl) rfl (tS rfl) ?_; clear hO; intro ww hO)))
      refine bodyPost_ret (res_ttct rfl _ _ _ 27 (ringC St.zero 0#64) (0,0) _ rfl (hO.blk 3 rfl) Tryz.underlying27 rfl (irs _ _)) rfl ⟨rfl, hO.below⟩

theorem p_egP : Tryz.prog.eqGuardType Tryz.prog.depth 44 = false := by kernel_rfl
theorem nePT (t : Pc) (w : World) : (binOp .neq 44 (.agg t.C) (.agg t.C)).run Tryz.prog w = .ok (.bool false) w := by
  have u3 := Tryz.underlying3
  have u5 := Tryz.underlying22
  have hS : Tryz.prog.underlying 44 = some (.struct (Tryz.prog.fieldsOf 44)) := by kernel_rfl
  have hp : Tryz.prog.stoodInHeld 44 = false := by kernel_rfl
  rw [run_neq_struct, show (10000 : Nat) = 9999 + 1 from rfl, run_equalIn_agg w 9999 44 _ _ hS hp]
  simp only [Program.fieldsOf, Tryz.underlying44, Pc.C]
  go_simp
section
variable {P : Program} {ops : Array Oper} {Q : Exit → Act → World → Prop} {a : Act} {w : World} {rest : List Oper}
variable {d : Option Tmp} {ty : TypeId} {pos : String} {aft : Array Edge}
theorem ld_pcQ {T : TypeId} {x : Operand} {b off j n cap : Nat} {l : List Pc} {t : Pc} {k : Nat} (hR : Rd w 3 (some ⟨b, off, none⟩) n cap (pcs l)) (ht : l[k]? = some t) (hx : a.eval x = .pointer (some ⟨b, j, none⟩)) (hj : j = off + k * 3)
    (hT : aggT P T = some true) (hs : (P.info? T).map (·.size) = some 3) (h : wpList P ops Q rest (a.put d (.agg t.C)) w) :
    wpList P ops Q ({ dst := d, op := .load T x, type := ty, pos := pos, after := aft, guard := none } :: rest) a w := by
  subst hj
  exact ld_pc hR ht hx hT hs h
end

set_option maxHeartbeats 2000000 in
set_option maxRecDepth 100000 in
theorem samep_refl (a1 a2 : Option Addr) (n c1 c2 : Nat) (l : List Pc) (w : World) (h1 : Rd w 3 a1 n c1 (pcs l)) (h2 : Rd w 3 a2 n c2 (pcs l)) (hn : n ≤ 1000000) :
    Calls Tryz.prog 12 #[.slice a1 n c1, .slice a2 n c2] w fun e w' => e = .returned (.bool true) ∧ Below w.heap.size w w' := by
  have hO := Own.start w
  have hll : l.length = n := by have := h1.len; rw [pcs_length] at this; omega
  have H1 := Lib.hid h1
  have H2 := Lib.hid h2
  have HLL := Lib.hid hll
  clear h1 h2 hll
  generalize hW : w = wn at hO H1 H2 ⊢
  clear hW w
  have d9 : ((n : Int) != (n : Int)) = false := by simp
  go_enter Tryz.func12, Tryz.ntmps12
  go_wp2
  go_loopg [13] n (fun q c wr => ∃ k : Nat, q = n - k ∧ k ≤ n ∧ c = .int .i64 (k : Int) ∧ Own wn wr [])
  case atStart => exact ⟨0, rfl, by omega, rfl, hO⟩
  case round =>
    obtain ⟨k, rfl, hk, rfl, hO1⟩ := hrel
    clear hO
    have hO := hO1
    clear hO1
    by_cases hlt : k < n
    · have d0 : decide ((k : Int) < (n : Int)) = true := decide_eq_true (by omega)
      have hkl : k < l.length := by rw [HLL.out]; exact hlt
      have hx : l[k]? = some l[k] := List.getElem?_eq_getElem hkl
      generalize l[k] = t at *
      obtain ⟨b1, o1, rfl⟩ := H1.out.place (by omega)
      obtain ⟨b2, o2, rfl⟩ := H2.out.place (by omega)
      have HX := Lib.hid hx
      clear hx hkl
      go_wp2
      refine wp_region_text (by kernel_rfl) (by kernel_rfl) ?_
      replace hO := hO.drew
      generalize World.drew _ = wd at hO ⊢
      go_wp2_with (first
        | ((with_reducible refine gLoad (d := some 19) ?_); refine ld_pcQ (hO.rd H1.out) HX.out rfl (by omega) (tA rfl) ipc ?_)
        | ((with_reducible refine gLoad (d := some 23) ?_); refine ld_pcQ (hO.rd H2.out) HX.out rfl (by omega) (tA rfl) ipc ?_)
        | ((with_reducible refine gNeq (t := 44) ?_); refine neD p_egP rfl rfl ?_; (with_reducible refine ⟨_, nePT _, ?_⟩))
        | ((with_reducible refine gI ?_); refine wpI_step rfl rfl (by kernel_rfl) ?_; intro K hK; have HK := Lib.hid hK; clear hK) | ((with_reducible refine gI ?_); first | refine wpI_skip rfl ?_ | refine wpI_want rfl ?_) | ((with_reducible refine gOnlyK0 HK.out ?_); clear HK K; first | (refine wpI_act (by simp only [Act.put, List.setIfInBounds_toArray, List.set_cons_succ, List.set_cons_zero]; rfl) ?_) | skip) | (with_reducible refine wpI_nil ?_))
      go_roundg (n - (k + 1))
      case measure => omega
      case rel => exact ⟨k + 1, rfl, by omega, by go_num, hO⟩
    · obtain rfl : k = n := by omega
      have d0 : decide ((k : Int) < (k : Int)) = false := decide_eq_false (by omega)
      go_wp2
      go_ret
      exact ⟨rfl, hO.below⟩
end Go.Proofs.YtniibdglodnhoaaGreatDoor

/- The law's live. -/
namespace Go.Proofs.YtniibdglodnhoaaGreatDoor
open Go.RowKit Go.Own Go.Bv Go.Ord Go.Eq Go.Opn Go.Pb Go.Sl

theorem sames_refl (a1 a2 : Option Addr) (n c1 c2 : Nat) (b : List (BitVec 8)) (w : World) (h1 : Rd w 1 a1 n c1 (u8s b)) (h2 : Rd w 1 a2 n c2 (u8s b)) :
    Calls Tryz.prog 11 #[.slice a1 n c1, .slice a2 n c2] w fun e w' => e = .returned (.bool true) ∧ w = w' := by
  have h := same8_calls a1 a2 n c1 n c2 b b w h1 h2
  rw [decide_eq_true rfl] at h
  exact h

set_option maxHeartbeats 4000000 in
set_option maxRecDepth 100000 in
theorem slive_calls (w : World) (hT : Turns w) :
    Calls Tryz.prog 5 #[] w fun e w' => e = .returned (.bool true) ∧ Below w.heap.size w w' := by
  have hO := Own.start w
  obtain ⟨T, hTT⟩ : ∃ T, sealT St.zero 0#64 [97#8, 98#8, 99#8] = T := ⟨_, rfl⟩
  obtain ⟨M, hM⟩ : ∃ M, T.length = M := ⟨_, rfl⟩
  obtain ⟨pl, hpl⟩ : ∃ pl, pcs (pieces [[97#8, 98#8], [99#8]]) = pl := ⟨_, rfl⟩
  have q3 : pl[3]? = some (.int .i64 2) := by rw [← hpl]; rfl
  have q4 : pl[4]? = some (.int .i64 1) := by rw [← hpl]; rfl
  have g1 := fun (x y z : Nat) w h hT => build_ok St.zero 0#64 (some ⟨z, 0, none⟩) 2 2 [⟨some ⟨x, 0, none⟩, 2, 2, [97#8, 98#8]⟩, ⟨some ⟨y, 0, none⟩, 1, 1, [99#8]⟩] w h (by omega) (fun t ht => by simp only [List.mem_cons, List.not_mem_nil, or_false] at ht; rcases ht with rfl | rfl <;> simp) (by decide) hT [97#8, 98#8, 99#8] rfl T hTT M hM
  have e1 : ∀ x y : Nat, txs [⟨some ⟨x, 0, none⟩, 2, 2, [97#8, 98#8]⟩, ⟨some ⟨y, 0, none⟩, 1, 1, [99#8]⟩] = [[97#8, 98#8], [99#8]] := fun _ _ => rfl
  simp only [e1, hpl] at g1
  have G1 := Lib.hid g1
  have HT := Lib.hid hT
  have Q3 := Lib.hid q3
  have Q4 := Lib.hid q4
  clear hT hTT hM hpl q3 q4 g1 e1
  generalize hW : w = wn at hO HT ⊢
  clear hW w
  go_enter Tryz.func5, Tryz.ntmps5
  go_wp2_with (first
    | ((with_reducible refine gG (d := some 26) ?_); refine wpList_want rfl ?_)
    | ((with_reducible refine gG (d := some 33) ?_); refine wpList_want rfl ?_)
    | ((with_reducible refine gBld (T := 27) ?_); refine own_bld (ringC St.zero 0#64) (by kernel_rfl) ?_)
    | ((with_reducible refine gBuild (d := some 7) ?_); refine own_build hO 29 2 _ eu8_8 (u8s [97#8, 98#8]).toArray (by omega) (by omega) (by kernel_rfl) rfl ?_; clear hO; intro x1 ww hO)
    | ((with_reducible refine gBuild (d := some 8) ?_); refine own_build hO 29 1 _ eu8_8 (u8s [99#8]).toArray (by omega) (by omega) (by kernel_rfl) rfl ?_; clear hO; intro x2 ww hO)
    | ((with_reducible refine gBuild (d := some 9) ?_); refine own_build hO 28 2 _ ebb #[.slice (some ⟨x1, 0, none⟩) 2 2, .slice (some ⟨x2, 0, none⟩) 1 1] (by omega) (by omega) (by simp [go_sem, Instr.fill]) rfl ?_; clear hO; intro x3 ww hO)
    | (go_at_call 7; refine (G1.out x1 x2 x3 _ ⟨hO.rdAt 0 rfl, fun t ht => (by
        simp only [List.mem_cons, List.not_mem_nil, or_false] at ht
        rcases ht with rfl | rfl
        · exact hO.rdAt 2 rfl
        · exact hO.rdAt 1 rfl)⟩ (HT.out.own hO)).mono ?_; rintro e ww ⟨a1, c1, g2, rfl, hK⟩; replace hO := hO.join hK; clear hK)
    | ((with_reducible refine gAlloc (T := 27) ?_); refine own_alloc hO _ _ irz ?_; clear hO; intro bn ww hO)
    | ((with_reducible refine gStore (T := 27) ?_); refine stX hO 0 rfl rfl rfl rfl rfl (tS rfl) ?_; clear hO; intro ww hO)
    | ((with_reducible refine gLoad (d := some 26) ?_); refine ld_sl hO 1 rfl rfl Q3.out (tA rfl) ?_)
    | ((with_reducible refine gLoad (d := some 33) ?_); refine ld_sl hO 1 rfl rfl Q4.out (tA rfl) ?_))
  go_ret
  exact ⟨rfl, hO.below⟩
end Go.Proofs.YtniibdglodnhoaaGreatDoor

/- What comes in, opened: slices of pieces. -/
namespace Go.Opn
open Go.ChangeShapes Go.WideShapes Go.ChangeAt Go.RowKit Go.Own Go.Deep

def IsPcs (w : World) (a : Option Addr) (len cap : Nat) (l : List Go.Sl.Pc) : Prop := Rd w 3 a len cap (Go.Sl.pcs l)
instance : Inhabited Go.Sl.Pc := ⟨⟨0, 0, 0#32⟩⟩
theorem open_pcs {H : Type} {enc : TypeId × Value → H} {P : Program} {w : World} {base : Nat} {held : Bool} {t e : TypeId} {f0 f1 f2 : Field} {a : Option Addr} {len cap : Nat} {d : DataW H} {ps : List MemPlace}
    (ht : P.underlying t = some (.slice e)) (he : P.underlying e = some (.struct #[f0, f1, f2])) (hone : oneCellFields P #[f0, f1, f2] = true) (hC : P.cellsOf e = 3)
    (h0 : P.underlying f0.type = some (.int .i64)) (h1 : P.underlying f1.type = some (.int .i64)) (h2 : P.underlying f2.type = some (.int .u32))
    (hd : DataW.Trod enc P w base (fun _ => true) held t (.slice a len cap) d ps) : ∃ l, IsPcs w a len cap l := by
  obtain ⟨fuel, hf⟩ := hd
  rcases open_slice_fields ht he hone hC hf with ⟨hcs, _⟩ | ⟨x, l, c, m, D, Pl, hcs, _, hl, hm, hmm, _, hi⟩
  · simp [Value.cells] at hcs
    obtain ⟨rfl, rfl, rfl⟩ := hcs
    exact ⟨[], rfl, Nat.le_refl _, by simp [maxLen], fun _ => ⟨rfl, rfl⟩, fun h => absurd rfl h⟩
  · simp [Value.cells] at hcs
    obtain ⟨rfl, rfl, rfl⟩ := hcs
    simp only [if_true] at hmm
    have each : ∀ i, i < len → ∃ t : Go.Sl.Pc, ∀ j v, t.C.toList[j]? = some v → w.cell? (x.add (i * 3 + j)) = some v := fun i hil => by
      obtain ⟨ys, n, _, _, _, hg⟩ := hi i (by omega)
      obtain ⟨v0, y0, c0, _, t0⟩ := hg 0 f0 rfl
      obtain ⟨v1, y1, c1, _, t1⟩ := hg 1 f1 rfl
      obtain ⟨v2, y2, c2, _, t2⟩ := hg 2 f2 rfl
      obtain ⟨z0, e0, _, _⟩ := DataW.trod_int h0 t0
      obtain ⟨z1, e1, _, _⟩ := DataW.trod_int h1 t1
      obtain ⟨z2, e2, _, w2⟩ := DataW.trod_int h2 t2
      simp only [List.cons.injEq, and_true] at e0 e1 e2
      subst e0 e1 e2
      obtain ⟨b, rfl⟩ := Go.Bv.bv32_of_wf w2
      refine ⟨⟨z0, z1, b⟩, fun j v hj => ?_⟩
      match j, hj with
      | 0, hj => simp only [Go.Sl.Pc.C, List.getElem?_cons_zero, Option.some.injEq] at hj; subst hj; exact c0
      | 1, hj => simp only [Go.Sl.Pc.C, List.getElem?_cons_succ, List.getElem?_cons_zero, Option.some.injEq] at hj; subst hj; exact c1
      | 2, hj => simp only [Go.Sl.Pc.C, List.getElem?_cons_succ, List.getElem?_cons_zero, Option.some.injEq] at hj; subst hj; exact c2
      | j + 3, hj => simp [Go.Sl.Pc.C] at hj
    obtain ⟨f, hfi⟩ := choose_lt each
    have hll : ((List.range len).map f).length = len := by simp
    have hcell : ∀ j, j < len * 3 → w.cell? (x.add j) = (Go.Sl.pcs ((List.range len).map f))[j]? := fun j hj => by
      have hi3 : j / 3 < len := by omega
      have hget : ((List.range len).map f)[j / 3]'(by rw [hll]; exact hi3) = f (j / 3) := by simp
      have hr : j % 3 < (f (j / 3)).C.toList.length := by show _ < 3; omega
      have h1 := hfi (j / 3) hi3 (j % 3) _ (List.getElem?_eq_getElem hr)
      have h2 := Go.Sl.pcs_get ((List.range len).map f) (j / 3) (by rw [hll]; exact hi3) (j % 3) _ (by rw [hget]; exact List.getElem?_eq_getElem hr)
      rw [show j / 3 * 3 + j % 3 = j by omega] at h1 h2
      rw [h1, h2]
    refine ⟨(List.range len).map f, by rw [Go.Sl.pcs_length, hll], hl, hm, fun h => by simp at h, fun hne => ?_⟩
    have h0 := hcell 0 (by omega)
    rw [Addr.add_zero', List.getElem?_eq_getElem (by rw [Go.Sl.pcs_length, hll]; omega)] at h0
    have hlt := World.block_lt_of_cell? w x h0
    have hspot : x.spot = none := by
      cases hs : x.spot with
      | none => rfl
      | some s =>
        exfalso
        simp only [World.cell?, hs] at h0
        split at h0 <;> simp at h0
    obtain ⟨b, off, sp⟩ := x
    dsimp only at hspot hlt
    subst hspot
    refine ⟨b, off, rfl, hlt, fun j hj => ?_⟩
    have hcj := hcell j hj
    rw [Addr.add_lit] at hcj
    exact hcj
end Go.Opn
namespace Go.Proofs.YtniibdglodnhoaaGreatDoor
open Go.ChangeShapes Go.WideShapes Go.ChangeAt Go.RowKit Go.Opn Go.Deep
def IsPieces (w : World) (a : Option Addr) (len cap : Nat) : Prop := ∃ l : List Go.Sl.Pc, Go.Own.Rd w 3 a len cap (Go.Sl.pcs l)
set_option maxRecDepth 100000 in
theorem open_pieces {H : Type} {enc : TypeId × Value → H} {w : World} {base b0 : Nat} {r : Reach} {held : Bool} {a : Option Addr} {len cap : Nat} {d : DataW H} {ps : List MemPlace} (_hval : Value.okWide Tryz.prog w r b0 32 (.slice a len cap)) (hd : DataW.Trod enc Tryz.prog w base (fun _ => true) held 32 (.slice a len cap) d ps) : IsPieces w a len cap := by
  obtain ⟨l, h⟩ := open_pcs Tryz.underlying32 Tryz.underlying44 (by kernel_rfl) (by kernel_rfl) Tryz.underlying3 Tryz.underlying3 Tryz.underlying22 hd
  exact ⟨l, h⟩
end Go.Proofs.YtniibdglodnhoaaGreatDoor

/- All that the walks of SolidDoes and SolidCuts stand on. -/
