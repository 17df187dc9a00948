/- Walk of the document's Stream. -/
import Derived.Test.YtekiloagckkneaaDoorVy
import Derived.Test.YtekiloagckkneaaDoorOG
namespace Go.Proofs.YtekiloagckkneaaDoor
open Go.RowKit Go.Own Go.Bv Go.Ord Go.Eq

set_option maxHeartbeats 4000000 in
set_option maxRecDepth 100000 in
theorem rstream_ok (key : St) (n : BitVec 64) (m : Nat) (hm : m ≤ 65536) (w : World) :
    Calls Tryd.prog 22 #[.agg key.C, .int .u64 (n.toNat : Int), .int .i64 (m : Int)] w fun e w' => ∃ a c, e = .returned (.tuple #[.slice a m c, .int .i64 0]) ∧ Below w.heap.size w w' ∧ Rd w' 1 a m c (u8s (key.stream n m)) := by
  have hO := Own.start w
  obtain ⟨E8, hE8⟩ : ∃ L, eight n = L := ⟨_, rfl⟩
  obtain ⟨L9, hL9⟩ : ∃ L, E8 ++ [1#8] = L := ⟨_, rfl⟩
  obtain ⟨u, hu⟩ : ∃ u, key.absorb L9 = u := ⟨_, rfl⟩
  obtain ⟨X, hX⟩ : ∃ X, u.squeeze m = X := ⟨_, rfl⟩
  have hS : key.stream n m = X := by rw [← hX, ← hu, ← hL9, ← hE8]; rfl
  have g1 := fun w => reight_calls n w
  have g2 := fun w a c hR => rabsorb_ok key a 9 c L9 w hR (by omega)
  have g3 := fun w => rsqueeze_ok u m (by omega) w
  rw [hE8] at g1
  rw [hu] at g2
  rw [hX] at g3
  rw [hS]
  have HL9 : Hid (u8s L9 = u8s E8 ++ u8s [1#8]) := by show _ = _; rw [← hL9, u8s_append']
  have G1 := Lib.hid g1
  have G2 := Lib.hid g2
  have G3 := Lib.hid g3
  have d0 : decide ((m : Int) < 0) = false := by simp
  have d1 : decide ((65536 : Int) < (m : Int)) = false := by simp; omega
  clear g1 g2 g3 hL9 hu hX hS hE8
  generalize hW : w = wn at hO ⊢
  clear hW w
  go_enter Tryd.func22, Tryd.ntmps22
  go_wp2_with (first | ((with_reducible refine gBox ?_); first | (refine bxA hO rfl ?_; clear hO; intro b ww hO) | (refine bx1 hO rfl rfl ?_; clear hO; intro b ww hO)))
  replace hO : Own wn _ [.blk b (.cells key.C 24 (0,0))] := hO
  refine wp_region_plan (fun w' => Own wn w' [.blk b (.cells key.C 24 (0,0))]) (fun op => match op with | .load _ _ => true | _ => false) (.one 0 (.one 1 (.br 2 (.br 3 (.br 4 (.br 5 (.one 6 (.one 7 (.one 8 (.one 9 (.one 10 (.one 11 (.done))))))) (.one 9 (.one 5 (.one 6 (.one 7 (.one 8 (.one 10 (.one 11 (.done))))))))) (.one 9 (.one 4 (.one 5 (.one 6 (.one 7 (.one 8 (.one 10 (.one 11 (.done)))))))))) (.one 9 (.one 3 (.one 4 (.one 5 (.one 6 (.one 7 (.one 8 (.one 10 (.one 11 (.done))))))))))) (.br 3 (.br 2 (.br 4 (.br 5 (.one 6 (.one 7 (.one 8 (.one 9 (.one 10 (.one 11 (.done))))))) (.one 9 (.one 5 (.one 6 (.one 7 (.one 8 (.one 10 (.one 11 (.done))))))))) (.one 9 (.one 4 (.one 5 (.one 6 (.one 7 (.one 8 (.one 10 (.one 11 (.done)))))))))) (.one 9 (.one 2 (.one 4 (.one 5 (.one 6 (.one 7 (.one 8 (.one 10 (.one 11 (.done))))))))))) (.one 9 (.br 2 (.one 3 (.one 4 (.one 5 (.one 6 (.one 7 (.one 8 (.one 10 (.one 11 (.done))))))))) (.one 3 (.one 2 (.one 4 (.one 5 (.one 6 (.one 7 (.one 8 (.one 10 (.one 11 (.done)))))))))))))))) (by kernel_rfl) (by kernel_rfl) hO.drew ?_
  dsimp only [Plan.withOps, planAt]
  replace hO := hO.drew
  generalize World.drew _ = wd at hO ⊢
  go_wp2_with (first
    | (((with_reducible refine gIL ?_); first | refine wpI_ldS (fun w' hS => hS.blk 0 rfl) rfl rfl (tA rfl) (tS rfl) ?_); first | (refine wpI_act (by simp only [Act.put, List.setIfInBounds_toArray, List.set_cons_succ, List.set_cons_zero]; rfl) ?_) | skip)
    | ((with_reducible refine gLoad ?_); first | refine ldX hO 0 rfl rfl (tA rfl) (tS rfl) ?_ | refine ldC hO 0 rfl rfl (tA rfl) rfl ?_ | refine ldX hO 1 rfl rfl (tA rfl) (tS rfl) ?_ | refine ldC hO 1 rfl rfl (tA rfl) rfl ?_ | refine ldX hO 2 rfl rfl (tA rfl) (tS rfl) ?_ | refine ldC hO 2 rfl rfl (tA rfl) rfl ?_ | refine ldX hO 3 rfl rfl (tA rfl) (tS rfl) ?_ | refine ldC hO 3 rfl rfl (tA rfl) rfl ?_ | refine ldX hO 4 rfl rfl (tA rfl) (tS rfl) ?_ | refine ldC hO 4 rfl rfl (tA rfl) rfl ?_)
    | ((with_reducible refine gStore ?_); first | (refine stX hO 0 rfl rfl rfl rfl rfl (tS rfl) ?_; clear hO; intro ww hO) | (refine stC hO 0 rfl rfl rfl (ltb rfl) rfl (tS rfl) ?_; clear hO; intro ww hO) | (refine stX hO 1 rfl rfl rfl rfl rfl (tS rfl) ?_; clear hO; intro ww hO) | (refine stC hO 1 rfl rfl rfl (ltb rfl) rfl (tS rfl) ?_; clear hO; intro ww hO) | (refine stX hO 2 rfl rfl rfl rfl rfl (tS rfl) ?_; clear hO; intro ww hO) | (refine stC hO 2 rfl rfl rfl (ltb rfl) rfl (tS rfl) ?_; clear hO; intro ww hO) | (refine stX hO 3 rfl rfl rfl rfl rfl (tS rfl) ?_; clear hO; intro ww hO) | (refine stC hO 3 rfl rfl rfl (ltb rfl) rfl (tS rfl) ?_; clear hO; intro ww hO))
    | ((with_reducible refine gAlloc ?_); refine own_alloc hO _ _ iwz ?_; clear hO; intro bb ww hO)
    | ((with_reducible refine gBuild ?_); refine own_build hO 28 1 _ eu8 (u8s [1#8]).toArray (by omega) (by omega) (by simp [go_sem, Instr.fill, u8s]) rfl ?_; clear hO; intro g ww hO)
    | (go_at_call 33; refine (G1.out _).mono ?_; rintro e ww ⟨a2, c2, rfl, hb, hr⟩; replace hO := hO.addRow hb hr; clear hb hr)
    | ((with_reducible refine gAppend ?_); first
        | (refine own_append hO 1 _ _ 28 eu8 rfl rfl rfl (hO.rdAt 0 rfl) (u8s_one _) 9 rfl (by simp [maxLen]) (by omega) ?_; clear hO; intro a3 c3 ww hO)
        | (refine own_append hO 0 _ _ 28 eu8 rfl rfl rfl (hO.rdAt 1 rfl) (u8s_one _) 9 rfl (by simp [maxLen]) (by omega) ?_; clear hO; intro a3 c3 ww hO)
        | (refine own_append hO 2 _ _ 28 eu8 rfl rfl rfl (hO.rdAt 0 rfl) (u8s_one _) 9 rfl (by simp [maxLen]) (by omega) ?_; clear hO; intro a3 c3 ww hO)
        | (refine own_append hO 0 _ _ 28 eu8 rfl rfl rfl (hO.rdAt 2 rfl) (u8s_one _) 9 rfl (by simp [maxLen]) (by omega) ?_; clear hO; intro a3 c3 ww hO)
        | (refine own_append hO 1 _ _ 28 eu8 rfl rfl rfl (hO.rdAt 2 rfl) (u8s_one _) 9 rfl (by simp [maxLen]) (by omega) ?_; clear hO; intro a3 c3 ww hO)
        | (refine own_append hO 2 _ _ 28 eu8 rfl rfl rfl (hO.rdAt 1 rfl) (u8s_one _) 9 rfl (by simp [maxLen]) (by omega) ?_; clear hO; intro a3 c3 ww hO))
    | (go_at_call 38; (first | refine (G2.out _ _ _ (by rw [HL9.out]; exact hO.rdAt 1 rfl)).mono ?_ | refine (G2.out _ _ _ (by rw [HL9.out]; exact hO.rdAt 0 rfl)).mono ?_ | refine (G2.out _ _ _ (by rw [HL9.out]; exact hO.rdAt 2 rfl)).mono ?_); rintro e ww ⟨rfl, hb⟩; replace hO := hO.call hb; clear hb)
    | (go_at_call 39; refine (G3.out _).mono ?_; rintro e ww ⟨a5, c5, rfl, hb, hX⟩; replace hO := hO.call hb; clear hb)
    | ((with_reducible refine wpO_one ?_ ?_); exact hO.sub (by repeat first | exact List.Sublist.refl _ | apply List.Sublist.cons)) | ((with_reducible refine wpO_br ?_ ?_ ?_); exact hO.sub (by repeat first | exact List.Sublist.refl _ | apply List.Sublist.cons)) | ((with_reducible refine wpI_nilS ?_ ?_); exact hO.sub (by repeat first | exact List.Sublist.refl _ | apply List.Sublist.cons)) | (with_reducible refine wpO_done ?_)
    | ((with_reducible refine gI ?_); refine wpI_step rfl rfl (by kernel_rfl) ?_; intro K hK; have HK := Lib.hid hK; clear hK) | ((with_reducible refine gI ?_); first | refine wpI_skip rfl ?_ | refine wpI_want rfl ?_) | ((with_reducible refine gOnlyK HK.out ?_ ?_); exact hO.sub (by repeat first | exact List.Sublist.refl _ | apply List.Sublist.cons); clear HK K; first | (refine wpI_act (by simp only [Act.put, List.setIfInBounds_toArray, List.set_cons_succ, List.set_cons_zero]; rfl) ?_) | skip) | (with_reducible refine wpI_nil ?_))
  all_goals
    go_ret2
    exact ⟨_, _, rfl, hO.below, hX⟩
end Go.Proofs.YtekiloagckkneaaDoor
