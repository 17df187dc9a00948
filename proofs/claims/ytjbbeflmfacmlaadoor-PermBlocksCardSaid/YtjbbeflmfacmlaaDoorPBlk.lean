/- The walk of PermBlocks. -/
import Derived.Test.YtjbbeflmfacmlaaDoorPi
import Derived.Test.YtjbbeflmfacmlaaDoorPOctEq
import Derived.Test.YtjbbeflmfacmlaaDoorH
import Derived.Test.YtjbbeflmfacmlaaDoorOF
namespace Go.Proofs.YtjbbeflmfacmlaaDoor
open Go.RowKit Go.Own Go.Bv Go.Ord Go.Eq

theorem blk_egW : Tryd.prog.eqGuardType Tryd.prog.depth 24 = false := by kernel_rfl
theorem bv_wide (x : BitVec 8) : (x.toNat : Int) = ((x.setWidth 32).toNat : Int) := by rw [BitVec.toNat_setWidth]; have := x.isLt; omega
theorem u8s_byteAt {bs : List (BitVec 8)} (j : Nat) (h : j < bs.length) : (u8s bs)[j]? = some (.int .u8 ((byteAt bs j).toNat : Int)) := by
  rw [byteAt_lt h]; exact u8s_get bs j h
theorem rd_drop {w : World} {b off n cap : Nat} {bs : List (BitVec 8)} (h : Rd w 1 (some ⟨b, off, none⟩) n cap (u8s bs)) (i m : Nat) (hi : i + m = n) : Rd w 1 (some ⟨b, off + i, none⟩) m (cap - i) (u8s (bs.drop i)) := by
  have hl := h.len
  rw [u8s_length] at hl
  have := h.cut i m (by omega)
  rwa [List.take_of_length_le (by rw [List.length_drop, u8s_length]; omega), ← u8s_drop] at this

set_option maxHeartbeats 3000000 in
set_option maxRecDepth 100000 in
theorem blocks_in (s : St) (b0 off m cap : Nat) (bs : List (BitVec 8)) (w : World) (hR : Rd w 1 (some ⟨b0, off, none⟩) (m + 8) cap (u8s bs)) (hm : m ≤ 292) (hT : Turns w) :
    Calls Tryd.prog 7 #[.agg s.C, .slice (some ⟨b0, off, none⟩) (m + 8) cap] w fun e w' => e = .returned (.bool true) ∧ Below w.heap.size w w' := by
  have hO := Own.start w
  have hlen : bs.length = m + 8 := by have := hR.len; rw [u8s_length] at this; omega
  have hle := hR.le
  have hmax := hR.max
  unfold maxLen at hmax
  have d1 : decide ((m : Int) + 8 < 8) = false := by simp; omega
  have d2 : decide ((300 : Int) < (m : Int) + 8) = false := by simp; omega
  have HAB := Lib.hid (St.absorb_drop s bs (by omega))
  have hM := St.mixAt_eq s bs 0
  simp only [Nat.zero_add] at hM
  have HC : ∀ j, j < 8 → Hid ((u8s bs)[j]? = some (.int .u8 ((byteAt bs j).toNat : Int))) := fun j hj => u8s_byteAt j (by omega)
  have H0 := HC 0 (by decide)
  have H1 := HC 1 (by decide)
  have H2 := HC 2 (by decide)
  have H3 := HC 3 (by decide)
  have H4 := HC 4 (by decide)
  have H5 := HC 5 (by decide)
  have H6 := HC 6 (by decide)
  have H7 := HC 7 (by decide)
  clear HC
  generalize byteAt bs 0 = x0 at *
  generalize byteAt bs 1 = x1 at *
  generalize byteAt bs 2 = x2 at *
  generalize byteAt bs 3 = x3 at *
  generalize byteAt bs 4 = x4 at *
  generalize byteAt bs 5 = x5 at *
  generalize byteAt bs 6 = x6 at *
  generalize byteAt bs 7 = x7 at *
  obtain ⟨z0, e0, f0⟩ : ∃ z : BitVec 32, (x0.toNat : Int) = (z.toNat : Int) ∧ x0.setWidth 32 = z := ⟨_, bv_wide x0, rfl⟩
  obtain ⟨z1, e1, f1⟩ : ∃ z : BitVec 32, (x1.toNat : Int) = (z.toNat : Int) ∧ x1.setWidth 32 = z := ⟨_, bv_wide x1, rfl⟩
  obtain ⟨z2, e2, f2⟩ : ∃ z : BitVec 32, (x2.toNat : Int) = (z.toNat : Int) ∧ x2.setWidth 32 = z := ⟨_, bv_wide x2, rfl⟩
  obtain ⟨z3, e3, f3⟩ : ∃ z : BitVec 32, (x3.toNat : Int) = (z.toNat : Int) ∧ x3.setWidth 32 = z := ⟨_, bv_wide x3, rfl⟩
  obtain ⟨z4, e4, f4⟩ : ∃ z : BitVec 32, (x4.toNat : Int) = (z.toNat : Int) ∧ x4.setWidth 32 = z := ⟨_, bv_wide x4, rfl⟩
  obtain ⟨z5, e5, f5⟩ : ∃ z : BitVec 32, (x5.toNat : Int) = (z.toNat : Int) ∧ x5.setWidth 32 = z := ⟨_, bv_wide x5, rfl⟩
  obtain ⟨z6, e6, f6⟩ : ∃ z : BitVec 32, (x6.toNat : Int) = (z.toNat : Int) ∧ x6.setWidth 32 = z := ⟨_, bv_wide x6, rfl⟩
  obtain ⟨z7, e7, f7⟩ : ∃ z : BitVec 32, (x7.toNat : Int) = (z.toNat : Int) ∧ x7.setWidth 32 = z := ⟨_, bv_wide x7, rfl⟩
  unfold of4 at hM
  rw [f0, f1, f2, f3, f4, f5, f6, f7] at hM
  rw [e0] at H0
  rw [e1] at H1
  rw [e2] at H2
  rw [e3] at H3
  rw [e4] at H4
  rw [e5] at H5
  rw [e6] at H6
  rw [e7] at H7
  have l0 : (z0.toNat : Int) < 256 := by rw [← e0]; exact lt8 x0
  have l1 : (z1.toNat : Int) < 256 := by rw [← e1]; exact lt8 x1
  have l2 : (z2.toNat : Int) < 256 := by rw [← e2]; exact lt8 x2
  have l3 : (z3.toNat : Int) < 256 := by rw [← e3]; exact lt8 x3
  have l4 : (z4.toNat : Int) < 256 := by rw [← e4]; exact lt8 x4
  have l5 : (z5.toNat : Int) < 256 := by rw [← e5]; exact lt8 x5
  have l6 : (z6.toNat : Int) < 256 := by rw [← e6]; exact lt8 x6
  have l7 : (z7.toNat : Int) < 256 := by rw [← e7]; exact lt8 x7
  clear e0 f0 e1 f1 e2 f2 e3 f3 e4 f4 e5 f5 e6 f6 e7 f7
  have hM1 := hM
  have HAL : Hid ((s.absorb bs) = (s.mixAt bs 0).perm.absorb (bs.drop 8)) := HAB.out
  rw [hM1] at HAL
  have HD : Hid (∃ a', (if cap = 8 then Value.slice (some ⟨b0, off, none⟩) m (cap - 8) else .slice (some ⟨b0, off + 8, none⟩) m (cap - 8)) = .slice a' m (cap - 8) ∧ Rd w 1 a' m (cap - 8) (u8s (bs.drop 8))) := by
    by_cases hc : cap = 8
    · rw [if_pos hc]
      have : m = 0 := by omega
      subst this
      have hb : bs.drop 8 = [] := List.drop_of_length_le (by omega)
      rw [hb]
      exact ⟨_, rfl, rd_zero _ _ (by unfold maxLen; omega) (fun h => by simp at h)⟩
    · rw [if_neg hc]
      exact ⟨_, rfl, rd_drop hR 8 m (by omega)⟩
  obtain ⟨S, hS⟩ : ∃ u, s.absorb bs = u := ⟨_, rfl⟩
  rw [hS] at HAL
  have HS := Lib.hid hS
  have HR := Lib.hid hR
  have HT := Lib.hid hT
  clear hR hT hM hM1 HAB hlen hmax hS
  generalize hW : w = wn at hO HR HT HD ⊢
  clear hW w
  go_enter Tryd.func7, Tryd.ntmps7
  go_wp2_with (first
    | ((with_reducible refine gBox ?_); first | (refine bxA hO rfl ?_; clear hO; intro b ww hO) | (refine bx1 hO rfl rfl ?_; clear hO; intro b ww hO))
    | (go_at_call 8; refine (live_calls _).mono ?_; rintro e ww ⟨rfl, hb⟩; replace hO := hO.call hb; clear hb)
    | ((with_reducible refine gLoad ?_); first | refine ldX hO 0 rfl rfl (tA rfl) (tS rfl) ?_ | refine ldC hO 0 rfl rfl (tA rfl) rfl ?_ | refine ldX hO 1 rfl rfl (tA rfl) (tS rfl) ?_ | refine ldC hO 1 rfl rfl (tA rfl) rfl ?_)
    | ((with_reducible refine gStore ?_); first | (refine stX hO 0 rfl rfl rfl rfl rfl (tS rfl) ?_; clear hO; intro ww hO) | (refine stC hO 0 rfl rfl rfl (ltb rfl) rfl (tS rfl) ?_; clear hO; intro ww hO))
    | ((with_reducible refine gAlloc ?_); refine own_alloc hO _ _ iwz ?_; clear hO; intro bb ww hO)
    | (go_at_call 18; refine (absorb1_calls s _ _ _ bs _ (hO.rd HR.out) (HT.out.own hO) (by omega)).mono ?_; rw [HS.out]; rintro e ww ⟨rfl, hb⟩; replace hO := hO.call hb; clear hb))
  refine wp_region_text (by kernel_rfl) (by kernel_rfl) ?_
  replace hO := hO.drew
  generalize World.drew _ = wd at hO ⊢
  have c0 : wd.cell? ⟨b0, off, none⟩ = some (.int .u8 (z0.toNat : Int)) := (hO.rd HR.out).cells rfl 0 _ H0.out
  have c1 : wd.cell? ⟨b0, off + 1, none⟩ = some (.int .u8 (z1.toNat : Int)) := (hO.rd HR.out).cells rfl 1 _ H1.out
  have c2 : wd.cell? ⟨b0, off + 2, none⟩ = some (.int .u8 (z2.toNat : Int)) := (hO.rd HR.out).cells rfl 2 _ H2.out
  have c3 : wd.cell? ⟨b0, off + 3, none⟩ = some (.int .u8 (z3.toNat : Int)) := (hO.rd HR.out).cells rfl 3 _ H3.out
  go_wp2_with (first | ((with_reducible refine gLoad ?_); first | refine ldX hO 0 rfl rfl (tA rfl) (tS rfl) ?_ | refine ldC hO 0 rfl rfl (tA rfl) rfl ?_) | ((with_reducible refine gStore ?_); first | (refine stX hO 0 rfl rfl rfl rfl rfl (tS rfl) ?_; clear hO; intro ww hO) | (refine stC hO 0 rfl rfl rfl (ltb rfl) rfl (tS rfl) ?_; clear hO; intro ww hO)) | ((with_reducible refine Go.Bva.gBin (op := .shl) ?_); refine Go.Bva.shl_u32 rfl rfl (by decide) ?_) | ((with_reducible refine Go.Bva.gBin (op := .or) ?_); refine Go.Bva.or_u32 rfl rfl ?_) | ((with_reducible refine Go.Bva.gBin (op := .xor) ?_); refine Go.Bva.xor_u32 rfl rfl ?_) | ((with_reducible refine gI ?_); refine wpI_step rfl rfl (by kernel_rfl) ?_; intro K hK; have HK := Lib.hid hK; clear hK) | ((with_reducible refine gI ?_); first | refine wpI_skip rfl ?_ | refine wpI_want rfl ?_) | ((with_reducible refine gOnlyK0 HK.out ?_); clear HK K; first | (refine wpI_act (by simp only [Act.put, List.setIfInBounds_toArray, List.set_cons_succ, List.set_cons_zero]; rfl) ?_) | skip) | (with_reducible refine wpI_nil ?_))
  clear c0 c1 c2 c3
  replace hO : Own wn _ [.blk _ (.cells (St.mk (s.a ^^^ (((z0 ||| z1 <<< 8) ||| z2 <<< 16) ||| z3 <<< 24)) s.b s.c s.d).C 24 (0,0)), .blk _ (.cells S.C 24 (0,0)), .blk _ (.cells s.C 24 (0,0))] := hO
  generalize s.a ^^^ (((z0 ||| z1 <<< 8) ||| z2 <<< 16) ||| z3 <<< 24) = A at HAL hO
  refine wp_region_text (by kernel_rfl) (by kernel_rfl) ?_
  replace hO := hO.drew
  generalize World.drew _ = wd at hO ⊢
  have c0 : wd.cell? ⟨b0, off + 4, none⟩ = some (.int .u8 (z4.toNat : Int)) := (hO.rd HR.out).cells rfl 4 _ H4.out
  have c1 : wd.cell? ⟨b0, off + 5, none⟩ = some (.int .u8 (z5.toNat : Int)) := (hO.rd HR.out).cells rfl 5 _ H5.out
  have c2 : wd.cell? ⟨b0, off + 6, none⟩ = some (.int .u8 (z6.toNat : Int)) := (hO.rd HR.out).cells rfl 6 _ H6.out
  have c3 : wd.cell? ⟨b0, off + 7, none⟩ = some (.int .u8 (z7.toNat : Int)) := (hO.rd HR.out).cells rfl 7 _ H7.out
  go_wp2_with (first | ((with_reducible refine gLoad ?_); first | refine ldX hO 0 rfl rfl (tA rfl) (tS rfl) ?_ | refine ldC hO 0 rfl rfl (tA rfl) rfl ?_) | ((with_reducible refine gStore ?_); first | (refine stX hO 0 rfl rfl rfl rfl rfl (tS rfl) ?_; clear hO; intro ww hO) | (refine stC hO 0 rfl rfl rfl (ltb rfl) rfl (tS rfl) ?_; clear hO; intro ww hO)) | ((with_reducible refine Go.Bva.gBin (op := .shl) ?_); refine Go.Bva.shl_u32 rfl rfl (by decide) ?_) | ((with_reducible refine Go.Bva.gBin (op := .or) ?_); refine Go.Bva.or_u32 rfl rfl ?_) | ((with_reducible refine Go.Bva.gBin (op := .xor) ?_); refine Go.Bva.xor_u32 rfl rfl ?_) | ((with_reducible refine gI ?_); refine wpI_step rfl rfl (by kernel_rfl) ?_; intro K hK; have HK := Lib.hid hK; clear hK) | ((with_reducible refine gI ?_); first | refine wpI_skip rfl ?_ | refine wpI_want rfl ?_) | ((with_reducible refine gOnlyK0 HK.out ?_); clear HK K; first | (refine wpI_act (by simp only [Act.put, List.setIfInBounds_toArray, List.set_cons_succ, List.set_cons_zero]; rfl) ?_) | skip) | (with_reducible refine wpI_nil ?_))
  clear c0 c1 c2 c3
  replace hO : Own wn _ [.blk _ (.cells (St.mk A (s.b ^^^ (((z4 ||| z5 <<< 8) ||| z6 <<< 16) ||| z7 <<< 24)) s.c s.d).C 24 (0,0)), .blk _ (.cells S.C 24 (0,0)), .blk _ (.cells s.C 24 (0,0))] := hO
  generalize s.b ^^^ (((z4 ||| z5 <<< 8) ||| z6 <<< 16) ||| z7 <<< 24) = B at HAL hO
  generalize St.mk A B s.c s.d = t at HAL hO
  obtain ⟨p, hp⟩ : ∃ u, t.perm = u := ⟨_, rfl⟩
  have HP := Lib.hid hp
  rw [hp] at HAL
  clear hp
  replace hO : Own wn _ [.blk _ (.cells t.C 24 (0,0)), .blk _ (.cells S.C 24 (0,0)), .blk _ (.cells s.C 24 (0,0))] := hO
  refine wp_region_float (fun w' => Own wn w' [.blk _ (.cells t.C 24 (0,0)), .blk _ (.cells S.C 24 (0,0)), .blk _ (.cells s.C 24 (0,0))]) (fun op => match op with | .load _ _ => true | _ => false) [.n, .b, .n, .n, .b, .m, .n, .n, .z, .n, .n] (by kernel_rfl) (by kernel_rfl) hO.drew ?_
  dsimp only [zipF, zOf]
  replace hO := hO.drew
  generalize World.drew _ = wd at hO ⊢
  obtain ⟨a', ha, hRD⟩ := HD.out
  clear HD
  by_cases hcap : cap = 8
  · rw [if_pos hcap] at ha
    simp only [Value.slice.injEq, and_true] at ha
    subst ha hcap
    obtain rfl : m = 0 := by omega
    have HRD := Lib.hid hRD
    clear hRD
    go_wp2_with (first
      | (((with_reducible refine gIL ?_); first | refine wpI_ldS (fun w' hS => hS.blk 0 rfl) rfl rfl (tA rfl) (tS rfl) ?_ | refine wpI_ldS (fun w' hS => hS.blk 1 rfl) rfl rfl (tA rfl) (tS rfl) ?_ | refine wpI_ldS (fun w' hS => hS.blk 2 rfl) rfl rfl (tA rfl) (tS rfl) ?_); first | (refine wpI_act (by simp only [Act.put, List.setIfInBounds_toArray, List.set_cons_succ, List.set_cons_zero]; rfl) ?_) | skip)
      | ((with_reducible refine gStore ?_); first | (refine stX hO 0 rfl rfl rfl rfl rfl (tS rfl) ?_; clear hO; intro ww hO) | (refine stC hO 0 rfl rfl rfl (ltb rfl) rfl (tS rfl) ?_; clear hO; intro ww hO))
      | ((with_reducible refine gAlloc ?_); refine own_alloc hO _ _ iwz ?_; clear hO; intro bb ww hO)
      | (go_at_call 11; refine (perm_calls t _ (HT.out.own hO)).mono ?_; rw [HP.out]; rintro e ww ⟨rfl, hb⟩; replace hO := hO.call hb; clear hb)
      | (go_at_call 18; refine (absorb1_calls p _ _ _ (bs.drop 8) _ (hO.rd HRD.out) (HT.out.own hO) (by omega)).mono ?_; rw [← HAL.out]; rintro e ww ⟨rfl, hb⟩; replace hO := hO.call hb; clear hb)
      | ((with_reducible refine wpF_n ?_ ?_); exact hO.sub (by repeat first | exact List.Sublist.refl _ | apply List.Sublist.cons)) | ((with_reducible refine wpF_b ?_ ?_ ?_); exact hO.sub (by repeat first | exact List.Sublist.refl _ | apply List.Sublist.cons); dsimp only [List.map]) | ((with_reducible refine wpF_m ?_); dsimp only [List.map]) | ((with_reducible refine wpI_nilS ?_ ?_); exact hO.sub (by repeat first | exact List.Sublist.refl _ | apply List.Sublist.cons))
      | ((with_reducible refine gI ?_); refine wpI_step rfl rfl (by kernel_rfl) ?_; intro K hK; have HK := Lib.hid hK; clear hK) | ((with_reducible refine gI ?_); first | refine wpI_skip rfl ?_ | refine wpI_want rfl ?_) | ((with_reducible refine gOnlyK HK.out ?_ ?_); exact hO.sub (by repeat first | exact List.Sublist.refl _ | apply List.Sublist.cons); clear HK K; first | (refine wpI_act (by simp only [Act.put, List.setIfInBounds_toArray, List.set_cons_succ, List.set_cons_zero]; rfl) ?_) | skip) | (with_reducible refine wpI_nil ?_)
      | ((with_reducible refine gG ?_); refine wpList_want rfl ?_)
      | ((with_reducible refine gLoad ?_); first | refine ldX hO 0 rfl rfl (tA rfl) (tS rfl) ?_ | refine ldC hO 0 rfl rfl (tA rfl) rfl ?_ | refine ldX hO 1 rfl rfl (tA rfl) (tS rfl) ?_ | refine ldC hO 1 rfl rfl (tA rfl) rfl ?_ | refine ldX hO 2 rfl rfl (tA rfl) (tS rfl) ?_ | refine ldC hO 2 rfl rfl (tA rfl) rfl ?_)
      | ((with_reducible refine gEql (t := 24) ?_); refine eqD blk_egW rfl rfl ?_; (with_reducible refine ⟨_, eqWT _, ?_⟩)))
    all_goals
      go_ret
      exact ⟨rfl, hO.below⟩
  · rw [if_neg hcap] at ha
    simp only [Value.slice.injEq, and_true] at ha
    subst ha
    have HRD := Lib.hid hRD
    clear hRD
    go_wp2_with (first
      | (((with_reducible refine gIL ?_); first | refine wpI_ldS (fun w' hS => hS.blk 0 rfl) rfl rfl (tA rfl) (tS rfl) ?_ | refine wpI_ldS (fun w' hS => hS.blk 1 rfl) rfl rfl (tA rfl) (tS rfl) ?_ | refine wpI_ldS (fun w' hS => hS.blk 2 rfl) rfl rfl (tA rfl) (tS rfl) ?_); first | (refine wpI_act (by simp only [Act.put, List.setIfInBounds_toArray, List.set_cons_succ, List.set_cons_zero]; rfl) ?_) | skip)
      | ((with_reducible refine gStore ?_); first | (refine stX hO 0 rfl rfl rfl rfl rfl (tS rfl) ?_; clear hO; intro ww hO) | (refine stC hO 0 rfl rfl rfl (ltb rfl) rfl (tS rfl) ?_; clear hO; intro ww hO))
      | ((with_reducible refine gAlloc ?_); refine own_alloc hO _ _ iwz ?_; clear hO; intro bb ww hO)
      | (go_at_call 11; refine (perm_calls t _ (HT.out.own hO)).mono ?_; rw [HP.out]; rintro e ww ⟨rfl, hb⟩; replace hO := hO.call hb; clear hb)
      | (go_at_call 18; refine (absorb1_calls p _ _ _ (bs.drop 8) _ (hO.rd HRD.out) (HT.out.own hO) (by omega)).mono ?_; rw [← HAL.out]; rintro e ww ⟨rfl, hb⟩; replace hO := hO.call hb; clear hb)
      | ((with_reducible refine wpF_n ?_ ?_); exact hO.sub (by repeat first | exact List.Sublist.refl _ | apply List.Sublist.cons)) | ((with_reducible refine wpF_b ?_ ?_ ?_); exact hO.sub (by repeat first | exact List.Sublist.refl _ | apply List.Sublist.cons); dsimp only [List.map]) | ((with_reducible refine wpF_m ?_); dsimp only [List.map]) | ((with_reducible refine wpI_nilS ?_ ?_); exact hO.sub (by repeat first | exact List.Sublist.refl _ | apply List.Sublist.cons))
      | ((with_reducible refine gI ?_); refine wpI_step rfl rfl (by kernel_rfl) ?_; intro K hK; have HK := Lib.hid hK; clear hK) | ((with_reducible refine gI ?_); first | refine wpI_skip rfl ?_ | refine wpI_want rfl ?_) | ((with_reducible refine gOnlyK HK.out ?_ ?_); exact hO.sub (by repeat first | exact List.Sublist.refl _ | apply List.Sublist.cons); clear HK K; first | (refine wpI_act (by simp only [Act.put, List.setIfInBounds_toArray, List.set_cons_succ, List.set_cons_zero]; rfl) ?_) | skip) | (with_reducible refine wpI_nil ?_)
      | ((with_reducible refine gG ?_); refine wpList_want rfl ?_)
      | ((with_reducible refine gLoad ?_); first | refine ldX hO 0 rfl rfl (tA rfl) (tS rfl) ?_ | refine ldC hO 0 rfl rfl (tA rfl) rfl ?_ | refine ldX hO 1 rfl rfl (tA rfl) (tS rfl) ?_ | refine ldC hO 1 rfl rfl (tA rfl) rfl ?_ | refine ldX hO 2 rfl rfl (tA rfl) (tS rfl) ?_ | refine ldC hO 2 rfl rfl (tA rfl) rfl ?_)
      | ((with_reducible refine gEql (t := 24) ?_); refine eqD blk_egW rfl rfl ?_; (with_reducible refine ⟨_, eqWT _, ?_⟩)))
    all_goals
      go_ret
      exact ⟨rfl, hO.below⟩

set_option maxHeartbeats 1000000 in
set_option maxRecDepth 100000 in
theorem blocks_walk (s : St) (a : Option Addr) (n cap : Nat) (bs : List (BitVec 8)) (w : World) (hR : Rd w 1 a n cap (u8s bs)) (hT : Turns w) :
    Calls Tryd.prog 7 #[.agg s.C, .slice a n cap] w fun e w' => e = .returned (.bool true) ∧ Below w.heap.size w w' := by
  by_cases h8 : n < 8
  · have hO := Own.start w
    clear hR hT
    generalize hW : w = wn at hO ⊢
    clear hW w
    have d1 : decide ((n : Int) < 8) = true := by simp; omega
    go_enter Tryd.func7, Tryd.ntmps7
    go_wp2_with (first
      | ((with_reducible refine gBox ?_); refine own_box hO 24 _ _ rfl ?_; clear hO; intro b w1 hO; replace hO : Own wn w1 [.blk b (.cells s.C 24 (0,0))] := hO)
      | (go_at_call 8; refine (live_calls _).mono ?_; rintro e ww ⟨rfl, hb⟩; replace hO := hO.call hb; clear hb))
    go_ret
    exact ⟨rfl, hO.below⟩
  · by_cases h3 : 300 < n
    · have hO := Own.start w
      clear hR hT
      generalize hW : w = wn at hO ⊢
      clear hW w
      have d1 : decide ((n : Int) < 8) = false := by simp; omega
      have d2 : decide ((300 : Int) < (n : Int)) = true := by simp; omega
      go_enter Tryd.func7, Tryd.ntmps7
      go_wp2_with (first
        | ((with_reducible refine gBox ?_); refine own_box hO 24 _ _ rfl ?_; clear hO; intro b w1 hO; replace hO : Own wn w1 [.blk b (.cells s.C 24 (0,0))] := hO)
        | (go_at_call 8; refine (live_calls _).mono ?_; rintro e ww ⟨rfl, hb⟩; replace hO := hO.call hb; clear hb))
      go_ret
      exact ⟨rfl, hO.below⟩
    · obtain ⟨m, rfl⟩ : ∃ m, n = m + 8 := ⟨n - 8, by omega⟩
      obtain ⟨b0, off, rfl⟩ := hR.place (by omega)
      exact blocks_in s b0 off m cap bs w hR (by omega) hT
end Go.Proofs.YtjbbeflmfacmlaaDoor
