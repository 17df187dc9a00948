/- Of several texts of this claim, one behind the other: Kd Zy Za Mn. -/
import Derived.Test.YtniibdglodnhoaaGreatDoorU7

/- Walk: the document's Next. -/
namespace Go.Proofs.YtniibdglodnhoaaGreatDoor
open Go.RowKit Go.Own Go.Bv Go.Ord Go.Eq Go.Opn Go.Pb

set_option maxHeartbeats 8000000 in
set_option maxRecDepth 100000 in
theorem rnext_ok (n : Nat) (hn : n ≤ 1024) (r : Go.Kc.Rr) (b : List (BitVec 8)) (hr : Go.Kc.Rok n b r) (aP : Option Addr) (cP : Nat) (aB : Option Addr) (m cB : Nat) (w : World) (hP : Rd w 1 aP n cP (i64s r.p)) (hBR : Rd w 1 aB m cB (u8s b)) (hm : m ≤ 10000000) (a : Nat) (ha : a < n) (hmay : r.may b a) (t : Go.Kc.Rr) (ht : r.next b a = t) :
    Calls Tryz.prog 77 #[.agg (rgC (.slice aP n cP) r.span r.code r.used), .slice aB m cB, .int .i64 (a : Int)] w fun e w' => ∃ a' c', e = .returned (.tuple #[.bool (r.set a), .agg (rgC (.slice a' n c') t.span t.code t.used), .int .i64 0]) ∧ Below w.heap.size w w' ∧ w'.ownsRow w.heap.size 3 1 (.slice a' n c') n (i64s t.p) := by
  have hb : b.length = m := by have := hBR.len; rw [u8s_length] at this; omega
  obtain ⟨q1, q2⟩ := Go.Kc.rok_part hr ha
  obtain ⟨q3, q4, q5, q6, q7⟩ := Go.Kc.rok_mid hr ha
  obtain ⟨k1, k2, k3, k4, k5, k6⟩ := hr
  have hmv := Go.Kc.all_get k2 (by rw [k1]; exact ha)
  rw [kc_may] at hmv
  obtain ⟨pv, hpv⟩ : ∃ pv, r.p.getD a 0 = pv := ⟨_, rfl⟩
  obtain ⟨P, hPP⟩ : ∃ P, r.part a = P := ⟨_, rfl⟩
  rw [hpv] at hmv
  rw [hPP] at q1 q2
  have hg : (i64s r.p)[a]? = some (.int .i64 pv) := by
    rw [i64s_get r.p a (by omega), ← hpv, List.getD_eq_getElem?_getD, List.getElem?_eq_getElem (by omega)]; rfl
  have hset : (i64s r.p).set a (.int .i64 (learnI pv (r.set a))) = i64s (r.mid a).p := by
    unfold Go.Kc.Rr.mid i64s
    dsimp only
    rw [List.map_set, hpv]; rfl
  have hsp : ∀ w, Calls Tryz.prog 97 #[.int .u32 (r.span : Int), .int .i64 pv] w fun e w' => e = .returned (.tuple #[.int .u32 (P : Int), .int .i64 0]) ∧ w = w' := fun w => by
    have h := rsplit_calls (r.span : Int) pv w (by omega) (by omega)
    have e : splitOk (r.span : Int) pv = true := by unfold splitOk; rw [hmv, decide_eq_true (by omega)]; rfl
    have e2 : splitI (r.span : Int) pv = (P : Int) := by
      have hp0 := ((mayB_iff pv).1 hmv).1
      rw [← hPP]
      unfold splitI Go.Kc.Rr.part
      rw [hpv, Int.natCast_mul, Int.natCast_ediv, Int.toNat_of_nonneg (by omega)]; rfl
    rw [e, if_pos rfl, if_pos rfl, e2] at h
    exact h
  have hln : ∀ bt w, Calls Tryz.prog 99 #[.int .i64 pv, .bool bt] w fun e w' => e = .returned (.tuple #[.int .i64 (learnI pv bt), .int .i64 0]) ∧ w = w' := fun bt w => by
    have h := rLearn_calls pv bt w
    rw [hmv, if_pos rfl, if_pos rfl] at h
    exact h
  have hbit : r.set a = decide (P ≤ r.code) := by rw [← hPP]; rfl
  have hm1 : (r.mid a).code = if r.set a then r.code - P else r.code := by rw [← hPP]; rfl
  have hm2 : (r.mid a).span = if r.set a then r.span - P else P := by rw [← hPP]; rfl
  have hm3 : (r.mid a).used = r.used := rfl
  have hnx : (r.mid a).norm b = t := ht
  have hmy : (r.mid a).span < 16777216 → r.used < b.length := hmay
  obtain ⟨u, hu⟩ : ∃ u, r.mid a = u := ⟨_, rfl⟩
  rw [hu] at hset hm1 hm2 hm3 q3 q4 q5 hnx hmy
  obtain ⟨used, hus⟩ : ∃ x, r.used = x := ⟨_, rfl⟩
  obtain ⟨span, hsp2⟩ : ∃ x, r.span = x := ⟨_, rfl⟩
  obtain ⟨code, hco⟩ : ∃ x, r.code = x := ⟨_, rfl⟩
  obtain ⟨C1, hC1⟩ : ∃ x, u.code = x := ⟨_, rfl⟩
  obtain ⟨Z, hZ⟩ : ∃ x, u.span = x := ⟨_, rfl⟩
  rw [hus] at hm3 k6 hmy ⊢
  rw [hsp2] at hsp hm2 q2 k3 k4 ⊢
  rw [hco] at hbit hm1 ⊢
  rw [hZ] at hm2 q3 q4 q5
  rw [hC1] at hm1 q3
  rw [hb] at k6
  rw [hbit] at hm1 hm2 hset
  have HSP := Lib.hid hsp
  have HG := Lib.hid hg
  have HM := Lib.hid hm
  have HU3 : Hid (u.used = used) := hm3
  have HC1 := Lib.hid hC1
  have HZZ := Lib.hid hZ
  have HR := Lib.hid hP
  have HBR := Lib.hid hBR
  have HBL := Lib.hid hb
  have HK1 := Lib.hid k1
  have hmax := Nat.le_trans hP.le hP.max
  unfold maxLen at hmax
  have HBD : Hid (253952 ≤ P ∧ P + 253952 ≤ span ∧ span < 4294967296 ∧ C1 < Z ∧ 253952 ≤ Z ∧ Z < 4294967296) := ⟨q1, q2, k4, q3, q4, q5⟩
  have i2 : decide ((a : Int) < 0) = false := decide_eq_false (by omega)
  have i3 : decide ((n : Int) ≤ (a : Int)) = false := decide_eq_false (by omega)
  have i4 : decide (n ≤ a) = false := decide_eq_false (by omega)
  have hPT : t.p = u.p := by rw [← hnx]; unfold Go.Kc.Rr.norm; split <;> rfl
  have HPT := Lib.hid hPT
  rw [hZ] at hmy
  have hyes : Z < 16777216 → used < m ∧ ∃ Y CN, Z * 256 = Y ∧ C1 * 256 + (b.getD used 0).toNat = CN ∧ (u8s b)[used]? = some (.int .u8 ((b.getD used 0).toNat : Int)) ∧ (b.getD used 0).toNat < 256 ∧ 16777216 ≤ Y ∧ CN < 4294967296 ∧ (Y = t.span ∧ CN = t.code ∧ used + 1 = t.used) := fun hz => by
    have hl := hmy hz
    have hxl := (b.getD used 0).isLt
    refine ⟨by omega, _, _, rfl, rfl, ?_, hxl, by omega, by omega, ?_⟩
    · rw [u8s_get b used hl]; simp [hl]
    · rw [← hnx]; unfold Go.Kc.Rr.norm; rw [if_pos (by rw [hZ]; exact hz)]; dsimp only; rw [hZ, hC1, hm3]; exact ⟨rfl, rfl, rfl⟩
  have hno : ¬ Z < 16777216 → Z = t.span ∧ C1 = t.code ∧ used = t.used := fun hz => by
    rw [← hnx]; unfold Go.Kc.Rr.norm; rw [if_neg (by rw [hZ]; exact hz), hZ, hC1, hm3]; exact ⟨rfl, rfl, rfl⟩
  generalize b.getD used 0 = xo at hyes
  have HYES := Lib.hid hyes
  have HNO := Lib.hid hno
  clear hyes hno hmy hnx hPT hmay ht
  have HBIT : Hid (r.set a = decide (P ≤ code)) := hbit
  have HO := Own.start w
  have hO := HO
  clear HO hm3 hP hBR hm k1 k2 hmv hpv hPP hg hsp hus hsp2 hco hC1 hZ hu q6 q7 q1 q2 q3 q4 q5 k3 k4 k5 hbit hb
  generalize hWW : w = wn at hO HR HBR ⊢
  clear hWW w
  by_cases hc : P ≤ code
  · have dP : decide (P ≤ code) = true := decide_eq_true hc
    have dP2 : decide ((P : Int) ≤ (code : Int)) = true := decide_eq_true (by omega)
    rw [dP] at hm1 hm2 hset
    simp only [Bool.false_eq_true, if_true, if_false] at hm1 hm2
    have HSET := Lib.hid hset
    have HLN := Lib.hid (hln true)
    have HBT : Hid (r.set a = true) := by show _ = _; rw [HBIT.out, dP]
    have a1 : IntKind.u32.wrap ((code : Int) - (P : Int)) = (C1 : Int) := by have := HBD.out; simp [IntKind.wrap, IntKind.bits, IntKind.signed]; omega
    have a2 : IntKind.u32.wrap ((span : Int) - (P : Int)) = (Z : Int) := by have := HBD.out; simp [IntKind.wrap, IntKind.bits, IntKind.signed]; omega
    clear hm1 hm2 hset hln hc HBIT
    go_enter Tryz.func77, Tryz.ntmps77
    go_wp2_with (first
      | ((with_reducible refine gG ?_); refine wpList_want rfl ?_)
      | ((with_reducible refine gBox ?_); first | (refine bxA hO rfl ?_; clear hO; intro rb ww hO) | (refine bx1 hO rfl rfl ?_; clear hO; intro rb ww hO))
      | ((with_reducible refine gAlloc ?_); refine own_alloc hO _ _ irgz ?_; clear hO; intro zb ww hO)
      | ((with_reducible refine gLoad ?_); first | refine ldX hO 0 rfl rfl (tA rfl) (tS rfl) ?_ | refine ldC hO 0 rfl rfl (tA rfl) rfl ?_ | refine ldX hO 1 rfl rfl (tA rfl) (tS rfl) ?_ | refine ldC hO 1 rfl rfl (tA rfl) rfl ?_))
    replace hO : Own wn _ [.blk zb (.cells (rgC (.slice none 0 0) 0 0 0) 73 (0,0)), .blk rb (.cells (rgC (.slice aP n cP) span code used) 73 (0,0))] := hO
    refine wp_region_float (fun w' => Own wn w' [.blk rb (.cells (rgC (.slice aP n cP) span code used) 73 (0,0))]) (fun op => match op with | .load _ _ => true | _ => false) [.n, .n, .b, .n, .n, .n, .n, .n, .n, .b, .z, .m] (by kernel_rfl) (by kernel_rfl) hO.drew.tail ?_
    dsimp only [zipF, zOf]
    replace hO := hO.drew
    generalize World.drew _ = wd at hO ⊢
    go_wp2_with (first
      | (((with_reducible refine gIL ?_); first | refine wpI_ldcS (fun w' hS => hS.blk 0 rfl) rfl rfl (tA rfl) rfl ?_); first | (refine wpI_act (by simp only [Act.put, List.setIfInBounds_toArray, List.set_cons_succ, List.set_cons_zero]; rfl) ?_) | skip)
      | ((with_reducible refine gAppendNil ?_); refine own_appendNil hO _ _ 71 ei64 rfl rfl (hO.rd HR.out) (i64s_one _) (by simp [maxLen]; omega) (by omega) ?_; clear hO; intro a1 c1 ww hO)
      | ((with_reducible refine gBld (T := 73) ?_); refine own_bld (rgC (.slice a1 n c1) span code used) (by kernel_rfl) ?_)
      | ((with_reducible refine gAlloc ?_); refine own_alloc hO _ _ irgz ?_; clear hO; intro xb ww hO)
      | ((with_reducible refine gStore ?_); first | (refine stX hO 0 rfl rfl rfl rfl rfl (tS rfl) ?_; clear hO; intro ww hO) | (refine stC hO 0 rfl rfl rfl (ltb rfl) rfl (tS rfl) ?_; clear hO; intro ww hO) | (refine stX hO 1 rfl rfl rfl rfl rfl (tS rfl) ?_; clear hO; intro ww hO) | (refine stC hO 1 rfl rfl rfl (ltb rfl) rfl (tS rfl) ?_; clear hO; intro ww hO))
      | ((with_reducible refine wpF_n ?_ ?_); exact hO.sub (by repeat first | exact List.Sublist.refl _ | apply List.Sublist.cons)) | ((with_reducible refine wpF_b ?_ ?_ ?_); exact hO.sub (by repeat first | exact List.Sublist.refl _ | apply List.Sublist.cons); dsimp only [List.map]) | ((with_reducible refine wpF_m ?_); dsimp only [List.map]) | ((with_reducible refine wpI_nilS ?_ ?_); exact hO.sub (by repeat first | exact List.Sublist.refl _ | apply List.Sublist.cons))
      | ((with_reducible refine gI ?_); refine wpI_step rfl rfl (by kernel_rfl) ?_; intro K hK; have HK := Lib.hid hK; clear hK) | ((with_reducible refine gI ?_); first | refine wpI_skip rfl ?_ | refine wpI_want rfl ?_) | ((with_reducible refine gOnlyK HK.out ?_ ?_); exact hO.sub (by repeat first | exact List.Sublist.refl _ | apply List.Sublist.cons); clear HK K; first | (refine wpI_act (by simp only [Act.put, List.setIfInBounds_toArray, List.set_cons_succ, List.set_cons_zero]; rfl) ?_) | skip) | (with_reducible refine wpI_nil ?_))
    all_goals
      (first | replace hO : Own wn _ [.blk xb (.cells (rgC (.slice a1 n c1) span code used) 73 (0,0)), .sl 3 1 (.slice a1 n c1) n (i64s r.p), .blk zb (.cells (rgC (.slice none 0 0) 0 0 0) 73 (0,0)), .blk rb (.cells (rgC (.slice aP n cP) span code used) 73 (0,0))] := hO | replace hO : Own wn _ [.blk xb (.cells (rgC (.slice a1 n c1) span code used) 73 (0,0)), .sl 3 1 (.slice a1 n c1) n (i64s r.p), .blk zb (.cells (rgC (.slice none 0 0) 0 0 0) 73 (0,0)), .blk rb (.cells (rgC (.slice aP n cP) span code used) 73 (0,0))] := hO.swap)
      obtain ⟨gP, rfl⟩ := hO.slPlace 1 rfl (by omega)
      replace hO : Own wn _ [.blk xb (.cells (rgC (.slice (some ⟨gP, 0, none⟩) n c1) span code used) 73 (0,0)), .sl 3 1 (.slice (some ⟨gP, 0, none⟩) n c1) n (i64s r.p), .blk zb (.cells (rgC (.slice none 0 0) 0 0 0) 73 (0,0)), .blk rb (.cells (rgC (.slice aP n cP) span code used) 73 (0,0))] := hO
      refine wp_region_textS (fun w' => Own wn w' [.blk xb (.cells (rgC (.slice (some ⟨gP, 0, none⟩) n c1) span code used) 73 (0,0)), .sl 3 1 (.slice (some ⟨gP, 0, none⟩) n c1) n (i64s r.p), .blk zb (.cells (rgC (.slice none 0 0) 0 0 0) 73 (0,0)), .blk rb (.cells (rgC (.slice aP n cP) span code used) 73 (0,0))]) (fun op => match op with | .load _ _ => true | _ => false) (by kernel_rfl) (by kernel_rfl) hO.drew ?_
      replace hO := hO.drew
      generalize World.drew _ = wd2 at hO ⊢
      go_wp2_with (first
        | (((with_reducible refine gIL ?_); first | refine wpI_ldcS (fun w' hS => hS.blk 0 rfl) rfl rfl (tA rfl) rfl ?_); first | (refine wpI_act (by simp only [Act.put, List.setIfInBounds_toArray, List.set_cons_succ, List.set_cons_zero]; rfl) ?_) | skip)
        | ((with_reducible refine gIL ?_); refine wpI_ld1S (fun w' hS => (hS.slCell 1 rfl (by omega)).trans HG.out) rfl rfl (tA rfl) ?_; first | (refine wpI_act (by simp only [Act.put, List.setIfInBounds_toArray, List.set_cons_succ, List.set_cons_zero]; rfl) ?_) | skip)
        | (go_at_call 97; refine (HSP.out _).mono ?_; rintro e ww ⟨rfl, rfl⟩)
        | ((with_reducible refine gLoad ?_); first | refine ldX hO 0 rfl rfl (tA rfl) (tS rfl) ?_ | refine ldC hO 0 rfl rfl (tA rfl) rfl ?_)
        | ((with_reducible refine gStore ?_); first | (refine stX hO 0 rfl rfl rfl rfl rfl (tS rfl) ?_; clear hO; intro ww hO) | (refine stC hO 0 rfl rfl rfl (ltb rfl) rfl (tS rfl) ?_; clear hO; intro ww hO))
        | ((with_reducible refine gI ?_); refine wpI_step rfl rfl (by kernel_rfl) ?_; intro K hK; have HK := Lib.hid hK; clear hK) | ((with_reducible refine gI ?_); first | refine wpI_skip rfl ?_ | refine wpI_want rfl ?_) | ((with_reducible refine gOnlyK HK.out ?_ ?_); exact hO; clear HK K; first | (refine wpI_act (by simp only [Act.put, List.setIfInBounds_toArray, List.set_cons_succ, List.set_cons_zero]; rfl) ?_) | skip) | (with_reducible refine wpI_nil ?_))
      replace hO : Own wn _ [.blk xb (.cells (rgC (.slice (some ⟨gP, 0, none⟩) n c1) Z C1 used) 73 (0,0)), .sl 3 1 (.slice (some ⟨gP, 0, none⟩) n c1) n (i64s r.p), .blk zb (.cells (rgC (.slice none 0 0) 0 0 0) 73 (0,0)), .blk rb (.cells (rgC (.slice aP n cP) span code used) 73 (0,0))] := hO
      refine wp_region_textS (fun w' => Own wn w' [.blk xb (.cells (rgC (.slice (some ⟨gP, 0, none⟩) n c1) Z C1 used) 73 (0,0))]) (fun op => match op with | .load _ (.tmp 68) => false | .load _ _ => true | _ => false) (by kernel_rfl) (by kernel_rfl) (hO.drew.only (by simp)) ?_
      replace hO := hO.drew
      generalize World.drew _ = wd3 at hO ⊢
      go_wp2_with (first
        | (((with_reducible refine gIL ?_); first | refine wpI_ldcS (fun w' hS => hS.blk 0 rfl) rfl rfl (tA rfl) rfl ?_); first | (refine wpI_act (by simp only [Act.put, List.setIfInBounds_toArray, List.set_cons_succ, List.set_cons_zero]; rfl) ?_) | skip)
        | ((with_reducible refine gLoad (T := 3) ?_); refine ld_sl hO 1 rfl rfl HG.out (tA rfl) ?_)
        | (go_at_call 99; refine (HLN.out _).mono ?_; rintro e ww ⟨rfl, rfl⟩)
        | ((with_reducible refine gStore (T := 3) ?_); refine own_setElem hO 1 3 _ _ _ rfl rfl rfl (by omega) ii64s rfl ?_; clear hO; intro ww hO)
        | ((with_reducible refine gI ?_); refine wpI_step rfl rfl (by kernel_rfl) ?_; intro K hK; have HK := Lib.hid hK; clear hK) | ((with_reducible refine gI ?_); first | refine wpI_skip rfl ?_ | refine wpI_want rfl ?_) | ((with_reducible refine gOnlyK HK.out ?_ ?_); exact hO.only (by simp); clear HK K; first | (refine wpI_act (by simp only [Act.put, List.setIfInBounds_toArray, List.set_cons_succ, List.set_cons_zero]; rfl) ?_) | skip) | (with_reducible refine wpI_nil ?_))
      replace hO : Own wn _ [.blk xb (.cells (rgC (.slice (some ⟨gP, 0, none⟩) n c1) Z C1 used) 73 (0,0)), .sl 3 1 (.slice (some ⟨gP, 0, none⟩) n c1) n ((i64s r.p).set a (.int .i64 (learnI pv true))), .blk zb (.cells (rgC (.slice none 0 0) 0 0 0) 73 (0,0)), .blk rb (.cells (rgC (.slice aP n cP) span code used) 73 (0,0))] := hO
      rw [HSET.out] at hO
      go_loopg [] 1 (fun q wr => ∃ (Zc Cc Uc : Nat), q ≤ 1 ∧ Hid (Zc < 16777216 → q = 1 ∧ Zc = Z ∧ Cc = C1 ∧ Uc = used) ∧ Hid (¬ Zc < 16777216 → Zc = t.span ∧ Cc = t.code ∧ Uc = t.used) ∧ Own wn wr [.blk xb (.cells (rgC (.slice (some ⟨gP, 0, none⟩) n c1) Zc Cc Uc) 73 (0,0)), .sl 3 1 (.slice (some ⟨gP, 0, none⟩) n c1) n (i64s u.p), .blk zb (.cells (rgC (.slice none 0 0) 0 0 0) 73 (0,0)), .blk rb (.cells (rgC (.slice aP n cP) span code used) 73 (0,0))])
      case atStart => exact ⟨Z, C1, used, by omega, fun _ => ⟨rfl, rfl, rfl, rfl⟩, HNO.out, hO⟩
      case round =>
        obtain ⟨Zc, Cc, Uc, hq, HA, HB, hO1⟩ := hrel
        clear hO
        have hO := hO1
        clear hO1
        by_cases hz : Zc < 16777216
        · obtain ⟨rfl, rfl, rfl, rfl⟩ := HA.out hz
          have d1 : decide ((Zc : Int) < 16777216) = true := decide_eq_true (by omega)
          obtain ⟨hul, Y, CN, hY, hCN, hx, hxl, hYb, hCNb, hYt⟩ := HYES.out hz
          have d2 : decide ((m : Int) ≤ (Uc : Int)) = false := decide_eq_false (by omega)
          have d3 : decide (m ≤ Uc) = false := decide_eq_false (by omega)
          obtain ⟨bb, ob, rfl⟩ := HBR.out.place (by omega)
          have e1 : IntKind.u32.wrap ((Cc : Int) * 256) = (Cc : Int) * 256 := by simp [IntKind.wrap, IntKind.bits, IntKind.signed]; omega
          have e2 : IntKind.u32.wrap (xo.toNat : Int) = (xo.toNat : Int) := by simp [IntKind.wrap, IntKind.bits, IntKind.signed]; omega
          have e3 : IntKind.u32.wrap ((Cc : Int) * 256 + (xo.toNat : Int)) = (CN : Int) := by simp [IntKind.wrap, IntKind.bits, IntKind.signed]; omega
          have e5 : IntKind.u32.wrap ((Zc : Int) * 256) = (Y : Int) := by simp [IntKind.wrap, IntKind.bits, IntKind.signed]; omega
          have hu1 : Uc ≤ 10000000 := by have := HM.out; omega
          have HX := Lib.hid hx
          have HYT := Lib.hid hYt
          have HYB : Hid (16777216 ≤ Y) := hYb
          clear hz hY hCN hx hYb hCNb hYt hxl HA HB
          go_wp2_with (first
            | ((with_reducible refine gLoad ?_); first | refine ldX hO 0 rfl rfl (tA rfl) (tS rfl) ?_ | refine ldC hO 0 rfl rfl (tA rfl) rfl ?_))
          refine wp_region_text (by kernel_rfl) (by kernel_rfl) ?_
          replace hO := hO.drew
          generalize World.drew _ = wd4 at hO ⊢
          go_wp2_with (first
            | ((with_reducible refine gLoad ?_); first | refine ldX hO 0 rfl rfl (tA rfl) (tS rfl) ?_ | refine ldC hO 0 rfl rfl (tA rfl) rfl ?_)
            | ((with_reducible refine gLoad (T := 5) ?_); refine ld_rd (hO.rd HBR.out) rfl HX.out (tA rfl) ?_)
            | ((with_reducible refine gStore ?_); first | (refine stX hO 0 rfl rfl rfl rfl rfl (tS rfl) ?_; clear hO; intro ww hO) | (refine stC hO 0 rfl rfl rfl (ltb rfl) rfl (tS rfl) ?_; clear hO; intro ww hO))
            | ((with_reducible refine gI ?_); refine wpI_step rfl rfl (by kernel_rfl) ?_; intro K hK; have HK := Lib.hid hK; clear hK) | ((with_reducible refine gI ?_); first | refine wpI_skip rfl ?_ | refine wpI_want rfl ?_) | ((with_reducible refine gOnlyK0 HK.out ?_); clear HK K; first | (refine wpI_act (by simp only [Act.put, List.setIfInBounds_toArray, List.set_cons_succ, List.set_cons_zero]; rfl) ?_) | skip) | (with_reducible refine wpI_nil ?_))
          go_roundg 0
          case measure => omega
          case rel => exact ⟨Y, CN, Uc + 1, by omega, by have := HYB.out; intro h; omega, fun _ => HYT.out, hO⟩
        · obtain ⟨rfl, rfl, rfl⟩ := HB.out hz
          have d1 : decide ((t.span : Int) < 16777216) = false := decide_eq_false (by omega)
          clear hz HA HB HYES
          go_wp2_with (first
            | ((with_reducible refine gLoad ?_); first | refine ldX hO 0 rfl rfl (tA rfl) (tS rfl) ?_ | refine ldC hO 0 rfl rfl (tA rfl) rfl ?_))
          refine wp_region_text (by kernel_rfl) (by kernel_rfl) ?_
          replace hO := hO.drew
          generalize World.drew _ = wd4 at hO ⊢
          go_wp2_with (first
            | ((with_reducible refine gLoad ?_); first | refine ldX hO 0 rfl rfl (tA rfl) (tS rfl) ?_ | refine ldC hO 0 rfl rfl (tA rfl) rfl ?_)
            | ((with_reducible refine gStore ?_); first | (refine stX hO 0 rfl rfl rfl rfl rfl (tS rfl) ?_; clear hO; intro ww hO) | (refine stC hO 0 rfl rfl rfl (ltb rfl) rfl (tS rfl) ?_; clear hO; intro ww hO) | (refine stX hO 1 rfl rfl rfl rfl rfl (tS rfl) ?_; clear hO; intro ww hO) | (refine stC hO 1 rfl rfl rfl (ltb rfl) rfl (tS rfl) ?_; clear hO; intro ww hO) | (refine stX hO 2 rfl rfl rfl rfl rfl (tS rfl) ?_; clear hO; intro ww hO) | (refine stC hO 2 rfl rfl rfl (ltb rfl) rfl (tS rfl) ?_; clear hO; intro ww hO))
            | ((with_reducible refine gI ?_); refine wpI_step rfl rfl (by kernel_rfl) ?_; intro K hK; have HK := Lib.hid hK; clear hK) | ((with_reducible refine gI ?_); first | refine wpI_skip rfl ?_ | refine wpI_want rfl ?_) | ((with_reducible refine gOnlyK0 HK.out ?_); clear HK K; first | (refine wpI_act (by simp only [Act.put, List.setIfInBounds_toArray, List.set_cons_succ, List.set_cons_zero]; rfl) ?_) | skip) | (with_reducible refine wpI_nil ?_))
          refine bodyPost_ret (res_tct rfl _ _ zb 73 (rgC (.slice (some ⟨gP, 0, none⟩) n c1) t.span t.code t.used) (0,0) _ rfl (hO.blk 2 rfl) Tryz.underlying73 rfl (irg _ _ _ _)) rfl ⟨some ⟨gP, 0, none⟩, c1, by rw [HBT.out]; rfl, hO.below, by rw [HPT.out]; exact hO.row 1 rfl⟩
  · have dP : decide (P ≤ code) = false := decide_eq_false hc
    have dP2 : decide ((P : Int) ≤ (code : Int)) = false := decide_eq_false (by omega)
    rw [dP] at hm1 hm2 hset
    simp only [Bool.false_eq_true, if_true, if_false] at hm1 hm2
    have HSET := Lib.hid hset
    have HLN := Lib.hid (hln false)
    have HBT : Hid (r.set a = false) := by show _ = _; rw [HBIT.out, dP]
    subst hm1
    subst hm2
    clear hset hln hc HBIT
    go_enter Tryz.func77, Tryz.ntmps77
    go_wp2_with (first
      | ((with_reducible refine gG ?_); refine wpList_want rfl ?_)
      | ((with_reducible refine gBox ?_); first | (refine bxA hO rfl ?_; clear hO; intro rb ww hO) | (refine bx1 hO rfl rfl ?_; clear hO; intro rb ww hO))
      | ((with_reducible refine gAlloc ?_); refine own_alloc hO _ _ irgz ?_; clear hO; intro zb ww hO)
      | ((with_reducible refine gLoad ?_); first | refine ldX hO 0 rfl rfl (tA rfl) (tS rfl) ?_ | refine ldC hO 0 rfl rfl (tA rfl) rfl ?_ | refine ldX hO 1 rfl rfl (tA rfl) (tS rfl) ?_ | refine ldC hO 1 rfl rfl (tA rfl) rfl ?_))
    replace hO : Own wn _ [.blk zb (.cells (rgC (.slice none 0 0) 0 0 0) 73 (0,0)), .blk rb (.cells (rgC (.slice aP n cP) span C1 used) 73 (0,0))] := hO
    refine wp_region_float (fun w' => Own wn w' [.blk rb (.cells (rgC (.slice aP n cP) span C1 used) 73 (0,0))]) (fun op => match op with | .load _ _ => true | _ => false) [.n, .n, .b, .n, .n, .n, .n, .n, .n, .b, .z, .m] (by kernel_rfl) (by kernel_rfl) hO.drew.tail ?_
    dsimp only [zipF, zOf]
    replace hO := hO.drew
    generalize World.drew _ = wd at hO ⊢
    go_wp2_with (first
      | (((with_reducible refine gIL ?_); first | refine wpI_ldcS (fun w' hS => hS.blk 0 rfl) rfl rfl (tA rfl) rfl ?_); first | (refine wpI_act (by simp only [Act.put, List.setIfInBounds_toArray, List.set_cons_succ, List.set_cons_zero]; rfl) ?_) | skip)
      | ((with_reducible refine gAppendNil ?_); refine own_appendNil hO _ _ 71 ei64 rfl rfl (hO.rd HR.out) (i64s_one _) (by simp [maxLen]; omega) (by omega) ?_; clear hO; intro a1 c1 ww hO)
      | ((with_reducible refine gBld (T := 73) ?_); refine own_bld (rgC (.slice a1 n c1) span C1 used) (by kernel_rfl) ?_)
      | ((with_reducible refine gAlloc ?_); refine own_alloc hO _ _ irgz ?_; clear hO; intro xb ww hO)
      | ((with_reducible refine gStore ?_); first | (refine stX hO 0 rfl rfl rfl rfl rfl (tS rfl) ?_; clear hO; intro ww hO) | (refine stC hO 0 rfl rfl rfl (ltb rfl) rfl (tS rfl) ?_; clear hO; intro ww hO) | (refine stX hO 1 rfl rfl rfl rfl rfl (tS rfl) ?_; clear hO; intro ww hO) | (refine stC hO 1 rfl rfl rfl (ltb rfl) rfl (tS rfl) ?_; clear hO; intro ww hO))
      | ((with_reducible refine wpF_n ?_ ?_); exact hO.sub (by repeat first | exact List.Sublist.refl _ | apply List.Sublist.cons)) | ((with_reducible refine wpF_b ?_ ?_ ?_); exact hO.sub (by repeat first | exact List.Sublist.refl _ | apply List.Sublist.cons); dsimp only [List.map]) | ((with_reducible refine wpF_m ?_); dsimp only [List.map]) | ((with_reducible refine wpI_nilS ?_ ?_); exact hO.sub (by repeat first | exact List.Sublist.refl _ | apply List.Sublist.cons))
      | ((with_reducible refine gI ?_); refine wpI_step rfl rfl (by kernel_rfl) ?_; intro K hK; have HK := Lib.hid hK; clear hK) | ((with_reducible refine gI ?_); first | refine wpI_skip rfl ?_ | refine wpI_want rfl ?_) | ((with_reducible refine gOnlyK HK.out ?_ ?_); exact hO.sub (by repeat first | exact List.Sublist.refl _ | apply List.Sublist.cons); clear HK K; first | (refine wpI_act (by simp only [Act.put, List.setIfInBounds_toArray, List.set_cons_succ, List.set_cons_zero]; rfl) ?_) | skip) | (with_reducible refine wpI_nil ?_))
    all_goals
      (first | replace hO : Own wn _ [.blk xb (.cells (rgC (.slice a1 n c1) span C1 used) 73 (0,0)), .sl 3 1 (.slice a1 n c1) n (i64s r.p), .blk zb (.cells (rgC (.slice none 0 0) 0 0 0) 73 (0,0)), .blk rb (.cells (rgC (.slice aP n cP) span C1 used) 73 (0,0))] := hO | replace hO : Own wn _ [.blk xb (.cells (rgC (.slice a1 n c1) span C1 used) 73 (0,0)), .sl 3 1 (.slice a1 n c1) n (i64s r.p), .blk zb (.cells (rgC (.slice none 0 0) 0 0 0) 73 (0,0)), .blk rb (.cells (rgC (.slice aP n cP) span C1 used) 73 (0,0))] := hO.swap)
      obtain ⟨gP, rfl⟩ := hO.slPlace 1 rfl (by omega)
      replace hO : Own wn _ [.blk xb (.cells (rgC (.slice (some ⟨gP, 0, none⟩) n c1) span C1 used) 73 (0,0)), .sl 3 1 (.slice (some ⟨gP, 0, none⟩) n c1) n (i64s r.p), .blk zb (.cells (rgC (.slice none 0 0) 0 0 0) 73 (0,0)), .blk rb (.cells (rgC (.slice aP n cP) span C1 used) 73 (0,0))] := hO
      refine wp_region_textS (fun w' => Own wn w' [.blk xb (.cells (rgC (.slice (some ⟨gP, 0, none⟩) n c1) span C1 used) 73 (0,0)), .sl 3 1 (.slice (some ⟨gP, 0, none⟩) n c1) n (i64s r.p), .blk zb (.cells (rgC (.slice none 0 0) 0 0 0) 73 (0,0)), .blk rb (.cells (rgC (.slice aP n cP) span C1 used) 73 (0,0))]) (fun op => match op with | .load _ _ => true | _ => false) (by kernel_rfl) (by kernel_rfl) hO.drew ?_
      replace hO := hO.drew
      generalize World.drew _ = wd2 at hO ⊢
      go_wp2_with (first
        | (((with_reducible refine gIL ?_); first | refine wpI_ldcS (fun w' hS => hS.blk 0 rfl) rfl rfl (tA rfl) rfl ?_); first | (refine wpI_act (by simp only [Act.put, List.setIfInBounds_toArray, List.set_cons_succ, List.set_cons_zero]; rfl) ?_) | skip)
        | ((with_reducible refine gIL ?_); refine wpI_ld1S (fun w' hS => (hS.slCell 1 rfl (by omega)).trans HG.out) rfl rfl (tA rfl) ?_; first | (refine wpI_act (by simp only [Act.put, List.setIfInBounds_toArray, List.set_cons_succ, List.set_cons_zero]; rfl) ?_) | skip)
        | (go_at_call 97; refine (HSP.out _).mono ?_; rintro e ww ⟨rfl, rfl⟩)
        | ((with_reducible refine gLoad ?_); first | refine ldX hO 0 rfl rfl (tA rfl) (tS rfl) ?_ | refine ldC hO 0 rfl rfl (tA rfl) rfl ?_)
        | ((with_reducible refine gStore ?_); first | (refine stX hO 0 rfl rfl rfl rfl rfl (tS rfl) ?_; clear hO; intro ww hO) | (refine stC hO 0 rfl rfl rfl (ltb rfl) rfl (tS rfl) ?_; clear hO; intro ww hO))
        | ((with_reducible refine gI ?_); refine wpI_step rfl rfl (by kernel_rfl) ?_; intro K hK; have HK := Lib.hid hK; clear hK) | ((with_reducible refine gI ?_); first | refine wpI_skip rfl ?_ | refine wpI_want rfl ?_) | ((with_reducible refine gOnlyK HK.out ?_ ?_); exact hO; clear HK K; first | (refine wpI_act (by simp only [Act.put, List.setIfInBounds_toArray, List.set_cons_succ, List.set_cons_zero]; rfl) ?_) | skip) | (with_reducible refine wpI_nil ?_))
      replace hO : Own wn _ [.blk xb (.cells (rgC (.slice (some ⟨gP, 0, none⟩) n c1) Z C1 used) 73 (0,0)), .sl 3 1 (.slice (some ⟨gP, 0, none⟩) n c1) n (i64s r.p), .blk zb (.cells (rgC (.slice none 0 0) 0 0 0) 73 (0,0)), .blk rb (.cells (rgC (.slice aP n cP) span C1 used) 73 (0,0))] := hO
      refine wp_region_textS (fun w' => Own wn w' [.blk xb (.cells (rgC (.slice (some ⟨gP, 0, none⟩) n c1) Z C1 used) 73 (0,0))]) (fun op => match op with | .load _ (.tmp 68) => false | .load _ _ => true | _ => false) (by kernel_rfl) (by kernel_rfl) (hO.drew.only (by simp)) ?_
      replace hO := hO.drew
      generalize World.drew _ = wd3 at hO ⊢
      go_wp2_with (first
        | (((with_reducible refine gIL ?_); first | refine wpI_ldcS (fun w' hS => hS.blk 0 rfl) rfl rfl (tA rfl) rfl ?_); first | (refine wpI_act (by simp only [Act.put, List.setIfInBounds_toArray, List.set_cons_succ, List.set_cons_zero]; rfl) ?_) | skip)
        | ((with_reducible refine gLoad (T := 3) ?_); refine ld_sl hO 1 rfl rfl HG.out (tA rfl) ?_)
        | (go_at_call 99; refine (HLN.out _).mono ?_; rintro e ww ⟨rfl, rfl⟩)
        | ((with_reducible refine gStore (T := 3) ?_); refine own_setElem hO 1 3 _ _ _ rfl rfl rfl (by omega) ii64s rfl ?_; clear hO; intro ww hO)
        | ((with_reducible refine gI ?_); refine wpI_step rfl rfl (by kernel_rfl) ?_; intro K hK; have HK := Lib.hid hK; clear hK) | ((with_reducible refine gI ?_); first | refine wpI_skip rfl ?_ | refine wpI_want rfl ?_) | ((with_reducible refine gOnlyK HK.out ?_ ?_); exact hO.only (by simp); clear HK K; first | (refine wpI_act (by simp only [Act.put, List.setIfInBounds_toArray, List.set_cons_succ, List.set_cons_zero]; rfl) ?_) | skip) | (with_reducible refine wpI_nil ?_))
      replace hO : Own wn _ [.blk xb (.cells (rgC (.slice (some ⟨gP, 0, none⟩) n c1) Z C1 used) 73 (0,0)), .sl 3 1 (.slice (some ⟨gP, 0, none⟩) n c1) n ((i64s r.p).set a (.int .i64 (learnI pv false))), .blk zb (.cells (rgC (.slice none 0 0) 0 0 0) 73 (0,0)), .blk rb (.cells (rgC (.slice aP n cP) span C1 used) 73 (0,0))] := hO
      rw [HSET.out] at hO
      go_loopg [] 1 (fun q wr => ∃ (Zc Cc Uc : Nat), q ≤ 1 ∧ Hid (Zc < 16777216 → q = 1 ∧ Zc = Z ∧ Cc = C1 ∧ Uc = used) ∧ Hid (¬ Zc < 16777216 → Zc = t.span ∧ Cc = t.code ∧ Uc = t.used) ∧ Own wn wr [.blk xb (.cells (rgC (.slice (some ⟨gP, 0, none⟩) n c1) Zc Cc Uc) 73 (0,0)), .sl 3 1 (.slice (some ⟨gP, 0, none⟩) n c1) n (i64s u.p), .blk zb (.cells (rgC (.slice none 0 0) 0 0 0) 73 (0,0)), .blk rb (.cells (rgC (.slice aP n cP) span C1 used) 73 (0,0))])
      case atStart => exact ⟨Z, C1, used, by omega, fun _ => ⟨rfl, rfl, rfl, rfl⟩, HNO.out, hO⟩
      case round =>
        obtain ⟨Zc, Cc, Uc, hq, HA, HB, hO1⟩ := hrel
        clear hO
        have hO := hO1
        clear hO1
        by_cases hz : Zc < 16777216
        · obtain ⟨rfl, rfl, rfl, rfl⟩ := HA.out hz
          have d1 : decide ((Zc : Int) < 16777216) = true := decide_eq_true (by omega)
          obtain ⟨hul, Y, CN, hY, hCN, hx, hxl, hYb, hCNb, hYt⟩ := HYES.out hz
          have d2 : decide ((m : Int) ≤ (Uc : Int)) = false := decide_eq_false (by omega)
          have d3 : decide (m ≤ Uc) = false := decide_eq_false (by omega)
          obtain ⟨bb, ob, rfl⟩ := HBR.out.place (by omega)
          have e1 : IntKind.u32.wrap ((Cc : Int) * 256) = (Cc : Int) * 256 := by simp [IntKind.wrap, IntKind.bits, IntKind.signed]; omega
          have e2 : IntKind.u32.wrap (xo.toNat : Int) = (xo.toNat : Int) := by simp [IntKind.wrap, IntKind.bits, IntKind.signed]; omega
          have e3 : IntKind.u32.wrap ((Cc : Int) * 256 + (xo.toNat : Int)) = (CN : Int) := by simp [IntKind.wrap, IntKind.bits, IntKind.signed]; omega
          have e5 : IntKind.u32.wrap ((Zc : Int) * 256) = (Y : Int) := by simp [IntKind.wrap, IntKind.bits, IntKind.signed]; omega
          have hu1 : Uc ≤ 10000000 := by have := HM.out; omega
          have HX := Lib.hid hx
          have HYT := Lib.hid hYt
          have HYB : Hid (16777216 ≤ Y) := hYb
          clear hz hY hCN hx hYb hCNb hYt hxl HA HB
          go_wp2_with (first
            | ((with_reducible refine gLoad ?_); first | refine ldX hO 0 rfl rfl (tA rfl) (tS rfl) ?_ | refine ldC hO 0 rfl rfl (tA rfl) rfl ?_))
          refine wp_region_text (by kernel_rfl) (by kernel_rfl) ?_
          replace hO := hO.drew
          generalize World.drew _ = wd4 at hO ⊢
          go_wp2_with (first
            | ((with_reducible refine gLoad ?_); first | refine ldX hO 0 rfl rfl (tA rfl) (tS rfl) ?_ | refine ldC hO 0 rfl rfl (tA rfl) rfl ?_)
            | ((with_reducible refine gLoad (T := 5) ?_); refine ld_rd (hO.rd HBR.out) rfl HX.out (tA rfl) ?_)
            | ((with_reducible refine gStore ?_); first | (refine stX hO 0 rfl rfl rfl rfl rfl (tS rfl) ?_; clear hO; intro ww hO) | (refine stC hO 0 rfl rfl rfl (ltb rfl) rfl (tS rfl) ?_; clear hO; intro ww hO))
            | ((with_reducible refine gI ?_); refine wpI_step rfl rfl (by kernel_rfl) ?_; intro K hK; have HK := Lib.hid hK; clear hK) | ((with_reducible refine gI ?_); first | refine wpI_skip rfl ?_ | refine wpI_want rfl ?_) | ((with_reducible refine gOnlyK0 HK.out ?_); clear HK K; first | (refine wpI_act (by simp only [Act.put, List.setIfInBounds_toArray, List.set_cons_succ, List.set_cons_zero]; rfl) ?_) | skip) | (with_reducible refine wpI_nil ?_))
          go_roundg 0
          case measure => omega
          case rel => exact ⟨Y, CN, Uc + 1, by omega, by have := HYB.out; intro h; omega, fun _ => HYT.out, hO⟩
        · obtain ⟨rfl, rfl, rfl⟩ := HB.out hz
          have d1 : decide ((t.span : Int) < 16777216) = false := decide_eq_false (by omega)
          clear hz HA HB HYES
          go_wp2_with (first
            | ((with_reducible refine gLoad ?_); first | refine ldX hO 0 rfl rfl (tA rfl) (tS rfl) ?_ | refine ldC hO 0 rfl rfl (tA rfl) rfl ?_))
          refine wp_region_text (by kernel_rfl) (by kernel_rfl) ?_
          replace hO := hO.drew
          generalize World.drew _ = wd4 at hO ⊢
          go_wp2_with (first
            | ((with_reducible refine gLoad ?_); first | refine ldX hO 0 rfl rfl (tA rfl) (tS rfl) ?_ | refine ldC hO 0 rfl rfl (tA rfl) rfl ?_)
            | ((with_reducible refine gStore ?_); first | (refine stX hO 0 rfl rfl rfl rfl rfl (tS rfl) ?_; clear hO; intro ww hO) | (refine stC hO 0 rfl rfl rfl (ltb rfl) rfl (tS rfl) ?_; clear hO; intro ww hO) | (refine stX hO 1 rfl rfl rfl rfl rfl (tS rfl) ?_; clear hO; intro ww hO) | (refine stC hO 1 rfl rfl rfl (ltb rfl) rfl (tS rfl) ?_; clear hO; intro ww hO) | (refine stX hO 2 rfl rfl rfl rfl rfl (tS rfl) ?_; clear hO; intro ww hO) | (refine stC hO 2 rfl rfl rfl (ltb rfl) rfl (tS rfl) ?_; clear hO; intro ww hO))
            | ((with_reducible refine gI ?_); refine wpI_step rfl rfl (by kernel_rfl) ?_; intro K hK; have HK := Lib.hid hK; clear hK) | ((with_reducible refine gI ?_); first | refine wpI_skip rfl ?_ | refine wpI_want rfl ?_) | ((with_reducible refine gOnlyK0 HK.out ?_); clear HK K; first | (refine wpI_act (by simp only [Act.put, List.setIfInBounds_toArray, List.set_cons_succ, List.set_cons_zero]; rfl) ?_) | skip) | (with_reducible refine wpI_nil ?_))
          refine bodyPost_ret (res_tct rfl _ _ zb 73 (rgC (.slice (some ⟨gP, 0, none⟩) n c1) t.span t.code t.used) (0,0) _ rfl (hO.blk 2 rfl) Tryz.underlying73 rfl (irg _ _ _ _)) rfl ⟨some ⟨gP, 0, none⟩, c1, by rw [HBT.out]; rfl, hO.below, by rw [HPT.out]; exact hO.row 1 rfl⟩

set_option maxHeartbeats 8000000 in
set_option maxRecDepth 100000 in
theorem rnext_short (n : Nat) (hn : n ≤ 1024) (r : Go.Kc.Rr) (b : List (BitVec 8)) (hr : Go.Kc.Rok n b r) (aP : Option Addr) (cP : Nat) (aB : Option Addr) (m cB : Nat) (w : World) (hP : Rd w 1 aP n cP (i64s r.p)) (hBR : Rd w 1 aB m cB (u8s b)) (hm : m ≤ 10000000) (a : Nat) (ha : a < n) (hmay : ¬ r.may b a) :
    Calls Tryz.prog 77 #[.agg (rgC (.slice aP n cP) r.span r.code r.used), .slice aB m cB, .int .i64 (a : Int)] w fun e w' => e = .returned (.tuple #[.bool false, .agg (rgC (.slice aP n cP) r.span r.code r.used), .int .i64 2]) ∧ Below w.heap.size w w' := by
  have hb : b.length = m := by have := hBR.len; rw [u8s_length] at this; omega
  obtain ⟨q1, q2⟩ := Go.Kc.rok_part hr ha
  obtain ⟨q3, q4, q5, q6, q7⟩ := Go.Kc.rok_mid hr ha
  obtain ⟨k1, k2, k3, k4, k5, k6⟩ := hr
  have hmv := Go.Kc.all_get k2 (by rw [k1]; exact ha)
  rw [kc_may] at hmv
  obtain ⟨pv, hpv⟩ : ∃ pv, r.p.getD a 0 = pv := ⟨_, rfl⟩
  obtain ⟨P, hPP⟩ : ∃ P, r.part a = P := ⟨_, rfl⟩
  rw [hpv] at hmv
  rw [hPP] at q1 q2
  have hg : (i64s r.p)[a]? = some (.int .i64 pv) := by
    rw [i64s_get r.p a (by omega), ← hpv, List.getD_eq_getElem?_getD, List.getElem?_eq_getElem (by omega)]; rfl
  have hset : (i64s r.p).set a (.int .i64 (learnI pv (r.set a))) = i64s (r.mid a).p := by
    unfold Go.Kc.Rr.mid i64s
    dsimp only
    rw [List.map_set, hpv]; rfl
  have hsp : ∀ w, Calls Tryz.prog 97 #[.int .u32 (r.span : Int), .int .i64 pv] w fun e w' => e = .returned (.tuple #[.int .u32 (P : Int), .int .i64 0]) ∧ w = w' := fun w => by
    have h := rsplit_calls (r.span : Int) pv w (by omega) (by omega)
    have e : splitOk (r.span : Int) pv = true := by unfold splitOk; rw [hmv, decide_eq_true (by omega)]; rfl
    have e2 : splitI (r.span : Int) pv = (P : Int) := by
      have hp0 := ((mayB_iff pv).1 hmv).1
      rw [← hPP]
      unfold splitI Go.Kc.Rr.part
      rw [hpv, Int.natCast_mul, Int.natCast_ediv, Int.toNat_of_nonneg (by omega)]; rfl
    rw [e, if_pos rfl, if_pos rfl, e2] at h
    exact h
  have hln : ∀ bt w, Calls Tryz.prog 99 #[.int .i64 pv, .bool bt] w fun e w' => e = .returned (.tuple #[.int .i64 (learnI pv bt), .int .i64 0]) ∧ w = w' := fun bt w => by
    have h := rLearn_calls pv bt w
    rw [hmv, if_pos rfl, if_pos rfl] at h
    exact h
  have hbit : r.set a = decide (P ≤ r.code) := by rw [← hPP]; rfl
  have hm1 : (r.mid a).code = if r.set a then r.code - P else r.code := by rw [← hPP]; rfl
  have hm2 : (r.mid a).span = if r.set a then r.span - P else P := by rw [← hPP]; rfl
  have hm3 : (r.mid a).used = r.used := rfl
  have hs2 : (r.mid a).span < 16777216 ∧ b.length ≤ r.used := by
    have h := hmay
    rw [Go.Kc.may_iff] at h
    exact Classical.not_not.1 h
  obtain ⟨u, hu⟩ : ∃ u, r.mid a = u := ⟨_, rfl⟩
  rw [hu] at hset hm1 hm2 hm3 q3 q4 q5 hs2
  obtain ⟨used, hus⟩ : ∃ x, r.used = x := ⟨_, rfl⟩
  obtain ⟨span, hsp2⟩ : ∃ x, r.span = x := ⟨_, rfl⟩
  obtain ⟨code, hco⟩ : ∃ x, r.code = x := ⟨_, rfl⟩
  obtain ⟨C1, hC1⟩ : ∃ x, u.code = x := ⟨_, rfl⟩
  obtain ⟨Z, hZ⟩ : ∃ x, u.span = x := ⟨_, rfl⟩
  rw [hus] at hm3 k6 hs2 ⊢
  rw [hsp2] at hsp hm2 q2 k3 k4 ⊢
  rw [hco] at hbit hm1 ⊢
  rw [hZ] at hm2 q3 q4 q5
  rw [hC1] at hm1 q3
  rw [hb] at k6
  rw [hbit] at hm1 hm2 hset
  have HSP := Lib.hid hsp
  have HG := Lib.hid hg
  have HM := Lib.hid hm
  have HU3 : Hid (u.used = used) := hm3
  have HC1 := Lib.hid hC1
  have HZZ := Lib.hid hZ
  have HR := Lib.hid hP
  have HBR := Lib.hid hBR
  have HBL := Lib.hid hb
  have HK1 := Lib.hid k1
  have hmax := Nat.le_trans hP.le hP.max
  unfold maxLen at hmax
  have HBD : Hid (253952 ≤ P ∧ P + 253952 ≤ span ∧ span < 4294967296 ∧ C1 < Z ∧ 253952 ≤ Z ∧ Z < 4294967296) := ⟨q1, q2, k4, q3, q4, q5⟩
  have i2 : decide ((a : Int) < 0) = false := decide_eq_false (by omega)
  have i3 : decide ((n : Int) ≤ (a : Int)) = false := decide_eq_false (by omega)
  have i4 : decide (n ≤ a) = false := decide_eq_false (by omega)
  rw [hZ, hb] at hs2
  have HNO := Lib.hid hs2
  clear hs2 hmay
  have HBIT : Hid (r.set a = decide (P ≤ code)) := hbit
  have HO := Own.start w
  have hO := HO
  clear HO hm3 hP hBR hm k1 k2 hmv hpv hPP hg hsp hus hsp2 hco hC1 hZ hu q6 q7 q1 q2 q3 q4 q5 k3 k4 k5 hbit hb
  generalize hWW : w = wn at hO HR HBR ⊢
  clear hWW w
  by_cases hc : P ≤ code
  · have dP : decide (P ≤ code) = true := decide_eq_true hc
    have dP2 : decide ((P : Int) ≤ (code : Int)) = true := decide_eq_true (by omega)
    rw [dP] at hm1 hm2 hset
    simp only [Bool.false_eq_true, if_true, if_false] at hm1 hm2
    have HSET := Lib.hid hset
    have HLN := Lib.hid (hln true)
    have HBT : Hid (r.set a = true) := by show _ = _; rw [HBIT.out, dP]
    have a1 : IntKind.u32.wrap ((code : Int) - (P : Int)) = (C1 : Int) := by have := HBD.out; simp [IntKind.wrap, IntKind.bits, IntKind.signed]; omega
    have a2 : IntKind.u32.wrap ((span : Int) - (P : Int)) = (Z : Int) := by have := HBD.out; simp [IntKind.wrap, IntKind.bits, IntKind.signed]; omega
    clear hm1 hm2 hset hln hc HBIT
    go_enter Tryz.func77, Tryz.ntmps77
    go_wp2_with (first
      | ((with_reducible refine gG ?_); refine wpList_want rfl ?_)
      | ((with_reducible refine gBox ?_); first | (refine bxA hO rfl ?_; clear hO; intro rb ww hO) | (refine bx1 hO rfl rfl ?_; clear hO; intro rb ww hO))
      | ((with_reducible refine gAlloc ?_); refine own_alloc hO _ _ irgz ?_; clear hO; intro zb ww hO)
      | ((with_reducible refine gLoad ?_); first | refine ldX hO 0 rfl rfl (tA rfl) (tS rfl) ?_ | refine ldC hO 0 rfl rfl (tA rfl) rfl ?_ | refine ldX hO 1 rfl rfl (tA rfl) (tS rfl) ?_ | refine ldC hO 1 rfl rfl (tA rfl) rfl ?_))
    replace hO : Own wn _ [.blk zb (.cells (rgC (.slice none 0 0) 0 0 0) 73 (0,0)), .blk rb (.cells (rgC (.slice aP n cP) span code used) 73 (0,0))] := hO
    refine wp_region_float (fun w' => Own wn w' [.blk rb (.cells (rgC (.slice aP n cP) span code used) 73 (0,0))]) (fun op => match op with | .load _ _ => true | _ => false) [.n, .n, .b, .n, .n, .n, .n, .n, .n, .b, .z, .m] (by kernel_rfl) (by kernel_rfl) hO.drew.tail ?_
    dsimp only [zipF, zOf]
    replace hO := hO.drew
    generalize World.drew _ = wd at hO ⊢
    go_wp2_with (first
      | (((with_reducible refine gIL ?_); first | refine wpI_ldcS (fun w' hS => hS.blk 0 rfl) rfl rfl (tA rfl) rfl ?_); first | (refine wpI_act (by simp only [Act.put, List.setIfInBounds_toArray, List.set_cons_succ, List.set_cons_zero]; rfl) ?_) | skip)
      | ((with_reducible refine gAppendNil ?_); refine own_appendNil hO _ _ 71 ei64 rfl rfl (hO.rd HR.out) (i64s_one _) (by simp [maxLen]; omega) (by omega) ?_; clear hO; intro a1 c1 ww hO)
      | ((with_reducible refine gBld (T := 73) ?_); refine own_bld (rgC (.slice a1 n c1) span code used) (by kernel_rfl) ?_)
      | ((with_reducible refine gAlloc ?_); refine own_alloc hO _ _ irgz ?_; clear hO; intro xb ww hO)
      | ((with_reducible refine gStore ?_); first | (refine stX hO 0 rfl rfl rfl rfl rfl (tS rfl) ?_; clear hO; intro ww hO) | (refine stC hO 0 rfl rfl rfl (ltb rfl) rfl (tS rfl) ?_; clear hO; intro ww hO) | (refine stX hO 1 rfl rfl rfl rfl rfl (tS rfl) ?_; clear hO; intro ww hO) | (refine stC hO 1 rfl rfl rfl (ltb rfl) rfl (tS rfl) ?_; clear hO; intro ww hO))
      | ((with_reducible refine wpF_n ?_ ?_); exact hO.sub (by repeat first | exact List.Sublist.refl _ | apply List.Sublist.cons)) | ((with_reducible refine wpF_b ?_ ?_ ?_); exact hO.sub (by repeat first | exact List.Sublist.refl _ | apply List.Sublist.cons); dsimp only [List.map]) | ((with_reducible refine wpF_m ?_); dsimp only [List.map]) | ((with_reducible refine wpI_nilS ?_ ?_); exact hO.sub (by repeat first | exact List.Sublist.refl _ | apply List.Sublist.cons))
      | ((with_reducible refine gI ?_); refine wpI_step rfl rfl (by kernel_rfl) ?_; intro K hK; have HK := Lib.hid hK; clear hK) | ((with_reducible refine gI ?_); first | refine wpI_skip rfl ?_ | refine wpI_want rfl ?_) | ((with_reducible refine gOnlyK HK.out ?_ ?_); exact hO.sub (by repeat first | exact List.Sublist.refl _ | apply List.Sublist.cons); clear HK K; first | (refine wpI_act (by simp only [Act.put, List.setIfInBounds_toArray, List.set_cons_succ, List.set_cons_zero]; rfl) ?_) | skip) | (with_reducible refine wpI_nil ?_))
    all_goals
      (first | replace hO : Own wn _ [.blk xb (.cells (rgC (.slice a1 n c1) span code used) 73 (0,0)), .sl 3 1 (.slice a1 n c1) n (i64s r.p), .blk zb (.cells (rgC (.slice none 0 0) 0 0 0) 73 (0,0)), .blk rb (.cells (rgC (.slice aP n cP) span code used) 73 (0,0))] := hO | replace hO : Own wn _ [.blk xb (.cells (rgC (.slice a1 n c1) span code used) 73 (0,0)), .sl 3 1 (.slice a1 n c1) n (i64s r.p), .blk zb (.cells (rgC (.slice none 0 0) 0 0 0) 73 (0,0)), .blk rb (.cells (rgC (.slice aP n cP) span code used) 73 (0,0))] := hO.swap)
      obtain ⟨gP, rfl⟩ := hO.slPlace 1 rfl (by omega)
      replace hO : Own wn _ [.blk xb (.cells (rgC (.slice (some ⟨gP, 0, none⟩) n c1) span code used) 73 (0,0)), .sl 3 1 (.slice (some ⟨gP, 0, none⟩) n c1) n (i64s r.p), .blk zb (.cells (rgC (.slice none 0 0) 0 0 0) 73 (0,0)), .blk rb (.cells (rgC (.slice aP n cP) span code used) 73 (0,0))] := hO
      refine wp_region_textS (fun w' => Own wn w' [.blk xb (.cells (rgC (.slice (some ⟨gP, 0, none⟩) n c1) span code used) 73 (0,0)), .sl 3 1 (.slice (some ⟨gP, 0, none⟩) n c1) n (i64s r.p), .blk zb (.cells (rgC (.slice none 0 0) 0 0 0) 73 (0,0)), .blk rb (.cells (rgC (.slice aP n cP) span code used) 73 (0,0))]) (fun op => match op with | .load _ _ => true | _ => false) (by kernel_rfl) (by kernel_rfl) hO.drew ?_
      replace hO := hO.drew
      generalize World.drew _ = wd2 at hO ⊢
      go_wp2_with (first
        | (((with_reducible refine gIL ?_); first | refine wpI_ldcS (fun w' hS => hS.blk 0 rfl) rfl rfl (tA rfl) rfl ?_); first | (refine wpI_act (by simp only [Act.put, List.setIfInBounds_toArray, List.set_cons_succ, List.set_cons_zero]; rfl) ?_) | skip)
        | ((with_reducible refine gIL ?_); refine wpI_ld1S (fun w' hS => (hS.slCell 1 rfl (by omega)).trans HG.out) rfl rfl (tA rfl) ?_; first | (refine wpI_act (by simp only [Act.put, List.setIfInBounds_toArray, List.set_cons_succ, List.set_cons_zero]; rfl) ?_) | skip)
        | (go_at_call 97; refine (HSP.out _).mono ?_; rintro e ww ⟨rfl, rfl⟩)
        | ((with_reducible refine gLoad ?_); first | refine ldX hO 0 rfl rfl (tA rfl) (tS rfl) ?_ | refine ldC hO 0 rfl rfl (tA rfl) rfl ?_)
        | ((with_reducible refine gStore ?_); first | (refine stX hO 0 rfl rfl rfl rfl rfl (tS rfl) ?_; clear hO; intro ww hO) | (refine stC hO 0 rfl rfl rfl (ltb rfl) rfl (tS rfl) ?_; clear hO; intro ww hO))
        | ((with_reducible refine gI ?_); refine wpI_step rfl rfl (by kernel_rfl) ?_; intro K hK; have HK := Lib.hid hK; clear hK) | ((with_reducible refine gI ?_); first | refine wpI_skip rfl ?_ | refine wpI_want rfl ?_) | ((with_reducible refine gOnlyK HK.out ?_ ?_); exact hO; clear HK K; first | (refine wpI_act (by simp only [Act.put, List.setIfInBounds_toArray, List.set_cons_succ, List.set_cons_zero]; rfl) ?_) | skip) | (with_reducible refine wpI_nil ?_))
      replace hO : Own wn _ [.blk xb (.cells (rgC (.slice (some ⟨gP, 0, none⟩) n c1) Z C1 used) 73 (0,0)), .sl 3 1 (.slice (some ⟨gP, 0, none⟩) n c1) n (i64s r.p), .blk zb (.cells (rgC (.slice none 0 0) 0 0 0) 73 (0,0)), .blk rb (.cells (rgC (.slice aP n cP) span code used) 73 (0,0))] := hO
      refine wp_region_textS (fun w' => Own wn w' [.blk xb (.cells (rgC (.slice (some ⟨gP, 0, none⟩) n c1) Z C1 used) 73 (0,0))]) (fun op => match op with | .load _ (.tmp 68) => false | .load _ _ => true | _ => false) (by kernel_rfl) (by kernel_rfl) (hO.drew.only (by simp)) ?_
      replace hO := hO.drew
      generalize World.drew _ = wd3 at hO ⊢
      go_wp2_with (first
        | (((with_reducible refine gIL ?_); first | refine wpI_ldcS (fun w' hS => hS.blk 0 rfl) rfl rfl (tA rfl) rfl ?_); first | (refine wpI_act (by simp only [Act.put, List.setIfInBounds_toArray, List.set_cons_succ, List.set_cons_zero]; rfl) ?_) | skip)
        | ((with_reducible refine gLoad (T := 3) ?_); refine ld_sl hO 1 rfl rfl HG.out (tA rfl) ?_)
        | (go_at_call 99; refine (HLN.out _).mono ?_; rintro e ww ⟨rfl, rfl⟩)
        | ((with_reducible refine gStore (T := 3) ?_); refine own_setElem hO 1 3 _ _ _ rfl rfl rfl (by omega) ii64s rfl ?_; clear hO; intro ww hO)
        | ((with_reducible refine gI ?_); refine wpI_step rfl rfl (by kernel_rfl) ?_; intro K hK; have HK := Lib.hid hK; clear hK) | ((with_reducible refine gI ?_); first | refine wpI_skip rfl ?_ | refine wpI_want rfl ?_) | ((with_reducible refine gOnlyK HK.out ?_ ?_); exact hO.only (by simp); clear HK K; first | (refine wpI_act (by simp only [Act.put, List.setIfInBounds_toArray, List.set_cons_succ, List.set_cons_zero]; rfl) ?_) | skip) | (with_reducible refine wpI_nil ?_))
      replace hO : Own wn _ [.blk xb (.cells (rgC (.slice (some ⟨gP, 0, none⟩) n c1) Z C1 used) 73 (0,0)), .sl 3 1 (.slice (some ⟨gP, 0, none⟩) n c1) n ((i64s r.p).set a (.int .i64 (learnI pv true))), .blk zb (.cells (rgC (.slice none 0 0) 0 0 0) 73 (0,0)), .blk rb (.cells (rgC (.slice aP n cP) span code used) 73 (0,0))] := hO
      rw [HSET.out] at hO
      have d1 : decide ((Z : Int) < 16777216) = true := decide_eq_true (by have := HNO.out; omega)
      go_loopg [] 1 (fun q wr => q ≤ 1 ∧ Own wn wr [.blk xb (.cells (rgC (.slice (some ⟨gP, 0, none⟩) n c1) Z C1 used) 73 (0,0)), .sl 3 1 (.slice (some ⟨gP, 0, none⟩) n c1) n (i64s u.p), .blk zb (.cells (rgC (.slice none 0 0) 0 0 0) 73 (0,0)), .blk rb (.cells (rgC (.slice aP n cP) span code used) 73 (0,0))])
      case atStart => exact ⟨by omega, hO⟩
      case round =>
        obtain ⟨hq, hO1⟩ := hrel
        clear hO
        have hO := hO1
        clear hO1
        have d2 : decide ((m : Int) ≤ (used : Int)) = true := decide_eq_true (by have := HNO.out; omega)
        have d3 : decide (m ≤ used) = true := decide_eq_true (by have := HNO.out; omega)
        go_wp2_with (first
          | ((with_reducible refine gLoad ?_); first | refine ldX hO 0 rfl rfl (tA rfl) (tS rfl) ?_ | refine ldC hO 0 rfl rfl (tA rfl) rfl ?_))
        refine wp_region_text (by kernel_rfl) (by kernel_rfl) ?_
        replace hO := hO.drew
        generalize World.drew _ = wd4 at hO ⊢
        go_wp2_with (first
          | ((with_reducible refine gLoad ?_); first | refine ldX hO 0 rfl rfl (tA rfl) (tS rfl) ?_ | refine ldC hO 0 rfl rfl (tA rfl) rfl ?_ | refine ldX hO 1 rfl rfl (tA rfl) (tS rfl) ?_ | refine ldC hO 1 rfl rfl (tA rfl) rfl ?_ | refine ldX hO 2 rfl rfl (tA rfl) (tS rfl) ?_ | refine ldC hO 2 rfl rfl (tA rfl) rfl ?_ | refine ldX hO 3 rfl rfl (tA rfl) (tS rfl) ?_ | refine ldC hO 3 rfl rfl (tA rfl) rfl ?_)
          | ((with_reducible refine gStore ?_); first | (refine stX hO 0 rfl rfl rfl rfl rfl (tS rfl) ?_; clear hO; intro ww hO) | (refine stC hO 0 rfl rfl rfl (ltb rfl) rfl (tS rfl) ?_; clear hO; intro ww hO) | (refine stX hO 1 rfl rfl rfl rfl rfl (tS rfl) ?_; clear hO; intro ww hO) | (refine stC hO 1 rfl rfl rfl (ltb rfl) rfl (tS rfl) ?_; clear hO; intro ww hO) | (refine stX hO 2 rfl rfl rfl rfl rfl (tS rfl) ?_; clear hO; intro ww hO) | (refine stC hO 2 rfl rfl rfl (ltb rfl) rfl (tS rfl) ?_; clear hO; intro ww hO))
          | ((with_reducible refine gI ?_); refine wpI_step rfl rfl (by kernel_rfl) ?_; intro K hK; have HK := Lib.hid hK; clear hK) | ((with_reducible refine gI ?_); first | refine wpI_skip rfl ?_ | refine wpI_want rfl ?_) | ((with_reducible refine gOnlyK0 HK.out ?_); clear HK K; first | (refine wpI_act (by simp only [Act.put, List.setIfInBounds_toArray, List.set_cons_succ, List.set_cons_zero]; rfl) ?_) | skip) | (with_reducible refine wpI_nil ?_))
        refine bodyPost_ret (res_tct rfl _ _ zb 73 (rgC (.slice aP n cP) span code used) (0,0) _ rfl (hO.blk 2 rfl) Tryz.underlying73 rfl (irg _ _ _ _)) rfl ⟨rfl, hO.below⟩
  · have dP : decide (P ≤ code) = false := decide_eq_false hc
    have dP2 : decide ((P : Int) ≤ (code : Int)) = false := decide_eq_false (by omega)
    rw [dP] at hm1 hm2 hset
    simp only [Bool.false_eq_true, if_true, if_false] at hm1 hm2
    have HSET := Lib.hid hset
    have HLN := Lib.hid (hln false)
    have HBT : Hid (r.set a = false) := by show _ = _; rw [HBIT.out, dP]
    subst hm1
    subst hm2
    clear hset hln hc HBIT
    go_enter Tryz.func77, Tryz.ntmps77
    go_wp2_with (first
      | ((with_reducible refine gG ?_); refine wpList_want rfl ?_)
      | ((with_reducible refine gBox ?_); first | (refine bxA hO rfl ?_; clear hO; intro rb ww hO) | (refine bx1 hO rfl rfl ?_; clear hO; intro rb ww hO))
      | ((with_reducible refine gAlloc ?_); refine own_alloc hO _ _ irgz ?_; clear hO; intro zb ww hO)
      | ((with_reducible refine gLoad ?_); first | refine ldX hO 0 rfl rfl (tA rfl) (tS rfl) ?_ | refine ldC hO 0 rfl rfl (tA rfl) rfl ?_ | refine ldX hO 1 rfl rfl (tA rfl) (tS rfl) ?_ | refine ldC hO 1 rfl rfl (tA rfl) rfl ?_))
    replace hO : Own wn _ [.blk zb (.cells (rgC (.slice none 0 0) 0 0 0) 73 (0,0)), .blk rb (.cells (rgC (.slice aP n cP) span C1 used) 73 (0,0))] := hO
    refine wp_region_float (fun w' => Own wn w' [.blk rb (.cells (rgC (.slice aP n cP) span C1 used) 73 (0,0))]) (fun op => match op with | .load _ _ => true | _ => false) [.n, .n, .b, .n, .n, .n, .n, .n, .n, .b, .z, .m] (by kernel_rfl) (by kernel_rfl) hO.drew.tail ?_
    dsimp only [zipF, zOf]
    replace hO := hO.drew
    generalize World.drew _ = wd at hO ⊢
    go_wp2_with (first
      | (((with_reducible refine gIL ?_); first | refine wpI_ldcS (fun w' hS => hS.blk 0 rfl) rfl rfl (tA rfl) rfl ?_); first | (refine wpI_act (by simp only [Act.put, List.setIfInBounds_toArray, List.set_cons_succ, List.set_cons_zero]; rfl) ?_) | skip)
      | ((with_reducible refine gAppendNil ?_); refine own_appendNil hO _ _ 71 ei64 rfl rfl (hO.rd HR.out) (i64s_one _) (by simp [maxLen]; omega) (by omega) ?_; clear hO; intro a1 c1 ww hO)
      | ((with_reducible refine gBld (T := 73) ?_); refine own_bld (rgC (.slice a1 n c1) span C1 used) (by kernel_rfl) ?_)
      | ((with_reducible refine gAlloc ?_); refine own_alloc hO _ _ irgz ?_; clear hO; intro xb ww hO)
      | ((with_reducible refine gStore ?_); first | (refine stX hO 0 rfl rfl rfl rfl rfl (tS rfl) ?_; clear hO; intro ww hO) | (refine stC hO 0 rfl rfl rfl (ltb rfl) rfl (tS rfl) ?_; clear hO; intro ww hO) | (refine stX hO 1 rfl rfl rfl rfl rfl (tS rfl) ?_; clear hO; intro ww hO) | (refine stC hO 1 rfl rfl rfl (ltb rfl) rfl (tS rfl) ?_; clear hO; intro ww hO))
      | ((with_reducible refine wpF_n ?_ ?_); exact hO.sub (by repeat first | exact List.Sublist.refl _ | apply List.Sublist.cons)) | ((with_reducible refine wpF_b ?_ ?_ ?_); exact hO.sub (by repeat first | exact List.Sublist.refl _ | apply List.Sublist.cons); dsimp only [List.map]) | ((with_reducible refine wpF_m ?_); dsimp only [List.map]) | ((with_reducible refine wpI_nilS ?_ ?_); exact hO.sub (by repeat first | exact List.Sublist.refl _ | apply List.Sublist.cons))
      | ((with_reducible refine gI ?_); refine wpI_step rfl rfl (by kernel_rfl) ?_; intro K hK; have HK := Lib.hid hK; clear hK) | ((with_reducible refine gI ?_); first | refine wpI_skip rfl ?_ | refine wpI_want rfl ?_) | ((with_reducible refine gOnlyK HK.out ?_ ?_); exact hO.sub (by repeat first | exact List.Sublist.refl _ | apply List.Sublist.cons); clear HK K; first | (refine wpI_act (by simp only [Act.put, List.setIfInBounds_toArray, List.set_cons_succ, List.set_cons_zero]; rfl) ?_) | skip) | (with_reducible refine wpI_nil ?_))
    all_goals
      (first | replace hO : Own wn _ [.blk xb (.cells (rgC (.slice a1 n c1) span C1 used) 73 (0,0)), .sl 3 1 (.slice a1 n c1) n (i64s r.p), .blk zb (.cells (rgC (.slice none 0 0) 0 0 0) 73 (0,0)), .blk rb (.cells (rgC (.slice aP n cP) span C1 used) 73 (0,0))] := hO | replace hO : Own wn _ [.blk xb (.cells (rgC (.slice a1 n c1) span C1 used) 73 (0,0)), .sl 3 1 (.slice a1 n c1) n (i64s r.p), .blk zb (.cells (rgC (.slice none 0 0) 0 0 0) 73 (0,0)), .blk rb (.cells (rgC (.slice aP n cP) span C1 used) 73 (0,0))] := hO.swap)
      obtain ⟨gP, rfl⟩ := hO.slPlace 1 rfl (by omega)
      replace hO : Own wn _ [.blk xb (.cells (rgC (.slice (some ⟨gP, 0, none⟩) n c1) span C1 used) 73 (0,0)), .sl 3 1 (.slice (some ⟨gP, 0, none⟩) n c1) n (i64s r.p), .blk zb (.cells (rgC (.slice none 0 0) 0 0 0) 73 (0,0)), .blk rb (.cells (rgC (.slice aP n cP) span C1 used) 73 (0,0))] := hO
      refine wp_region_textS (fun w' => Own wn w' [.blk xb (.cells (rgC (.slice (some ⟨gP, 0, none⟩) n c1) span C1 used) 73 (0,0)), .sl 3 1 (.slice (some ⟨gP, 0, none⟩) n c1) n (i64s r.p), .blk zb (.cells (rgC (.slice none 0 0) 0 0 0) 73 (0,0)), .blk rb (.cells (rgC (.slice aP n cP) span C1 used) 73 (0,0))]) (fun op => match op with | .load _ _ => true | _ => false) (by kernel_rfl) (by kernel_rfl) hO.drew ?_
      replace hO := hO.drew
      generalize World.drew _ = wd2 at hO ⊢
      go_wp2_with (first
        | (((with_reducible refine gIL ?_); first | refine wpI_ldcS (fun w' hS => hS.blk 0 rfl) rfl rfl (tA rfl) rfl ?_); first | (refine wpI_act (by simp only [Act.put, List.setIfInBounds_toArray, List.set_cons_succ, List.set_cons_zero]; rfl) ?_) | skip)
        | ((with_reducible refine gIL ?_); refine wpI_ld1S (fun w' hS => (hS.slCell 1 rfl (by omega)).trans HG.out) rfl rfl (tA rfl) ?_; first | (refine wpI_act (by simp only [Act.put, List.setIfInBounds_toArray, List.set_cons_succ, List.set_cons_zero]; rfl) ?_) | skip)
        | (go_at_call 97; refine (HSP.out _).mono ?_; rintro e ww ⟨rfl, rfl⟩)
        | ((with_reducible refine gLoad ?_); first | refine ldX hO 0 rfl rfl (tA rfl) (tS rfl) ?_ | refine ldC hO 0 rfl rfl (tA rfl) rfl ?_)
        | ((with_reducible refine gStore ?_); first | (refine stX hO 0 rfl rfl rfl rfl rfl (tS rfl) ?_; clear hO; intro ww hO) | (refine stC hO 0 rfl rfl rfl (ltb rfl) rfl (tS rfl) ?_; clear hO; intro ww hO))
        | ((with_reducible refine gI ?_); refine wpI_step rfl rfl (by kernel_rfl) ?_; intro K hK; have HK := Lib.hid hK; clear hK) | ((with_reducible refine gI ?_); first | refine wpI_skip rfl ?_ | refine wpI_want rfl ?_) | ((with_reducible refine gOnlyK HK.out ?_ ?_); exact hO; clear HK K; first | (refine wpI_act (by simp only [Act.put, List.setIfInBounds_toArray, List.set_cons_succ, List.set_cons_zero]; rfl) ?_) | skip) | (with_reducible refine wpI_nil ?_))
      replace hO : Own wn _ [.blk xb (.cells (rgC (.slice (some ⟨gP, 0, none⟩) n c1) Z C1 used) 73 (0,0)), .sl 3 1 (.slice (some ⟨gP, 0, none⟩) n c1) n (i64s r.p), .blk zb (.cells (rgC (.slice none 0 0) 0 0 0) 73 (0,0)), .blk rb (.cells (rgC (.slice aP n cP) span C1 used) 73 (0,0))] := hO
      refine wp_region_textS (fun w' => Own wn w' [.blk xb (.cells (rgC (.slice (some ⟨gP, 0, none⟩) n c1) Z C1 used) 73 (0,0))]) (fun op => match op with | .load _ (.tmp 68) => false | .load _ _ => true | _ => false) (by kernel_rfl) (by kernel_rfl) (hO.drew.only (by simp)) ?_
      replace hO := hO.drew
      generalize World.drew _ = wd3 at hO ⊢
      go_wp2_with (first
        | (((with_reducible refine gIL ?_); first | refine wpI_ldcS (fun w' hS => hS.blk 0 rfl) rfl rfl (tA rfl) rfl ?_); first | (refine wpI_act (by simp only [Act.put, List.setIfInBounds_toArray, List.set_cons_succ, List.set_cons_zero]; rfl) ?_) | skip)
        | ((with_reducible refine gLoad (T := 3) ?_); refine ld_sl hO 1 rfl rfl HG.out (tA rfl) ?_)
        | (go_at_call 99; refine (HLN.out _).mono ?_; rintro e ww ⟨rfl, rfl⟩)
        | ((with_reducible refine gStore (T := 3) ?_); refine own_setElem hO 1 3 _ _ _ rfl rfl rfl (by omega) ii64s rfl ?_; clear hO; intro ww hO)
        | ((with_reducible refine gI ?_); refine wpI_step rfl rfl (by kernel_rfl) ?_; intro K hK; have HK := Lib.hid hK; clear hK) | ((with_reducible refine gI ?_); first | refine wpI_skip rfl ?_ | refine wpI_want rfl ?_) | ((with_reducible refine gOnlyK HK.out ?_ ?_); exact hO.only (by simp); clear HK K; first | (refine wpI_act (by simp only [Act.put, List.setIfInBounds_toArray, List.set_cons_succ, List.set_cons_zero]; rfl) ?_) | skip) | (with_reducible refine wpI_nil ?_))
      replace hO : Own wn _ [.blk xb (.cells (rgC (.slice (some ⟨gP, 0, none⟩) n c1) Z C1 used) 73 (0,0)), .sl 3 1 (.slice (some ⟨gP, 0, none⟩) n c1) n ((i64s r.p).set a (.int .i64 (learnI pv false))), .blk zb (.cells (rgC (.slice none 0 0) 0 0 0) 73 (0,0)), .blk rb (.cells (rgC (.slice aP n cP) span C1 used) 73 (0,0))] := hO
      rw [HSET.out] at hO
      have d1 : decide ((Z : Int) < 16777216) = true := decide_eq_true (by have := HNO.out; omega)
      go_loopg [] 1 (fun q wr => q ≤ 1 ∧ Own wn wr [.blk xb (.cells (rgC (.slice (some ⟨gP, 0, none⟩) n c1) Z C1 used) 73 (0,0)), .sl 3 1 (.slice (some ⟨gP, 0, none⟩) n c1) n (i64s u.p), .blk zb (.cells (rgC (.slice none 0 0) 0 0 0) 73 (0,0)), .blk rb (.cells (rgC (.slice aP n cP) span C1 used) 73 (0,0))])
      case atStart => exact ⟨by omega, hO⟩
      case round =>
        obtain ⟨hq, hO1⟩ := hrel
        clear hO
        have hO := hO1
        clear hO1
        have d2 : decide ((m : Int) ≤ (used : Int)) = true := decide_eq_true (by have := HNO.out; omega)
        have d3 : decide (m ≤ used) = true := decide_eq_true (by have := HNO.out; omega)
        go_wp2_with (first
          | ((with_reducible refine gLoad ?_); first | refine ldX hO 0 rfl rfl (tA rfl) (tS rfl) ?_ | refine ldC hO 0 rfl rfl (tA rfl) rfl ?_))
        refine wp_region_text (by kernel_rfl) (by kernel_rfl) ?_
        replace hO := hO.drew
        generalize World.drew _ = wd4 at hO ⊢
        go_wp2_with (first
          | ((with_reducible refine gLoad ?_); first | refine ldX hO 0 rfl rfl (tA rfl) (tS rfl) ?_ | refine ldC hO 0 rfl rfl (tA rfl) rfl ?_ | refine ldX hO 1 rfl rfl (tA rfl) (tS rfl) ?_ | refine ldC hO 1 rfl rfl (tA rfl) rfl ?_ | refine ldX hO 2 rfl rfl (tA rfl) (tS rfl) ?_ | refine ldC hO 2 rfl rfl (tA rfl) rfl ?_ | refine ldX hO 3 rfl rfl (tA rfl) (tS rfl) ?_ | refine ldC hO 3 rfl rfl (tA rfl) rfl ?_)
          | ((with_reducible refine gStore ?_); first | (refine stX hO 0 rfl rfl rfl rfl rfl (tS rfl) ?_; clear hO; intro ww hO) | (refine stC hO 0 rfl rfl rfl (ltb rfl) rfl (tS rfl) ?_; clear hO; intro ww hO) | (refine stX hO 1 rfl rfl rfl rfl rfl (tS rfl) ?_; clear hO; intro ww hO) | (refine stC hO 1 rfl rfl rfl (ltb rfl) rfl (tS rfl) ?_; clear hO; intro ww hO) | (refine stX hO 2 rfl rfl rfl rfl rfl (tS rfl) ?_; clear hO; intro ww hO) | (refine stC hO 2 rfl rfl rfl (ltb rfl) rfl (tS rfl) ?_; clear hO; intro ww hO))
          | ((with_reducible refine gI ?_); refine wpI_step rfl rfl (by kernel_rfl) ?_; intro K hK; have HK := Lib.hid hK; clear hK) | ((with_reducible refine gI ?_); first | refine wpI_skip rfl ?_ | refine wpI_want rfl ?_) | ((with_reducible refine gOnlyK0 HK.out ?_); clear HK K; first | (refine wpI_act (by simp only [Act.put, List.setIfInBounds_toArray, List.set_cons_succ, List.set_cons_zero]; rfl) ?_) | skip) | (with_reducible refine wpI_nil ?_))
        refine bodyPost_ret (res_tct rfl _ _ zb 73 (rgC (.slice aP n cP) span C1 used) (0,0) _ rfl (hO.blk 2 rfl) Tryz.underlying73 rfl (irg _ _ _ _)) rfl ⟨rfl, hO.below⟩
end Go.Proofs.YtniibdglodnhoaaGreatDoor

/- Walks: the document's tree, token. -/
namespace Go.Proofs.YtniibdglodnhoaaGreatDoor
open Go.RowKit Go.Own Go.Bv Go.Ord Go.Eq Go.Opn Go.Pb Go.Mt

/-- what the document's tree hands back -/
def treePost (w0 : World) (L : List Res) (p : Nat) (z : Option (Nat × Go.Kc.Rr)) (e : Ending) (w' : World) : Prop :=
  match z with
  | some (v, t) => ∃ a' c', e = .returned (.tuple #[.int .i64 ((v : Int) - (p : Int)), .agg (rgC (.slice a' 528 c') t.span t.code t.used), .bool true]) ∧ Own w0 w' (.sl 3 1 (.slice a' 528 c') 528 (i64s t.p) :: L)
  | none => ∃ a' c' s1 s2 s3, e = .returned (.tuple #[.int .i64 0, .agg (rgC (.slice a' 528 c') s1 s2 s3), .bool false]) ∧ Own w0 w' L

set_option maxHeartbeats 8000000 in
set_option maxRecDepth 100000 in
theorem rtree_calls {w0 w : World} {L : List Res} {aP : Option Addr} {cP : Nat} (b : List (BitVec 8)) (r : Go.Kc.Rr) (hr : Go.Kc.Rok 528 b r) (aB : Option Addr) (m cB : Nat) (hBR : Rd w0 1 aB m cB (u8s b)) (hm : m ≤ 10000000) (wide tree p : Nat) (hw : wide = 4 ∧ p = 16 ∨ wide = 8 ∧ p = 256) (htr : tree + p ≤ 528) (z : Option (Nat × Go.Kc.Rr)) (hz : Go.Pz.rn b tree wide 1 r = z)
    (hO : Own w0 w (.sl 3 1 (.slice aP 528 cP) 528 (i64s r.p) :: L)) :
    Calls Tryz.prog 78 #[.agg (rgC (.slice aP 528 cP) r.span r.code r.used), .slice aB m cB, .int .i64 (wide : Int), .int .i64 (tree : Int)] w (treePost w0 L p z) := by
  have hp2 : 2 ^ wide = p := by rcases hw with ⟨rfl, rfl⟩ | ⟨rfl, rfl⟩ <;> decide
  have hw8 : wide ≤ 8 := by omega
  have HM := Lib.hid hm
  have HZ := Lib.hid hz
  have HP := Lib.hid hp2
  have HRK := Lib.hid hr
  have HBR := Lib.hid hBR
  have hw2 := Lib.hid hw
  clear hm hz hp2 hr hBR hw
  go_enter Tryz.func78, Tryz.ntmps78
  go_wp2_with (first
    | ((with_reducible refine gBox ?_); first | (refine bxA hO rfl ?_; clear hO; intro rb ww hO) | (refine bx1 hO rfl rfl ?_; clear hO; intro rb ww hO))
    | ((with_reducible refine gAlloc ?_); refine own_alloc hO _ _ irgz ?_; clear hO; intro zb ww hO))
  go_loopg [11, 16] wide (fun mm s11 cc wr => ∃ (i node : Nat) (u : Go.Kc.Rr) (aQ : Option Addr) (cQ : Nat), mm = wide - i ∧ i ≤ wide ∧ s11 = .int .i64 (node : Int) ∧ cc = .int .i64 (i : Int) ∧ Hid (Go.Pz.rn b tree (wide - i) node u = z) ∧ Hid (2 ^ i ≤ node ∧ node < 2 ^ (i + 1)) ∧ Hid (Go.Kc.Rok 528 b u) ∧
    Own w0 wr (.blk zb (.cells (rgC (.slice none 0 0) 0 0 0) 73 (0,0)) :: .blk rb (.cells (rgC (.slice aQ 528 cQ) u.span u.code u.used) 73 (0,0)) :: .sl 3 1 (.slice aQ 528 cQ) 528 (i64s u.p) :: L))
  case atStart => exact ⟨0, 1, r, aP, cP, rfl, by omega, rfl, rfl, HZ.out, ⟨by decide, by decide⟩, HRK.out, hO⟩
  case round =>
    obtain ⟨i, node, u, aQ, cQ, rfl, hi, rfl, rfl, HU, HN, HK, hO1⟩ := hrel
    clear hO
    have hO := hO1
    clear hO1
    by_cases hlt : i < wide
    · have d1 : decide ((i : Int) < (wide : Int)) = true := decide_eq_true (by omega)
      have hn := HN.out.2
      have hnp : node < p := by
        rw [← HP.out]
        exact Nat.lt_of_lt_of_le hn (Nat.pow_le_pow_right (by decide) (by omega))
      have hp8 : p ≤ 256 := by have := hw2.out; omega
      obtain ⟨j, hj⟩ : ∃ j, wide - i = j + 1 := ⟨wide - i - 1, by omega⟩
      have hca : ((tree : Int) + (node : Int)) = ((tree + node : Nat) : Int) := by omega
      have HTN : Hid (tree + node < 528) := by show _ < _; omega
      rcases Go.Kc.nxtE_cases 528 b u ((tree + node : Nat) : Int) with h | ⟨h, a, ha, ha2, hno⟩ | ⟨h, hbad⟩
      · obtain ⟨k, e, hk, hmay⟩ := Go.Kc.nxtE_ok h
        obtain rfl : tree + node = k := by omega
        have hst := Go.Pz.rn_step (b := b) (tree := tree) (k := j) (node := node) (r := u) h
        rw [← hj, HU.out] at hst
        have HK2 : Hid (Go.Kc.Rok 528 b (u.next b (tree + node))) := Go.Pz.next_rok HK.out h
        obtain ⟨t, ht⟩ : ∃ t, u.next b (tree + node) = t := ⟨_, rfl⟩
        obtain ⟨sb, hsb⟩ : ∃ x, u.set (tree + node) = x := ⟨_, rfl⟩
        have HNX := Lib.hid (fun (w : World) hP hB => rnext_ok 528 (by omega) u b HK.out aQ cQ aB m cB w hP hB HM.out (tree + node) HTN.out hmay t ht)
        rw [hsb, ← hca] at HNX
        rw [ht, hsb] at hst
        rw [ht] at HK2
        obtain rfl : j = wide - (i + 1) := by omega
        have HN2 : Hid (2 ^ (i + 1) ≤ node * 2 + sb.toNat ∧ node * 2 + sb.toNat < 2 ^ (i + 1 + 1)) := by
          obtain ⟨n1, n2⟩ := HN.out
          have hx1 : sb.toNat < 2 := by cases sb <;> decide
          rw [Nat.pow_succ] at n2
          show _ ∧ _
          rw [Nat.pow_succ, Nat.pow_succ]
          generalize 2 ^ i = z at *
          omega
        have HST := Lib.hid hst
        clear ht hsb hst h e hk hmay HU HN hn hca hj
        cases sb
        · go_wp2_with (first
            | (go_at_call 77; refine (HNX.out _ (hO.rdAt 2 rfl) (hO.rd HBR.out)).mono ?_; rintro e ww ⟨a5, c5, rfl, hb, hr⟩; replace hO := hO.addRow hb hr; clear hb hr)
            | ((with_reducible refine gAlloc ?_); refine own_alloc hO _ _ irgz ?_; clear hO; intro nx ww hO)
            | ((with_reducible refine gLoad ?_); first | refine ldX hO 0 rfl rfl (tA rfl) (tS rfl) ?_ | refine ldC hO 0 rfl rfl (tA rfl) rfl ?_ | refine ldX hO 1 rfl rfl (tA rfl) (tS rfl) ?_ | refine ldC hO 1 rfl rfl (tA rfl) rfl ?_ | refine ldX hO 2 rfl rfl (tA rfl) (tS rfl) ?_ | refine ldC hO 2 rfl rfl (tA rfl) rfl ?_ | refine ldX hO 3 rfl rfl (tA rfl) (tS rfl) ?_ | refine ldC hO 3 rfl rfl (tA rfl) rfl ?_)
            | ((with_reducible refine gStore ?_); first | (refine stX hO 0 rfl rfl rfl rfl rfl (tS rfl) ?_; clear hO; intro ww hO) | (refine stC hO 0 rfl rfl rfl (ltb rfl) rfl (tS rfl) ?_; clear hO; intro ww hO) | (refine stX hO 1 rfl rfl rfl rfl rfl (tS rfl) ?_; clear hO; intro ww hO) | (refine stC hO 1 rfl rfl rfl (ltb rfl) rfl (tS rfl) ?_; clear hO; intro ww hO) | (refine stX hO 2 rfl rfl rfl rfl rfl (tS rfl) ?_; clear hO; intro ww hO) | (refine stC hO 2 rfl rfl rfl (ltb rfl) rfl (tS rfl) ?_; clear hO; intro ww hO) | (refine stX hO 3 rfl rfl rfl rfl rfl (tS rfl) ?_; clear hO; intro ww hO) | (refine stC hO 3 rfl rfl rfl (ltb rfl) rfl (tS rfl) ?_; clear hO; intro ww hO)))
          go_roundg (wide - (i + 1))
          case measure => omega
          case rel => exact ⟨i + 1, node * 2 + false.toNat, t, a5, c5, rfl, by omega, congrArg (Value.int .i64) (show (2 : Int) * node = ((node * 2 + 0 : Nat) : Int) by omega), by go_num, HST.out.symm, HN2.out, HK2.out, (hO.tail.sub (List.Sublist.cons_cons _ (List.Sublist.cons_cons _ (List.Sublist.cons_cons _ (List.Sublist.cons _ (List.Sublist.refl _)))))).rot3⟩
        · go_wp2_with (first
            | (go_at_call 77; refine (HNX.out _ (hO.rdAt 2 rfl) (hO.rd HBR.out)).mono ?_; rintro e ww ⟨a5, c5, rfl, hb, hr⟩; replace hO := hO.addRow hb hr; clear hb hr)
            | ((with_reducible refine gAlloc ?_); refine own_alloc hO _ _ irgz ?_; clear hO; intro nx ww hO)
            | ((with_reducible refine gLoad ?_); first | refine ldX hO 0 rfl rfl (tA rfl) (tS rfl) ?_ | refine ldC hO 0 rfl rfl (tA rfl) rfl ?_ | refine ldX hO 1 rfl rfl (tA rfl) (tS rfl) ?_ | refine ldC hO 1 rfl rfl (tA rfl) rfl ?_ | refine ldX hO 2 rfl rfl (tA rfl) (tS rfl) ?_ | refine ldC hO 2 rfl rfl (tA rfl) rfl ?_ | refine ldX hO 3 rfl rfl (tA rfl) (tS rfl) ?_ | refine ldC hO 3 rfl rfl (tA rfl) rfl ?_)
            | ((with_reducible refine gStore ?_); first | (refine stX hO 0 rfl rfl rfl rfl rfl (tS rfl) ?_; clear hO; intro ww hO) | (refine stC hO 0 rfl rfl rfl (ltb rfl) rfl (tS rfl) ?_; clear hO; intro ww hO) | (refine stX hO 1 rfl rfl rfl rfl rfl (tS rfl) ?_; clear hO; intro ww hO) | (refine stC hO 1 rfl rfl rfl (ltb rfl) rfl (tS rfl) ?_; clear hO; intro ww hO) | (refine stX hO 2 rfl rfl rfl rfl rfl (tS rfl) ?_; clear hO; intro ww hO) | (refine stC hO 2 rfl rfl rfl (ltb rfl) rfl (tS rfl) ?_; clear hO; intro ww hO) | (refine stX hO 3 rfl rfl rfl rfl rfl (tS rfl) ?_; clear hO; intro ww hO) | (refine stC hO 3 rfl rfl rfl (ltb rfl) rfl (tS rfl) ?_; clear hO; intro ww hO)))
          go_roundg (wide - (i + 1))
          case measure => omega
          case rel => exact ⟨i + 1, node * 2 + true.toNat, t, a5, c5, rfl, by omega, congrArg (Value.int .i64) (show (2 : Int) * node + 1 = ((node * 2 + 1 : Nat) : Int) by omega), by go_num, HST.out.symm, HN2.out, HK2.out, (hO.tail.sub (List.Sublist.cons_cons _ (List.Sublist.cons_cons _ (List.Sublist.cons_cons _ (List.Sublist.cons _ (List.Sublist.refl _)))))).rot3⟩
      · obtain rfl : tree + node = a := by omega
        have hst := Go.Pz.rn_stop (b := b) (tree := tree) (k := j) (node := node) (r := u) (by rw [h]; decide)
        rw [← hj, HU.out] at hst
        subst hst
        have HNX := Lib.hid (fun (w : World) hP hB => rnext_short 528 (by omega) u b HK.out aQ cQ aB m cB w hP hB HM.out (tree + node) HTN.out hno)
        rw [← hca] at HNX
        clear h hno ha2 ha HU HN HK hn hca hj HP HZ
        go_wp2_with (first
          | (go_at_call 77; refine (HNX.out _ (hO.rdAt 2 rfl) (hO.rd HBR.out)).mono ?_; rintro e ww ⟨rfl, hb⟩; replace hO := hO.call hb; clear hb)
          | ((with_reducible refine gAlloc ?_); refine own_alloc hO _ _ irgz ?_; clear hO; intro nx ww hO)
          | ((with_reducible refine gLoad ?_); first | refine ldX hO 0 rfl rfl (tA rfl) (tS rfl) ?_ | refine ldC hO 0 rfl rfl (tA rfl) rfl ?_ | refine ldX hO 1 rfl rfl (tA rfl) (tS rfl) ?_ | refine ldC hO 1 rfl rfl (tA rfl) rfl ?_ | refine ldX hO 2 rfl rfl (tA rfl) (tS rfl) ?_ | refine ldC hO 2 rfl rfl (tA rfl) rfl ?_ | refine ldX hO 3 rfl rfl (tA rfl) (tS rfl) ?_ | refine ldC hO 3 rfl rfl (tA rfl) rfl ?_)
          | ((with_reducible refine gStore ?_); first | (refine stX hO 0 rfl rfl rfl rfl rfl (tS rfl) ?_; clear hO; intro ww hO) | (refine stC hO 0 rfl rfl rfl (ltb rfl) rfl (tS rfl) ?_; clear hO; intro ww hO) | (refine stX hO 1 rfl rfl rfl rfl rfl (tS rfl) ?_; clear hO; intro ww hO) | (refine stC hO 1 rfl rfl rfl (ltb rfl) rfl (tS rfl) ?_; clear hO; intro ww hO) | (refine stX hO 2 rfl rfl rfl rfl rfl (tS rfl) ?_; clear hO; intro ww hO) | (refine stC hO 2 rfl rfl rfl (ltb rfl) rfl (tS rfl) ?_; clear hO; intro ww hO) | (refine stX hO 3 rfl rfl rfl rfl rfl (tS rfl) ?_; clear hO; intro ww hO) | (refine stC hO 3 rfl rfl rfl (ltb rfl) rfl (tS rfl) ?_; clear hO; intro ww hO)))
        refine wp_region_text (by kernel_rfl) (by kernel_rfl) ?_
        replace hO := hO.drew
        generalize World.drew _ = wd at hO ⊢
        go_wp2_with (first
          | ((with_reducible refine gLoad ?_); first | refine ldX hO 0 rfl rfl (tA rfl) (tS rfl) ?_ | refine ldC hO 0 rfl rfl (tA rfl) rfl ?_ | refine ldX hO 1 rfl rfl (tA rfl) (tS rfl) ?_ | refine ldC hO 1 rfl rfl (tA rfl) rfl ?_ | refine ldX hO 2 rfl rfl (tA rfl) (tS rfl) ?_ | refine ldC hO 2 rfl rfl (tA rfl) rfl ?_ | refine ldX hO 3 rfl rfl (tA rfl) (tS rfl) ?_ | refine ldC hO 3 rfl rfl (tA rfl) rfl ?_)
          | ((with_reducible refine gStore ?_); first | (refine stX hO 0 rfl rfl rfl rfl rfl (tS rfl) ?_; clear hO; intro ww hO) | (refine stC hO 0 rfl rfl rfl (ltb rfl) rfl (tS rfl) ?_; clear hO; intro ww hO) | (refine stX hO 1 rfl rfl rfl rfl rfl (tS rfl) ?_; clear hO; intro ww hO) | (refine stC hO 1 rfl rfl rfl (ltb rfl) rfl (tS rfl) ?_; clear hO; intro ww hO) | (refine stX hO 2 rfl rfl rfl rfl rfl (tS rfl) ?_; clear hO; intro ww hO) | (refine stC hO 2 rfl rfl rfl (ltb rfl) rfl (tS rfl) ?_; clear hO; intro ww hO) | (refine stX hO 3 rfl rfl rfl rfl rfl (tS rfl) ?_; clear hO; intro ww hO) | (refine stC hO 3 rfl rfl rfl (ltb rfl) rfl (tS rfl) ?_; clear hO; intro ww hO))
          | ((with_reducible refine gI ?_); refine wpI_step rfl rfl (by kernel_rfl) ?_; intro K hK; have HK := Lib.hid hK; clear hK) | ((with_reducible refine gI ?_); first | refine wpI_skip rfl ?_ | refine wpI_want rfl ?_) | ((with_reducible refine gOnlyK0 HK.out ?_); clear HK K; first | (refine wpI_act (by simp only [Act.put, List.setIfInBounds_toArray, List.set_cons_succ, List.set_cons_zero]; rfl) ?_) | skip) | (with_reducible refine wpI_nil ?_))
        refine bodyPost_ret (res_tct rfl _ _ zb 73 (rgC (.slice aQ 528 cQ) u.span u.code u.used) (0,0) _ rfl (hO.blk 1 rfl) Tryz.underlying73 rfl (irg _ _ _ _)) rfl ⟨aQ, cQ, _, _, _, rfl, (hO.sub (List.Sublist.cons _ (List.Sublist.cons _ (List.Sublist.cons _ (List.Sublist.cons _ (List.Sublist.refl _))))))⟩
      · exfalso; omega
    · obtain rfl : i = wide := by omega
      have d1 : decide ((i : Int) < (i : Int)) = false := decide_eq_false (by omega)
      have hu := HU.out
      rw [Nat.sub_self] at hu
      have hz : z = some (node, u) := by rw [← hu]; rfl
      subst hz
      have hh := hw2.out
      have hnb : node < 512 := Nat.lt_of_lt_of_le HN.out.2 (Nat.pow_le_pow_right (by decide) (by omega : i + 1 ≤ 9))
      clear HU HN HK HZ hu HP
      rcases hh with ⟨rfl, rfl⟩ | ⟨rfl, rfl⟩
      · go_wp2
        refine wp_region_text (by kernel_rfl) (by kernel_rfl) ?_
        replace hO := hO.drew
        generalize World.drew _ = wd at hO ⊢
        go_wp2_with (first
          | ((with_reducible refine gLoad ?_); first | refine ldX hO 0 rfl rfl (tA rfl) (tS rfl) ?_ | refine ldC hO 0 rfl rfl (tA rfl) rfl ?_ | refine ldX hO 1 rfl rfl (tA rfl) (tS rfl) ?_ | refine ldC hO 1 rfl rfl (tA rfl) rfl ?_)
          | ((with_reducible refine gStore ?_); first | (refine stX hO 0 rfl rfl rfl rfl rfl (tS rfl) ?_; clear hO; intro ww hO) | (refine stC hO 0 rfl rfl rfl (ltb rfl) rfl (tS rfl) ?_; clear hO; intro ww hO) | (refine stX hO 1 rfl rfl rfl rfl rfl (tS rfl) ?_; clear hO; intro ww hO) | (refine stC hO 1 rfl rfl rfl (ltb rfl) rfl (tS rfl) ?_; clear hO; intro ww hO))
          | ((with_reducible refine gI ?_); refine wpI_step rfl rfl (by kernel_rfl) ?_; intro K hK; have HK := Lib.hid hK; clear hK) | ((with_reducible refine gI ?_); first | refine wpI_skip rfl ?_ | refine wpI_want rfl ?_) | ((with_reducible refine gOnlyK0 HK.out ?_); clear HK K; first | (refine wpI_act (by simp only [Act.put, List.setIfInBounds_toArray, List.set_cons_succ, List.set_cons_zero]; rfl) ?_) | skip) | (with_reducible refine wpI_nil ?_))
        refine bodyPost_ret (res_tct rfl _ _ zb 73 (rgC (.slice aQ 528 cQ) u.span u.code u.used) (0,0) _ rfl (hO.blk 0 rfl) Tryz.underlying73 rfl (irg _ _ _ _)) rfl ⟨aQ, cQ, rfl, hO.tail.tail⟩
      · go_wp2
        refine wp_region_text (by kernel_rfl) (by kernel_rfl) ?_
        replace hO := hO.drew
        generalize World.drew _ = wd at hO ⊢
        go_wp2_with (first
          | ((with_reducible refine gLoad ?_); first | refine ldX hO 0 rfl rfl (tA rfl) (tS rfl) ?_ | refine ldC hO 0 rfl rfl (tA rfl) rfl ?_ | refine ldX hO 1 rfl rfl (tA rfl) (tS rfl) ?_ | refine ldC hO 1 rfl rfl (tA rfl) rfl ?_)
          | ((with_reducible refine gStore ?_); first | (refine stX hO 0 rfl rfl rfl rfl rfl (tS rfl) ?_; clear hO; intro ww hO) | (refine stC hO 0 rfl rfl rfl (ltb rfl) rfl (tS rfl) ?_; clear hO; intro ww hO) | (refine stX hO 1 rfl rfl rfl rfl rfl (tS rfl) ?_; clear hO; intro ww hO) | (refine stC hO 1 rfl rfl rfl (ltb rfl) rfl (tS rfl) ?_; clear hO; intro ww hO))
          | ((with_reducible refine gI ?_); refine wpI_step rfl rfl (by kernel_rfl) ?_; intro K hK; have HK := Lib.hid hK; clear hK) | ((with_reducible refine gI ?_); first | refine wpI_skip rfl ?_ | refine wpI_want rfl ?_) | ((with_reducible refine gOnlyK0 HK.out ?_); clear HK K; first | (refine wpI_act (by simp only [Act.put, List.setIfInBounds_toArray, List.set_cons_succ, List.set_cons_zero]; rfl) ?_) | skip) | (with_reducible refine wpI_nil ?_))
        refine bodyPost_ret (res_tct rfl _ _ zb 73 (rgC (.slice aQ 528 cQ) u.span u.code u.used) (0,0) _ rfl (hO.blk 0 rfl) Tryz.underlying73 rfl (irg _ _ _ _)) rfl ⟨aQ, cQ, rfl, hO.tail.tail⟩
end Go.Proofs.YtniibdglodnhoaaGreatDoor

/- Walk: the document's token. -/
namespace Go.Proofs.YtniibdglodnhoaaGreatDoor
open Go.RowKit Go.Own Go.Bv Go.Ord Go.Eq Go.Opn Go.Pb Go.Mt

def tokPost (w0 : World) (L : List Res) (z : Option (Tok × Go.Kc.Rr)) (e : Ending) (w' : World) : Prop :=
  match z with
  | some (t, u) => ∃ a' c', e = .returned (.tuple #[.agg t.C, .agg (rgC (.slice a' 528 c') u.span u.code u.used), .bool true]) ∧ Own w0 w' (.sl 3 1 (.slice a' 528 c') 528 (i64s u.p) :: L)
  | none => ∃ (t : Tok) (a' : Option Addr) (c' s1 s2 s3 : Nat), e = .returned (.tuple #[.agg t.C, .agg (rgC (.slice a' 528 c') s1 s2 s3), .bool false]) ∧ Own w0 w' L

set_option maxHeartbeats 8000000 in
set_option maxRecDepth 100000 in
theorem rtoken_calls {w0 w : World} {L : List Res} {aP : Option Addr} {cP : Nat} (b : List (BitVec 8)) (r : Go.Kc.Rr) (hr : Go.Kc.Rok 528 b r) (aB : Option Addr) (m cB : Nat) (hBR : Rd w0 1 aB m cB (u8s b)) (hm : m ≤ 10000000) (z : Option (Tok × Go.Kc.Rr)) (hz : Go.Pz.rtok b r = z)
    (hO : Own w0 w (.sl 3 1 (.slice aP 528 cP) 528 (i64s r.p) :: L)) :
    Calls Tryz.prog 50 #[.agg (rgC (.slice aP 528 cP) r.span r.code r.used), .slice aB m cB] w (tokPost w0 L z) := by
  have HBR := Lib.hid hBR
  rcases Go.Kc.nxtE_cases 528 b r ((0 : Nat) : Int) with h | ⟨h, a, ha, ha2, hno⟩ | ⟨h, hbad⟩
  · obtain ⟨k, e, hk, hmay⟩ := Go.Kc.nxtE_ok h
    obtain rfl : 0 = k := by omega
    have HK := Go.Pz.next_rok hr h
    unfold Go.Pz.rtok at hz
    rw [if_pos h] at hz
    obtain ⟨t, ht⟩ : ∃ t, r.next b 0 = t := ⟨_, rfl⟩
    obtain ⟨sb, hsb⟩ : ∃ x, r.set 0 = x := ⟨_, rfl⟩
    have HNX := Lib.hid (fun (w : World) hP hB => rnext_ok 528 (by omega) r b hr aP cP aB m cB w hP hB hm 0 (by omega) hmay t ht)
    rw [hsb, show ((0 : Nat) : Int) = 0 from rfl] at HNX
    rw [ht, hsb] at hz
    rw [ht] at HK
    have HTR := fun (tree wide p : Nat) hw htr (t : Go.Kc.Rr) (ht : Go.Kc.Rok 528 b t) (x : Option (Nat × Go.Kc.Rr)) hx (w : World) (L : List Res) (aQ : Option Addr) (cQ : Nat) hO => rtree_calls (w0 := w0) (w := w) (L := L) (aP := aQ) (cP := cQ) b t ht aB m cB hBR hm wide tree p hw htr x hx hO
    clear ht hsb h e hk hmay hBR hr hm
    cases sb
    · rw [if_pos rfl] at hz
      obtain ⟨x, hx⟩ : ∃ x, Go.Pz.rn b 0 8 1 t = x := ⟨_, rfl⟩
      have H8 := Lib.hid (HTR 0 8 256 (.inr ⟨rfl, rfl⟩) (by omega) t HK x hx)
      rw [show ((8 : Nat) : Int) = 8 from rfl, show ((0 : Nat) : Int) = 0 from rfl] at H8
      have hl := fun v u (h : x = some (v, u)) => Go.Pz.rn_lt (hx.trans h)
      rw [hx] at hz
      clear hx HK HTR
      cases x with
      | none =>
        dsimp only at hz
        subst hz
        clear hl
        go_enter Tryz.func50, Tryz.ntmps50
        go_wp2_with (first
          | (go_at_call 77; refine (HNX.out _ (hO.rdAt 3 rfl) (hO.rd HBR.out)).mono ?_; rintro e ww ⟨a5, c5, rfl, hb, hr⟩; replace hO := hO.addRow hb hr; clear hb hr)
          | (go_at_call 78; (with_reducible refine gCall #[_, _, .int .i64 8, _] ?_); refine (H8.out _ _ _ _ hO).mono ?_; rintro e ww ⟨a6, c6, s1, s2, s3, rfl, hO2⟩; clear hO; have hO := hO2; clear hO2)
          | ((with_reducible refine gBox ?_); first | (refine bxA hO rfl ?_; clear hO; intro rb ww hO) | (refine bx1 hO rfl rfl ?_; clear hO; intro rb ww hO))
          | ((with_reducible refine gAlloc (T := 78) ?_); refine own_alloc hO _ _ itz ?_; clear hO; intro tb ww hO)
          | (((with_reducible refine gAlloc ?_); refine own_alloc hO _ _ irgz ?_; clear hO; intro zb ww hO))
          | ((with_reducible refine gLoad ?_); first | refine ldX hO 0 rfl rfl (tA rfl) (tS rfl) ?_ | refine ldC hO 0 rfl rfl (tA rfl) rfl ?_ | refine ldX hO 1 rfl rfl (tA rfl) (tS rfl) ?_ | refine ldC hO 1 rfl rfl (tA rfl) rfl ?_ | refine ldX hO 2 rfl rfl (tA rfl) (tS rfl) ?_ | refine ldC hO 2 rfl rfl (tA rfl) rfl ?_ | refine ldX hO 3 rfl rfl (tA rfl) (tS rfl) ?_ | refine ldC hO 3 rfl rfl (tA rfl) rfl ?_ | refine ldX hO 4 rfl rfl (tA rfl) (tS rfl) ?_ | refine ldC hO 4 rfl rfl (tA rfl) rfl ?_ | refine ldX hO 5 rfl rfl (tA rfl) (tS rfl) ?_ | refine ldC hO 5 rfl rfl (tA rfl) rfl ?_)
          | ((with_reducible refine gStore ?_); first | (refine stX hO 0 rfl rfl rfl rfl rfl (tS rfl) ?_; clear hO; intro ww hO) | (refine stC hO 0 rfl rfl rfl (ltb rfl) rfl (tS rfl) ?_; clear hO; intro ww hO) | (refine stX hO 1 rfl rfl rfl rfl rfl (tS rfl) ?_; clear hO; intro ww hO) | (refine stC hO 1 rfl rfl rfl (ltb rfl) rfl (tS rfl) ?_; clear hO; intro ww hO) | (refine stX hO 2 rfl rfl rfl rfl rfl (tS rfl) ?_; clear hO; intro ww hO) | (refine stC hO 2 rfl rfl rfl (ltb rfl) rfl (tS rfl) ?_; clear hO; intro ww hO) | (refine stX hO 3 rfl rfl rfl rfl rfl (tS rfl) ?_; clear hO; intro ww hO) | (refine stC hO 3 rfl rfl rfl (ltb rfl) rfl (tS rfl) ?_; clear hO; intro ww hO) | (refine stX hO 4 rfl rfl rfl rfl rfl (tS rfl) ?_; clear hO; intro ww hO) | (refine stC hO 4 rfl rfl rfl (ltb rfl) rfl (tS rfl) ?_; clear hO; intro ww hO) | (refine stX hO 5 rfl rfl rfl rfl rfl (tS rfl) ?_; clear hO; intro ww hO) | (refine stC hO 5 rfl rfl rfl (ltb rfl) rfl (tS rfl) ?_; clear hO; intro ww hO)))
        refine wp_region_textS (fun w' => Own w0 w' [.blk zb (.cells (rgC (.slice a6 528 c6) s1 s2 s3) 73 (0,0))]) (fun op => match op with | .load _ _ => true | _ => false) (by kernel_rfl) (by kernel_rfl) (hO.drew.only (by simp)) ?_
        replace hO := hO.drew
        generalize World.drew _ = wd at hO ⊢
        go_wp2_with (first
          | ((with_reducible refine gBld (T := 78) ?_); refine own_bld (Tok.C ⟨0, 0, 0⟩) (by kernel_rfl) ?_)
          | ((with_reducible refine gIL ?_); first | refine wpI_ldS (fun w' hS => hS.blk 0 rfl) rfl rfl (tA rfl) (tS rfl) ?_)
          | ((with_reducible refine gStore ?_); first | (refine stX hO 0 rfl rfl rfl rfl rfl (tS rfl) ?_; clear hO; intro ww hO) | (refine stC hO 0 rfl rfl rfl (ltb rfl) rfl (tS rfl) ?_; clear hO; intro ww hO) | (refine stX hO 1 rfl rfl rfl rfl rfl (tS rfl) ?_; clear hO; intro ww hO) | (refine stC hO 1 rfl rfl rfl (ltb rfl) rfl (tS rfl) ?_; clear hO; intro ww hO) | (refine stX hO 2 rfl rfl rfl rfl rfl (tS rfl) ?_; clear hO; intro ww hO) | (refine stC hO 2 rfl rfl rfl (ltb rfl) rfl (tS rfl) ?_; clear hO; intro ww hO) | (refine stX hO 3 rfl rfl rfl rfl rfl (tS rfl) ?_; clear hO; intro ww hO) | (refine stC hO 3 rfl rfl rfl (ltb rfl) rfl (tS rfl) ?_; clear hO; intro ww hO) | (refine stX hO 4 rfl rfl rfl rfl rfl (tS rfl) ?_; clear hO; intro ww hO) | (refine stC hO 4 rfl rfl rfl (ltb rfl) rfl (tS rfl) ?_; clear hO; intro ww hO) | (refine stX hO 5 rfl rfl rfl rfl rfl (tS rfl) ?_; clear hO; intro ww hO) | (refine stC hO 5 rfl rfl rfl (ltb rfl) rfl (tS rfl) ?_; clear hO; intro ww hO))
          | ((with_reducible refine gI ?_); refine wpI_step rfl rfl (by kernel_rfl) ?_; intro K hK; have HK := Lib.hid hK; clear hK) | ((with_reducible refine gI ?_); first | refine wpI_skip rfl ?_ | refine wpI_want rfl ?_) | ((with_reducible refine gOnlyK HK.out ?_ ?_); exact hO.only (by simp); clear HK K; first | (refine wpI_act (by simp only [Act.put, List.setIfInBounds_toArray, List.set_cons_succ, List.set_cons_zero]; rfl) ?_) | skip) | (with_reducible refine wpI_nil ?_))
        refine bodyPost_ret (res_cct rfl _ _ tb _ 78 73 (Tok.C ⟨0, 0, 0⟩) (rgC (.slice a6 528 c6) s1 s2 s3) (0,0) (0,0) _ _ rfl (hO.blk 2 rfl) Tryz.underlying78 rfl its rfl (hO.blk 1 rfl) Tryz.underlying73 rfl (irg _ _ _ _)) rfl ⟨⟨0, 0, 0⟩, a6, c6, _, _, _, rfl, hO.sub (List.Sublist.cons _ (List.Sublist.cons _ (List.Sublist.cons _ (List.Sublist.cons _ (List.Sublist.cons _ (List.Sublist.refl _))))))⟩
      | some x =>
        obtain ⟨v, u⟩ := x
        dsimp only at hz
        subst hz
        obtain ⟨hv1, hv2⟩ := hl v u rfl
        have hv3 : 256 ≤ v ∧ v < 512 := by omega
        clear hl hv1 hv2
        go_enter Tryz.func50, Tryz.ntmps50
        go_wp2_with (first
          | (go_at_call 77; refine (HNX.out _ (hO.rdAt 3 rfl) (hO.rd HBR.out)).mono ?_; rintro e ww ⟨a5, c5, rfl, hb, hr⟩; replace hO := hO.addRow hb hr; clear hb hr)
          | (go_at_call 78; (with_reducible refine gCall #[_, _, .int .i64 8, _] ?_); refine (H8.out _ _ _ _ hO).mono ?_; rintro e ww ⟨a6, c6, rfl, hO2⟩; clear hO; have hO := hO2; clear hO2)
          | ((with_reducible refine gBox ?_); first | (refine bxA hO rfl ?_; clear hO; intro rb ww hO) | (refine bx1 hO rfl rfl ?_; clear hO; intro rb ww hO))
          | ((with_reducible refine gAlloc (T := 78) ?_); refine own_alloc hO _ _ itz ?_; clear hO; intro tb ww hO)
          | (((with_reducible refine gAlloc ?_); refine own_alloc hO _ _ irgz ?_; clear hO; intro zb ww hO))
          | ((with_reducible refine gLoad ?_); first | refine ldX hO 0 rfl rfl (tA rfl) (tS rfl) ?_ | refine ldC hO 0 rfl rfl (tA rfl) rfl ?_ | refine ldX hO 1 rfl rfl (tA rfl) (tS rfl) ?_ | refine ldC hO 1 rfl rfl (tA rfl) rfl ?_ | refine ldX hO 2 rfl rfl (tA rfl) (tS rfl) ?_ | refine ldC hO 2 rfl rfl (tA rfl) rfl ?_ | refine ldX hO 3 rfl rfl (tA rfl) (tS rfl) ?_ | refine ldC hO 3 rfl rfl (tA rfl) rfl ?_ | refine ldX hO 4 rfl rfl (tA rfl) (tS rfl) ?_ | refine ldC hO 4 rfl rfl (tA rfl) rfl ?_ | refine ldX hO 5 rfl rfl (tA rfl) (tS rfl) ?_ | refine ldC hO 5 rfl rfl (tA rfl) rfl ?_)
          | ((with_reducible refine gStore ?_); first | (refine stX hO 0 rfl rfl rfl rfl rfl (tS rfl) ?_; clear hO; intro ww hO) | (refine stC hO 0 rfl rfl rfl (ltb rfl) rfl (tS rfl) ?_; clear hO; intro ww hO) | (refine stX hO 1 rfl rfl rfl rfl rfl (tS rfl) ?_; clear hO; intro ww hO) | (refine stC hO 1 rfl rfl rfl (ltb rfl) rfl (tS rfl) ?_; clear hO; intro ww hO) | (refine stX hO 2 rfl rfl rfl rfl rfl (tS rfl) ?_; clear hO; intro ww hO) | (refine stC hO 2 rfl rfl rfl (ltb rfl) rfl (tS rfl) ?_; clear hO; intro ww hO) | (refine stX hO 3 rfl rfl rfl rfl rfl (tS rfl) ?_; clear hO; intro ww hO) | (refine stC hO 3 rfl rfl rfl (ltb rfl) rfl (tS rfl) ?_; clear hO; intro ww hO) | (refine stX hO 4 rfl rfl rfl rfl rfl (tS rfl) ?_; clear hO; intro ww hO) | (refine stC hO 4 rfl rfl rfl (ltb rfl) rfl (tS rfl) ?_; clear hO; intro ww hO) | (refine stX hO 5 rfl rfl rfl rfl rfl (tS rfl) ?_; clear hO; intro ww hO) | (refine stC hO 5 rfl rfl rfl (ltb rfl) rfl (tS rfl) ?_; clear hO; intro ww hO)))
        refine wp_region_textS (fun w' => Own w0 w' [.blk zb (.cells (rgC (.slice a6 528 c6) u.span u.code u.used) 73 (0,0))]) (fun op => match op with | .load _ _ => true | _ => false) (by kernel_rfl) (by kernel_rfl) (hO.drew.only (by simp)) ?_
        replace hO := hO.drew
        generalize World.drew _ = wd at hO ⊢
        go_wp2_with (first
          | ((with_reducible refine gBld (T := 78) ?_); refine own_bld (#[.int .u8 ((v : Int) - 256), .int .i64 0, .int .i64 0]) (by kernel_rfl) ?_)
          | ((with_reducible refine gIL ?_); first | refine wpI_ldS (fun w' hS => hS.blk 0 rfl) rfl rfl (tA rfl) (tS rfl) ?_)
          | ((with_reducible refine gStore ?_); first | (refine stX hO 0 rfl rfl rfl rfl rfl (tS rfl) ?_; clear hO; intro ww hO) | (refine stC hO 0 rfl rfl rfl (ltb rfl) rfl (tS rfl) ?_; clear hO; intro ww hO) | (refine stX hO 1 rfl rfl rfl rfl rfl (tS rfl) ?_; clear hO; intro ww hO) | (refine stC hO 1 rfl rfl rfl (ltb rfl) rfl (tS rfl) ?_; clear hO; intro ww hO) | (refine stX hO 2 rfl rfl rfl rfl rfl (tS rfl) ?_; clear hO; intro ww hO) | (refine stC hO 2 rfl rfl rfl (ltb rfl) rfl (tS rfl) ?_; clear hO; intro ww hO) | (refine stX hO 3 rfl rfl rfl rfl rfl (tS rfl) ?_; clear hO; intro ww hO) | (refine stC hO 3 rfl rfl rfl (ltb rfl) rfl (tS rfl) ?_; clear hO; intro ww hO) | (refine stX hO 4 rfl rfl rfl rfl rfl (tS rfl) ?_; clear hO; intro ww hO) | (refine stC hO 4 rfl rfl rfl (ltb rfl) rfl (tS rfl) ?_; clear hO; intro ww hO) | (refine stX hO 5 rfl rfl rfl rfl rfl (tS rfl) ?_; clear hO; intro ww hO) | (refine stC hO 5 rfl rfl rfl (ltb rfl) rfl (tS rfl) ?_; clear hO; intro ww hO))
          | ((with_reducible refine gI ?_); refine wpI_step rfl rfl (by kernel_rfl) ?_; intro K hK; have HK := Lib.hid hK; clear hK) | ((with_reducible refine gI ?_); first | refine wpI_skip rfl ?_ | refine wpI_want rfl ?_) | ((with_reducible refine gOnlyK HK.out ?_ ?_); exact hO.only (by simp); clear HK K; first | (refine wpI_act (by simp only [Act.put, List.setIfInBounds_toArray, List.set_cons_succ, List.set_cons_zero]; rfl) ?_) | skip) | (with_reducible refine wpI_nil ?_))
        have hC : (#[.int .u8 ((v : Int) - 256), .int .i64 0, .int .i64 0] : Array Value) = Tok.C ⟨BitVec.ofNat 8 (v - 256), 0, 0⟩ := by
          unfold Tok.C
          rw [show ((v : Int) - 256) = ((BitVec.ofNat 8 (v - 256)).toNat : Int) by simp only [BitVec.toNat_ofNat]; omega]
        rw [hC] at hO
        refine bodyPost_ret (res_cct rfl _ _ tb _ 78 73 (Tok.C ⟨BitVec.ofNat 8 (v - 256), 0, 0⟩) (rgC (.slice a6 528 c6) u.span u.code u.used) (0,0) (0,0) _ _ rfl (hO.blk 3 rfl) Tryz.underlying78 rfl its rfl (hO.blk 2 rfl) Tryz.underlying73 rfl (irg _ _ _ _)) rfl ⟨a6, c6, rfl, hO.sub (List.Sublist.cons _ (List.Sublist.cons_cons _ (List.Sublist.cons _ (List.Sublist.cons _ (List.Sublist.cons _ (List.Sublist.cons _ (List.Sublist.refl _)))))))⟩
    · rw [if_neg (by decide)] at hz
      obtain ⟨x, hx⟩ : ∃ x, Go.Pz.rn b 256 4 1 t = x := ⟨_, rfl⟩
      have H4 := Lib.hid (HTR 256 4 16 (.inl ⟨rfl, rfl⟩) (by omega) t HK x hx)
      rw [show ((4 : Nat) : Int) = 4 from rfl, show ((256 : Nat) : Int) = 256 from rfl] at H4
      have hl := fun v u (h : x = some (v, u)) => Go.Pz.rn_lt (hx.trans h)
      have hrk := fun v u (h : x = some (v, u)) => Go.Pz.rn_rok (hx.trans h) HK
      rw [hx] at hz
      clear hx HK
      cases x with
      | none =>
        dsimp only at hz
        subst hz
        clear hl hrk HTR
        go_enter Tryz.func50, Tryz.ntmps50
        go_wp2_with (first
          | (go_at_call 77; refine (HNX.out _ (hO.rdAt 3 rfl) (hO.rd HBR.out)).mono ?_; rintro e ww ⟨a5, c5, rfl, hb, hr⟩; replace hO := hO.addRow hb hr; clear hb hr)
          | (go_at_call 78; (with_reducible refine gCall #[_, _, .int .i64 4, _] ?_); refine (H4.out _ _ _ _ hO).mono ?_; rintro e ww ⟨a6, c6, s1, s2, s3, rfl, hO2⟩; clear hO; have hO := hO2; clear hO2)
          | ((with_reducible refine gBox ?_); first | (refine bxA hO rfl ?_; clear hO; intro rb ww hO) | (refine bx1 hO rfl rfl ?_; clear hO; intro rb ww hO))
          | ((with_reducible refine gAlloc (T := 78) ?_); refine own_alloc hO _ _ itz ?_; clear hO; intro tb ww hO)
          | (((with_reducible refine gAlloc ?_); refine own_alloc hO _ _ irgz ?_; clear hO; intro zb ww hO))
          | ((with_reducible refine gLoad ?_); first | refine ldX hO 0 rfl rfl (tA rfl) (tS rfl) ?_ | refine ldC hO 0 rfl rfl (tA rfl) rfl ?_ | refine ldX hO 1 rfl rfl (tA rfl) (tS rfl) ?_ | refine ldC hO 1 rfl rfl (tA rfl) rfl ?_ | refine ldX hO 2 rfl rfl (tA rfl) (tS rfl) ?_ | refine ldC hO 2 rfl rfl (tA rfl) rfl ?_ | refine ldX hO 3 rfl rfl (tA rfl) (tS rfl) ?_ | refine ldC hO 3 rfl rfl (tA rfl) rfl ?_ | refine ldX hO 4 rfl rfl (tA rfl) (tS rfl) ?_ | refine ldC hO 4 rfl rfl (tA rfl) rfl ?_ | refine ldX hO 5 rfl rfl (tA rfl) (tS rfl) ?_ | refine ldC hO 5 rfl rfl (tA rfl) rfl ?_)
          | ((with_reducible refine gStore ?_); first | (refine stX hO 0 rfl rfl rfl rfl rfl (tS rfl) ?_; clear hO; intro ww hO) | (refine stC hO 0 rfl rfl rfl (ltb rfl) rfl (tS rfl) ?_; clear hO; intro ww hO) | (refine stX hO 1 rfl rfl rfl rfl rfl (tS rfl) ?_; clear hO; intro ww hO) | (refine stC hO 1 rfl rfl rfl (ltb rfl) rfl (tS rfl) ?_; clear hO; intro ww hO) | (refine stX hO 2 rfl rfl rfl rfl rfl (tS rfl) ?_; clear hO; intro ww hO) | (refine stC hO 2 rfl rfl rfl (ltb rfl) rfl (tS rfl) ?_; clear hO; intro ww hO) | (refine stX hO 3 rfl rfl rfl rfl rfl (tS rfl) ?_; clear hO; intro ww hO) | (refine stC hO 3 rfl rfl rfl (ltb rfl) rfl (tS rfl) ?_; clear hO; intro ww hO) | (refine stX hO 4 rfl rfl rfl rfl rfl (tS rfl) ?_; clear hO; intro ww hO) | (refine stC hO 4 rfl rfl rfl (ltb rfl) rfl (tS rfl) ?_; clear hO; intro ww hO) | (refine stX hO 5 rfl rfl rfl rfl rfl (tS rfl) ?_; clear hO; intro ww hO) | (refine stC hO 5 rfl rfl rfl (ltb rfl) rfl (tS rfl) ?_; clear hO; intro ww hO)))
        refine wp_region_textS (fun w' => Own w0 w' [.blk rb (.cells (rgC (.slice a6 528 c6) s1 s2 s3) 73 (0,0))]) (fun op => match op with | .load _ _ => true | _ => false) (by kernel_rfl) (by kernel_rfl) (hO.drew.only (by simp)) ?_
        replace hO := hO.drew
        generalize World.drew _ = wd at hO ⊢
        go_wp2_with (first
          | ((with_reducible refine gBld (T := 78) ?_); refine own_bld (Tok.C ⟨0, 0, 0⟩) (by kernel_rfl) ?_)
          | ((with_reducible refine gIL ?_); first | refine wpI_ldS (fun w' hS => hS.blk 0 rfl) rfl rfl (tA rfl) (tS rfl) ?_)
          | ((with_reducible refine gStore ?_); first | (refine stX hO 0 rfl rfl rfl rfl rfl (tS rfl) ?_; clear hO; intro ww hO) | (refine stC hO 0 rfl rfl rfl (ltb rfl) rfl (tS rfl) ?_; clear hO; intro ww hO) | (refine stX hO 1 rfl rfl rfl rfl rfl (tS rfl) ?_; clear hO; intro ww hO) | (refine stC hO 1 rfl rfl rfl (ltb rfl) rfl (tS rfl) ?_; clear hO; intro ww hO) | (refine stX hO 2 rfl rfl rfl rfl rfl (tS rfl) ?_; clear hO; intro ww hO) | (refine stC hO 2 rfl rfl rfl (ltb rfl) rfl (tS rfl) ?_; clear hO; intro ww hO) | (refine stX hO 3 rfl rfl rfl rfl rfl (tS rfl) ?_; clear hO; intro ww hO) | (refine stC hO 3 rfl rfl rfl (ltb rfl) rfl (tS rfl) ?_; clear hO; intro ww hO) | (refine stX hO 4 rfl rfl rfl rfl rfl (tS rfl) ?_; clear hO; intro ww hO) | (refine stC hO 4 rfl rfl rfl (ltb rfl) rfl (tS rfl) ?_; clear hO; intro ww hO) | (refine stX hO 5 rfl rfl rfl rfl rfl (tS rfl) ?_; clear hO; intro ww hO) | (refine stC hO 5 rfl rfl rfl (ltb rfl) rfl (tS rfl) ?_; clear hO; intro ww hO))
          | ((with_reducible refine gI ?_); refine wpI_step rfl rfl (by kernel_rfl) ?_; intro K hK; have HK := Lib.hid hK; clear hK) | ((with_reducible refine gI ?_); first | refine wpI_skip rfl ?_ | refine wpI_want rfl ?_) | ((with_reducible refine gOnlyK HK.out ?_ ?_); exact hO.only (by simp); clear HK K; first | (refine wpI_act (by simp only [Act.put, List.setIfInBounds_toArray, List.set_cons_succ, List.set_cons_zero]; rfl) ?_) | skip) | (with_reducible refine wpI_nil ?_))
        refine bodyPost_ret (res_cct rfl _ _ tb _ 78 73 (Tok.C ⟨0, 0, 0⟩) (rgC (.slice a6 528 c6) s1 s2 s3) (0,0) (0,0) _ _ rfl (hO.blk 1 rfl) Tryz.underlying78 rfl its rfl (hO.blk 0 rfl) Tryz.underlying73 rfl (irg _ _ _ _)) rfl ⟨⟨0, 0, 0⟩, a6, c6, _, _, _, rfl, hO.sub (List.Sublist.cons _ (List.Sublist.cons _ (List.Sublist.cons _ (List.Sublist.cons _ (List.Sublist.refl _)))))⟩
      | some x =>
        obtain ⟨v, u⟩ := x
        dsimp only at hz
        obtain ⟨hv1, hv2⟩ := hl v u rfl
        have hv3 : 16 ≤ v ∧ v < 32 := by omega
        have HK := hrk v u rfl
        obtain ⟨y, hy⟩ : ∃ y, Go.Pz.rn b 272 8 1 u = y := ⟨_, rfl⟩
        have H8 := Lib.hid (HTR 272 8 256 (.inr ⟨rfl, rfl⟩) (by omega) u HK y hy)
        rw [show ((8 : Nat) : Int) = 8 from rfl, show ((272 : Nat) : Int) = 272 from rfl] at H8
        have hl2 := fun v u (h : y = some (v, u)) => Go.Pz.rn_lt (hy.trans h)
        rw [hy] at hz
        clear hy hl hv1 hv2 HK HTR hrk
        cases y with
        | none =>
          dsimp only at hz
          subst hz
          clear hl2
          go_enter Tryz.func50, Tryz.ntmps50
          go_wp2_with (first
            | (go_at_call 77; refine (HNX.out _ (hO.rdAt 3 rfl) (hO.rd HBR.out)).mono ?_; rintro e ww ⟨a5, c5, rfl, hb, hr⟩; replace hO := hO.addRow hb hr; clear hb hr)
            | (go_at_call 78; (with_reducible refine gCall #[_, _, .int .i64 4, _] ?_); refine (H4.out _ _ _ _ hO).mono ?_; rintro e ww ⟨a7, c7, rfl, hO2⟩; clear hO; have hO := hO2; clear hO2)
            | (go_at_call 78; (with_reducible refine gCall #[_, _, .int .i64 8, _] ?_); refine (H8.out _ _ _ _ hO).mono ?_; rintro e ww ⟨a6, c6, s1, s2, s3, rfl, hO2⟩; clear hO; have hO := hO2; clear hO2)
            | ((with_reducible refine gBox ?_); first | (refine bxA hO rfl ?_; clear hO; intro rb ww hO) | (refine bx1 hO rfl rfl ?_; clear hO; intro rb ww hO))
            | ((with_reducible refine gAlloc (T := 78) ?_); refine own_alloc hO _ _ itz ?_; clear hO; intro tb ww hO)
            | (((with_reducible refine gAlloc ?_); refine own_alloc hO _ _ irgz ?_; clear hO; intro zb ww hO))
            | ((with_reducible refine gLoad ?_); first | refine ldX hO 0 rfl rfl (tA rfl) (tS rfl) ?_ | refine ldC hO 0 rfl rfl (tA rfl) rfl ?_ | refine ldX hO 1 rfl rfl (tA rfl) (tS rfl) ?_ | refine ldC hO 1 rfl rfl (tA rfl) rfl ?_ | refine ldX hO 2 rfl rfl (tA rfl) (tS rfl) ?_ | refine ldC hO 2 rfl rfl (tA rfl) rfl ?_ | refine ldX hO 3 rfl rfl (tA rfl) (tS rfl) ?_ | refine ldC hO 3 rfl rfl (tA rfl) rfl ?_ | refine ldX hO 4 rfl rfl (tA rfl) (tS rfl) ?_ | refine ldC hO 4 rfl rfl (tA rfl) rfl ?_ | refine ldX hO 5 rfl rfl (tA rfl) (tS rfl) ?_ | refine ldC hO 5 rfl rfl (tA rfl) rfl ?_)
            | ((with_reducible refine gStore ?_); first | (refine stX hO 0 rfl rfl rfl rfl rfl (tS rfl) ?_; clear hO; intro ww hO) | (refine stC hO 0 rfl rfl rfl (ltb rfl) rfl (tS rfl) ?_; clear hO; intro ww hO) | (refine stX hO 1 rfl rfl rfl rfl rfl (tS rfl) ?_; clear hO; intro ww hO) | (refine stC hO 1 rfl rfl rfl (ltb rfl) rfl (tS rfl) ?_; clear hO; intro ww hO) | (refine stX hO 2 rfl rfl rfl rfl rfl (tS rfl) ?_; clear hO; intro ww hO) | (refine stC hO 2 rfl rfl rfl (ltb rfl) rfl (tS rfl) ?_; clear hO; intro ww hO) | (refine stX hO 3 rfl rfl rfl rfl rfl (tS rfl) ?_; clear hO; intro ww hO) | (refine stC hO 3 rfl rfl rfl (ltb rfl) rfl (tS rfl) ?_; clear hO; intro ww hO) | (refine stX hO 4 rfl rfl rfl rfl rfl (tS rfl) ?_; clear hO; intro ww hO) | (refine stC hO 4 rfl rfl rfl (ltb rfl) rfl (tS rfl) ?_; clear hO; intro ww hO) | (refine stX hO 5 rfl rfl rfl rfl rfl (tS rfl) ?_; clear hO; intro ww hO) | (refine stC hO 5 rfl rfl rfl (ltb rfl) rfl (tS rfl) ?_; clear hO; intro ww hO)))
          refine wp_region_textS (fun w' => Own w0 w' [.blk rb (.cells (rgC (.slice a6 528 c6) s1 s2 s3) 73 (0,0))]) (fun op => match op with | .load _ _ => true | _ => false) (by kernel_rfl) (by kernel_rfl) (hO.drew.only (by simp)) ?_
          replace hO := hO.drew
          generalize World.drew _ = wd at hO ⊢
          go_wp2_with (first
            | ((with_reducible refine gBld (T := 78) ?_); refine own_bld (#[.int .u8 0, .int .i64 ((v : Int) - 16 + 3), .int .i64 1]) (by kernel_rfl) ?_)
            | ((with_reducible refine gIL ?_); first | refine wpI_ldS (fun w' hS => hS.blk 0 rfl) rfl rfl (tA rfl) (tS rfl) ?_)
            | ((with_reducible refine gStore ?_); first | (refine stX hO 0 rfl rfl rfl rfl rfl (tS rfl) ?_; clear hO; intro ww hO) | (refine stC hO 0 rfl rfl rfl (ltb rfl) rfl (tS rfl) ?_; clear hO; intro ww hO) | (refine stX hO 1 rfl rfl rfl rfl rfl (tS rfl) ?_; clear hO; intro ww hO) | (refine stC hO 1 rfl rfl rfl (ltb rfl) rfl (tS rfl) ?_; clear hO; intro ww hO) | (refine stX hO 2 rfl rfl rfl rfl rfl (tS rfl) ?_; clear hO; intro ww hO) | (refine stC hO 2 rfl rfl rfl (ltb rfl) rfl (tS rfl) ?_; clear hO; intro ww hO) | (refine stX hO 3 rfl rfl rfl rfl rfl (tS rfl) ?_; clear hO; intro ww hO) | (refine stC hO 3 rfl rfl rfl (ltb rfl) rfl (tS rfl) ?_; clear hO; intro ww hO) | (refine stX hO 4 rfl rfl rfl rfl rfl (tS rfl) ?_; clear hO; intro ww hO) | (refine stC hO 4 rfl rfl rfl (ltb rfl) rfl (tS rfl) ?_; clear hO; intro ww hO) | (refine stX hO 5 rfl rfl rfl rfl rfl (tS rfl) ?_; clear hO; intro ww hO) | (refine stC hO 5 rfl rfl rfl (ltb rfl) rfl (tS rfl) ?_; clear hO; intro ww hO))
            | ((with_reducible refine gI ?_); refine wpI_step rfl rfl (by kernel_rfl) ?_; intro K hK; have HK := Lib.hid hK; clear hK) | ((with_reducible refine gI ?_); first | refine wpI_skip rfl ?_ | refine wpI_want rfl ?_) | ((with_reducible refine gOnlyK HK.out ?_ ?_); exact hO.only (by simp); clear HK K; first | (refine wpI_act (by simp only [Act.put, List.setIfInBounds_toArray, List.set_cons_succ, List.set_cons_zero]; rfl) ?_) | skip) | (with_reducible refine wpI_nil ?_))
          have hC : (#[.int .u8 0, .int .i64 ((v : Int) - 16 + 3), .int .i64 1] : Array Value) = Tok.C ⟨0, (v : Int) - 16 + 3, 1⟩ := rfl
          rw [hC] at hO
          refine bodyPost_ret (res_cct rfl _ _ tb _ 78 73 (Tok.C ⟨0, (v : Int) - 16 + 3, 1⟩) (rgC (.slice a6 528 c6) s1 s2 s3) (0,0) (0,0) _ _ rfl (hO.blk 1 rfl) Tryz.underlying78 rfl its rfl (hO.blk 0 rfl) Tryz.underlying73 rfl (irg _ _ _ _)) rfl ⟨⟨0, (v : Int) - 16 + 3, 1⟩, a6, c6, _, _, _, rfl, hO.sub (List.Sublist.cons _ (List.Sublist.cons _ (List.Sublist.cons _ (List.Sublist.cons _ (List.Sublist.refl _)))))⟩
        | some y =>
          obtain ⟨d, q⟩ := y
          dsimp only at hz
          subst hz
          obtain ⟨hd1, hd2⟩ := hl2 d q rfl
          have hd3 : 256 ≤ d ∧ d < 512 := by omega
          clear hl2 hd1 hd2
          go_enter Tryz.func50, Tryz.ntmps50
          go_wp2_with (first
            | (go_at_call 77; refine (HNX.out _ (hO.rdAt 3 rfl) (hO.rd HBR.out)).mono ?_; rintro e ww ⟨a5, c5, rfl, hb, hr⟩; replace hO := hO.addRow hb hr; clear hb hr)
            | (go_at_call 78; (with_reducible refine gCall #[_, _, .int .i64 4, _] ?_); refine (H4.out _ _ _ _ hO).mono ?_; rintro e ww ⟨a7, c7, rfl, hO2⟩; clear hO; have hO := hO2; clear hO2)
            | (go_at_call 78; (with_reducible refine gCall #[_, _, .int .i64 8, _] ?_); refine (H8.out _ _ _ _ hO).mono ?_; rintro e ww ⟨a6, c6, rfl, hO2⟩; clear hO; have hO := hO2; clear hO2)
            | ((with_reducible refine gBox ?_); first | (refine bxA hO rfl ?_; clear hO; intro rb ww hO) | (refine bx1 hO rfl rfl ?_; clear hO; intro rb ww hO))
            | ((with_reducible refine gAlloc (T := 78) ?_); refine own_alloc hO _ _ itz ?_; clear hO; intro tb ww hO)
            | (((with_reducible refine gAlloc ?_); refine own_alloc hO _ _ irgz ?_; clear hO; intro zb ww hO))
            | ((with_reducible refine gLoad ?_); first | refine ldX hO 0 rfl rfl (tA rfl) (tS rfl) ?_ | refine ldC hO 0 rfl rfl (tA rfl) rfl ?_ | refine ldX hO 1 rfl rfl (tA rfl) (tS rfl) ?_ | refine ldC hO 1 rfl rfl (tA rfl) rfl ?_ | refine ldX hO 2 rfl rfl (tA rfl) (tS rfl) ?_ | refine ldC hO 2 rfl rfl (tA rfl) rfl ?_ | refine ldX hO 3 rfl rfl (tA rfl) (tS rfl) ?_ | refine ldC hO 3 rfl rfl (tA rfl) rfl ?_ | refine ldX hO 4 rfl rfl (tA rfl) (tS rfl) ?_ | refine ldC hO 4 rfl rfl (tA rfl) rfl ?_ | refine ldX hO 5 rfl rfl (tA rfl) (tS rfl) ?_ | refine ldC hO 5 rfl rfl (tA rfl) rfl ?_)
            | ((with_reducible refine gStore ?_); first | (refine stX hO 0 rfl rfl rfl rfl rfl (tS rfl) ?_; clear hO; intro ww hO) | (refine stC hO 0 rfl rfl rfl (ltb rfl) rfl (tS rfl) ?_; clear hO; intro ww hO) | (refine stX hO 1 rfl rfl rfl rfl rfl (tS rfl) ?_; clear hO; intro ww hO) | (refine stC hO 1 rfl rfl rfl (ltb rfl) rfl (tS rfl) ?_; clear hO; intro ww hO) | (refine stX hO 2 rfl rfl rfl rfl rfl (tS rfl) ?_; clear hO; intro ww hO) | (refine stC hO 2 rfl rfl rfl (ltb rfl) rfl (tS rfl) ?_; clear hO; intro ww hO) | (refine stX hO 3 rfl rfl rfl rfl rfl (tS rfl) ?_; clear hO; intro ww hO) | (refine stC hO 3 rfl rfl rfl (ltb rfl) rfl (tS rfl) ?_; clear hO; intro ww hO) | (refine stX hO 4 rfl rfl rfl rfl rfl (tS rfl) ?_; clear hO; intro ww hO) | (refine stC hO 4 rfl rfl rfl (ltb rfl) rfl (tS rfl) ?_; clear hO; intro ww hO) | (refine stX hO 5 rfl rfl rfl rfl rfl (tS rfl) ?_; clear hO; intro ww hO) | (refine stC hO 5 rfl rfl rfl (ltb rfl) rfl (tS rfl) ?_; clear hO; intro ww hO)))
          refine wp_region_textS (fun w' => Own w0 w' [.blk rb (.cells (rgC (.slice a6 528 c6) q.span q.code q.used) 73 (0,0))]) (fun op => match op with | .load _ _ => true | _ => false) (by kernel_rfl) (by kernel_rfl) (hO.drew.only (by simp)) ?_
          replace hO := hO.drew
          generalize World.drew _ = wd at hO ⊢
          go_wp2_with (first
            | ((with_reducible refine gBld (T := 78) ?_); refine own_bld (#[.int .u8 0, .int .i64 ((v : Int) - 16 + 3), .int .i64 ((d : Int) - 256 + 1)]) (by kernel_rfl) ?_)
            | ((with_reducible refine gIL ?_); first | refine wpI_ldS (fun w' hS => hS.blk 0 rfl) rfl rfl (tA rfl) (tS rfl) ?_)
            | ((with_reducible refine gStore ?_); first | (refine stX hO 0 rfl rfl rfl rfl rfl (tS rfl) ?_; clear hO; intro ww hO) | (refine stC hO 0 rfl rfl rfl (ltb rfl) rfl (tS rfl) ?_; clear hO; intro ww hO) | (refine stX hO 1 rfl rfl rfl rfl rfl (tS rfl) ?_; clear hO; intro ww hO) | (refine stC hO 1 rfl rfl rfl (ltb rfl) rfl (tS rfl) ?_; clear hO; intro ww hO) | (refine stX hO 2 rfl rfl rfl rfl rfl (tS rfl) ?_; clear hO; intro ww hO) | (refine stC hO 2 rfl rfl rfl (ltb rfl) rfl (tS rfl) ?_; clear hO; intro ww hO) | (refine stX hO 3 rfl rfl rfl rfl rfl (tS rfl) ?_; clear hO; intro ww hO) | (refine stC hO 3 rfl rfl rfl (ltb rfl) rfl (tS rfl) ?_; clear hO; intro ww hO) | (refine stX hO 4 rfl rfl rfl rfl rfl (tS rfl) ?_; clear hO; intro ww hO) | (refine stC hO 4 rfl rfl rfl (ltb rfl) rfl (tS rfl) ?_; clear hO; intro ww hO) | (refine stX hO 5 rfl rfl rfl rfl rfl (tS rfl) ?_; clear hO; intro ww hO) | (refine stC hO 5 rfl rfl rfl (ltb rfl) rfl (tS rfl) ?_; clear hO; intro ww hO))
            | ((with_reducible refine gI ?_); refine wpI_step rfl rfl (by kernel_rfl) ?_; intro K hK; have HK := Lib.hid hK; clear hK) | ((with_reducible refine gI ?_); first | refine wpI_skip rfl ?_ | refine wpI_want rfl ?_) | ((with_reducible refine gOnlyK HK.out ?_ ?_); exact hO.only (by simp); clear HK K; first | (refine wpI_act (by simp only [Act.put, List.setIfInBounds_toArray, List.set_cons_succ, List.set_cons_zero]; rfl) ?_) | skip) | (with_reducible refine wpI_nil ?_))
          have hC : (#[.int .u8 0, .int .i64 ((v : Int) - 16 + 3), .int .i64 ((d : Int) - 256 + 1)] : Array Value) = Tok.C ⟨0, ((v - 16 + 3 : Nat) : Int), ((d - 256 + 1 : Nat) : Int)⟩ := by
            unfold Tok.C
            rw [show ((v : Int) - 16 + 3) = ((v - 16 + 3 : Nat) : Int) by omega, show ((d : Int) - 256 + 1) = ((d - 256 + 1 : Nat) : Int) by omega]
            rfl
          rw [hC] at hO
          refine bodyPost_ret (res_cct rfl _ _ tb _ 78 73 (Tok.C ⟨0, ((v - 16 + 3 : Nat) : Int), ((d - 256 + 1 : Nat) : Int)⟩) (rgC (.slice a6 528 c6) q.span q.code q.used) (0,0) (0,0) _ _ rfl (hO.blk 2 rfl) Tryz.underlying78 rfl its rfl (hO.blk 1 rfl) Tryz.underlying73 rfl (irg _ _ _ _)) rfl ⟨a6, c6, rfl, hO.sub (List.Sublist.cons_cons _ (List.Sublist.cons _ (List.Sublist.cons _ (List.Sublist.cons _ (List.Sublist.cons _ (List.Sublist.refl _))))))⟩
  · obtain rfl : 0 = a := by omega
    have h0 : ¬ Go.Kc.nxtE 528 b r ((0 : Nat) : Int) = 0 := by rw [h]; decide
    have HNX := Lib.hid (fun (w : World) hP hB => rnext_short 528 (by omega) r b hr aP cP aB m cB w hP hB hm 0 (by omega) hno)
    rw [show ((0 : Nat) : Int) = 0 from rfl] at HNX
    unfold Go.Pz.rtok at hz
    rw [if_neg h0] at hz
    subst hz
    clear h hno ha2 ha h0 hBR hr hm
    go_enter Tryz.func50, Tryz.ntmps50
    go_wp2_with (first
      | (go_at_call 77; refine (HNX.out _ (hO.rdAt 3 rfl) (hO.rd HBR.out)).mono ?_; rintro e ww ⟨rfl, hb⟩; replace hO := hO.call hb; clear hb)
      | ((with_reducible refine gBox ?_); first | (refine bxA hO rfl ?_; clear hO; intro rb ww hO) | (refine bx1 hO rfl rfl ?_; clear hO; intro rb ww hO))
      | ((with_reducible refine gAlloc (T := 78) ?_); refine own_alloc hO _ _ itz ?_; clear hO; intro tb ww hO)
      | (((with_reducible refine gAlloc ?_); refine own_alloc hO _ _ irgz ?_; clear hO; intro zb ww hO))
      | ((with_reducible refine gLoad ?_); first | refine ldX hO 0 rfl rfl (tA rfl) (tS rfl) ?_ | refine ldC hO 0 rfl rfl (tA rfl) rfl ?_ | refine ldX hO 1 rfl rfl (tA rfl) (tS rfl) ?_ | refine ldC hO 1 rfl rfl (tA rfl) rfl ?_ | refine ldX hO 2 rfl rfl (tA rfl) (tS rfl) ?_ | refine ldC hO 2 rfl rfl (tA rfl) rfl ?_ | refine ldX hO 3 rfl rfl (tA rfl) (tS rfl) ?_ | refine ldC hO 3 rfl rfl (tA rfl) rfl ?_ | refine ldX hO 4 rfl rfl (tA rfl) (tS rfl) ?_ | refine ldC hO 4 rfl rfl (tA rfl) rfl ?_ | refine ldX hO 5 rfl rfl (tA rfl) (tS rfl) ?_ | refine ldC hO 5 rfl rfl (tA rfl) rfl ?_)
      | ((with_reducible refine gStore ?_); first | (refine stX hO 0 rfl rfl rfl rfl rfl (tS rfl) ?_; clear hO; intro ww hO) | (refine stC hO 0 rfl rfl rfl (ltb rfl) rfl (tS rfl) ?_; clear hO; intro ww hO) | (refine stX hO 1 rfl rfl rfl rfl rfl (tS rfl) ?_; clear hO; intro ww hO) | (refine stC hO 1 rfl rfl rfl (ltb rfl) rfl (tS rfl) ?_; clear hO; intro ww hO) | (refine stX hO 2 rfl rfl rfl rfl rfl (tS rfl) ?_; clear hO; intro ww hO) | (refine stC hO 2 rfl rfl rfl (ltb rfl) rfl (tS rfl) ?_; clear hO; intro ww hO) | (refine stX hO 3 rfl rfl rfl rfl rfl (tS rfl) ?_; clear hO; intro ww hO) | (refine stC hO 3 rfl rfl rfl (ltb rfl) rfl (tS rfl) ?_; clear hO; intro ww hO) | (refine stX hO 4 rfl rfl rfl rfl rfl (tS rfl) ?_; clear hO; intro ww hO) | (refine stC hO 4 rfl rfl rfl (ltb rfl) rfl (tS rfl) ?_; clear hO; intro ww hO) | (refine stX hO 5 rfl rfl rfl rfl rfl (tS rfl) ?_; clear hO; intro ww hO) | (refine stC hO 5 rfl rfl rfl (ltb rfl) rfl (tS rfl) ?_; clear hO; intro ww hO)))
    refine wp_region_textS (fun w' => Own w0 w' [.blk rb (.cells (rgC (.slice aP 528 cP) r.span r.code r.used) 73 (0,0))]) (fun op => match op with | .load _ _ => true | _ => false) (by kernel_rfl) (by kernel_rfl) (hO.drew.only (by simp)) ?_
    replace hO := hO.drew
    generalize World.drew _ = wd at hO ⊢
    go_wp2_with (first
      | ((with_reducible refine gBld (T := 78) ?_); refine own_bld (Tok.C ⟨0, 0, 0⟩) (by kernel_rfl) ?_)
      | ((with_reducible refine gIL ?_); first | refine wpI_ldS (fun w' hS => hS.blk 0 rfl) rfl rfl (tA rfl) (tS rfl) ?_)
      | ((with_reducible refine gStore ?_); first | (refine stX hO 0 rfl rfl rfl rfl rfl (tS rfl) ?_; clear hO; intro ww hO) | (refine stC hO 0 rfl rfl rfl (ltb rfl) rfl (tS rfl) ?_; clear hO; intro ww hO) | (refine stX hO 1 rfl rfl rfl rfl rfl (tS rfl) ?_; clear hO; intro ww hO) | (refine stC hO 1 rfl rfl rfl (ltb rfl) rfl (tS rfl) ?_; clear hO; intro ww hO) | (refine stX hO 2 rfl rfl rfl rfl rfl (tS rfl) ?_; clear hO; intro ww hO) | (refine stC hO 2 rfl rfl rfl (ltb rfl) rfl (tS rfl) ?_; clear hO; intro ww hO) | (refine stX hO 3 rfl rfl rfl rfl rfl (tS rfl) ?_; clear hO; intro ww hO) | (refine stC hO 3 rfl rfl rfl (ltb rfl) rfl (tS rfl) ?_; clear hO; intro ww hO) | (refine stX hO 4 rfl rfl rfl rfl rfl (tS rfl) ?_; clear hO; intro ww hO) | (refine stC hO 4 rfl rfl rfl (ltb rfl) rfl (tS rfl) ?_; clear hO; intro ww hO) | (refine stX hO 5 rfl rfl rfl rfl rfl (tS rfl) ?_; clear hO; intro ww hO) | (refine stC hO 5 rfl rfl rfl (ltb rfl) rfl (tS rfl) ?_; clear hO; intro ww hO))
      | ((with_reducible refine gI ?_); refine wpI_step rfl rfl (by kernel_rfl) ?_; intro K hK; have HK := Lib.hid hK; clear hK) | ((with_reducible refine gI ?_); first | refine wpI_skip rfl ?_ | refine wpI_want rfl ?_) | ((with_reducible refine gOnlyK HK.out ?_ ?_); exact hO.only (by simp); clear HK K; first | (refine wpI_act (by simp only [Act.put, List.setIfInBounds_toArray, List.set_cons_succ, List.set_cons_zero]; rfl) ?_) | skip) | (with_reducible refine wpI_nil ?_))
    refine bodyPost_ret (res_cct rfl _ _ tb _ 78 73 (Tok.C ⟨0, 0, 0⟩) (rgC (.slice aP 528 cP) r.span r.code r.used) (0,0) (0,0) _ _ rfl (hO.blk 1 rfl) Tryz.underlying78 rfl its rfl (hO.blk 0 rfl) Tryz.underlying73 rfl (irg _ _ _ _)) rfl ⟨⟨0, 0, 0⟩, aP, cP, _, _, _, rfl, hO.tail.tail.tail.tail⟩
  · exfalso; omega
end Go.Proofs.YtniibdglodnhoaaGreatDoor

/- Walks of the document's one, size, Check, Long. -/
namespace Go.Mt
instance (t : Tok) (n : Nat) : Decidable (t.ok n) := by unfold Tok.ok; infer_instance
theorem ok_zero {t : Tok} {n : Nat} (h : t.len = 0) : decide (t.ok n) = decide (t.dist = 0) := by
  refine decide_eq_decide.2 ?_
  unfold Tok.ok
  constructor
  · rintro (h1 | h1) <;> omega
  · intro h1; exact .inl ⟨h, h1⟩
end Go.Mt
namespace Go.Own
open Go.RowKit Go.Ord
section
variable {P : Program} {ops : Array Oper} {Q : Exit → Act → World → Prop} {a : Act} {w : World} {rest : List Oper}
variable {d : Option Tmp} {ty : TypeId} {pos : String} {aft : Array Edge}
theorem gMax {args : Array Operand} {ats : Array TypeId} (h : wpList P ops Q ({ dst := d, op := .call { callee := .builtin .max, args := args, argTypes := ats }, type := ty, pos := pos, after := aft, guard := none } :: rest) a w) :
    wpList P ops Q ({ dst := d, op := .call { callee := .builtin .max, args := args, argTypes := ats }, type := ty, pos := pos, after := aft, guard := none } :: rest) a w := h
/-- 'max(x, y)' of two numbers: what it is, is told -/
theorem maxV {x y : Operand} {ats : Array TypeId} {k k' : IntKind} {m n : Int} (r : Int) (hr : (if m < n then n else m) = r) (hx : a.eval x = .int k m) (hy : a.eval y = .int k' n)
    (h : wpList P ops Q rest (a.put d (.int k r)) w) :
    wpList P ops Q ({ dst := d, op := .call { callee := .builtin .max, args := #[x, y], argTypes := ats }, type := ty, pos := pos, after := aft, guard := none } :: rest) a w := by
  refine Go.Bva.step_val ?_ h
  subst hr
  simp [execOp, invoke, resolve, builtin, hx, hy, run_max_int2]
end
end Go.Own
namespace Go.Proofs.YtniibdglodnhoaaGreatDoor
open Go.RowKit Go.Own Go.Bv Go.Ord Go.Eq Go.Mt

set_option maxHeartbeats 1000000 in
theorem rsize_calls (t : Tok) (w : World) (h0 : 0 ≤ t.len) :
    Calls Tryz.prog 94 #[.agg t.C] w fun e w' => e = .returned (.int .i64 (t.size : Nat)) ∧ Below w.heap.size w w' := by
  have hO := Own.start w
  have HS : Hid ((if t.len < 1 then 1 else t.len) = (t.size : Int)) := by
    show _ = _
    unfold Tok.size
    by_cases h : t.len = 0
    · rw [if_pos h, if_pos (by omega)]; rfl
    · rw [if_neg h, if_neg (by omega)]; omega
  generalize t.size = sz at HS ⊢
  generalize hW : w = wn at hO ⊢
  clear hW w h0
  obtain ⟨lit, len, dist⟩ := t
  dsimp only at HS
  go_enter Tryz.func94, Tryz.ntmps94
  go_wp2_with (first
    | ((with_reducible refine gBox ?_); first | (refine bxA hO rfl ?_; clear hO; intro b ww hO) | (refine bx1 hO rfl rfl ?_; clear hO; intro b ww hO))
    | ((with_reducible refine gMax ?_); refine maxV _ HS.out rfl rfl ?_)
    | ((with_reducible refine gLoad ?_); first | refine ldX hO 0 rfl rfl (tA rfl) (tS rfl) ?_ | refine ldC hO 0 rfl rfl (tA rfl) rfl ?_))
  go_ret
  exact ⟨rfl, hO.below⟩

set_option maxHeartbeats 4000000 in
set_option maxRecDepth 100000 in
theorem rone_calls (t : Tok) (M : Nat) (w : World) :
    Calls Tryz.prog 115 #[.agg t.C, .int .i64 (M : Int)] w fun e w' => e = .returned (.bool (decide (t.ok M))) ∧ Below w.heap.size w w' := by
  have hO := Own.start w
  obtain ⟨B, hB⟩ : ∃ B, decide (t.ok M) = B := ⟨_, rfl⟩
  rw [hB]
  have hl2 := lit_zero (c := t.lit)
  by_cases hz : t.len = 0
  · rw [ok_zero hz] at hB
    obtain ⟨lit, len, dist⟩ := t
    dsimp only at hz hB
    subst hz
    have hb : (dist == 0) = B := by rw [← hB, Bool.eq_iff_iff]; simp
    clear hB hl2
    have HB := Lib.hid hb
    clear hb
    generalize hW : w = wn at hO ⊢
    clear hW w
    go_enter Tryz.func115, Tryz.ntmps115
    go_wp2_with (first | ((with_reducible refine gBox ?_); first | (refine bxA hO rfl ?_; clear hO; intro b ww hO) | (refine bx1 hO rfl rfl ?_; clear hO; intro b ww hO)) | ((with_reducible refine gLoad ?_); first | refine ldX hO 0 rfl rfl (tA rfl) (tS rfl) ?_ | refine ldC hO 0 rfl rfl (tA rfl) rfl ?_))
    go_ret
    exact ⟨by rw [← HB.out]; rfl, hO.below⟩
  have e0 : (t.len == 0) = false := by simpa using hz
  have hF : ¬ t.ok M → Hid (B = false) := fun h => by show _ = _; rw [← hB]; exact decide_eq_false h
  generalize hW : w = wn at hO ⊢
  clear hW w
  by_cases c1 : 3 ≤ t.len
  · have e1 : decide (3 ≤ t.len) = true := by simpa using c1
    by_cases c2 : t.len ≤ 18
    · have e2 : decide (t.len ≤ 18) = true := by simpa using c2
      by_cases c3 : 1 ≤ t.dist
      · have e3 : decide (1 ≤ t.dist) = true := by simpa using c3
        by_cases c4 : t.dist ≤ 256
        · have e4 : decide (t.dist ≤ 256) = true := by simpa using c4
          by_cases c5 : t.lit = 0
          · have e5 : ((t.lit.toNat : Int) == 0) = true := by rw [hl2]; exact decide_eq_true c5
            by_cases c6 : t.dist ≤ (M : Int)
            · have e6 : decide (t.dist ≤ (M : Int)) = true := by simpa using c6
              have HB : Hid (B = true) := by show _ = _; rw [← hB]; exact decide_eq_true (.inr ⟨c1, c2, c3, c4, c6, c5⟩)
              obtain ⟨lit, len, dist⟩ := t
              dsimp only at *
              subst c5
              clear hF hB hl2 hz c1 c2 c3 c4 c6
              go_enter Tryz.func115, Tryz.ntmps115
              go_wp2_with (first | ((with_reducible refine gBox ?_); first | (refine bxA hO rfl ?_; clear hO; intro b ww hO) | (refine bx1 hO rfl rfl ?_; clear hO; intro b ww hO)) | ((with_reducible refine gG ?_); refine wpList_want rfl ?_) | ((with_reducible refine gLoad ?_); first | refine ldX hO 0 rfl rfl (tA rfl) (tS rfl) ?_ | refine ldC hO 0 rfl rfl (tA rfl) rfl ?_))
              go_ret
              exact ⟨by rw [HB.out]; rfl, hO.below⟩
            · have e6 : decide (t.dist ≤ (M : Int)) = false := by simpa using c6
              have HB := hF (fun h => by rcases h with h | h <;> omega)
              obtain ⟨lit, len, dist⟩ := t
              dsimp only at *
              subst c5
              clear hF hB hl2 hz c1 c2 c3 c4 c6
              go_enter Tryz.func115, Tryz.ntmps115
              go_wp2_with (first | ((with_reducible refine gBox ?_); first | (refine bxA hO rfl ?_; clear hO; intro b ww hO) | (refine bx1 hO rfl rfl ?_; clear hO; intro b ww hO)) | ((with_reducible refine gG ?_); refine wpList_want rfl ?_) | ((with_reducible refine gLoad ?_); first | refine ldX hO 0 rfl rfl (tA rfl) (tS rfl) ?_ | refine ldC hO 0 rfl rfl (tA rfl) rfl ?_))
              go_ret
              exact ⟨by rw [HB.out]; rfl, hO.below⟩
          · have e5 : ((t.lit.toNat : Int) == 0) = false := by rw [hl2]; exact decide_eq_false c5
            have HB := hF (fun h => by rcases h with h | h; omega; exact c5 h.2.2.2.2.2)
            obtain ⟨lit, len, dist⟩ := t
            dsimp only at *
            clear hF hB hl2 hz c1 c2 c3 c4 c5
            go_enter Tryz.func115, Tryz.ntmps115
            go_wp2_with (first | ((with_reducible refine gBox ?_); first | (refine bxA hO rfl ?_; clear hO; intro b ww hO) | (refine bx1 hO rfl rfl ?_; clear hO; intro b ww hO)) | ((with_reducible refine gG ?_); refine wpList_want rfl ?_) | ((with_reducible refine gLoad ?_); first | refine ldX hO 0 rfl rfl (tA rfl) (tS rfl) ?_ | refine ldC hO 0 rfl rfl (tA rfl) rfl ?_))
            go_ret
            exact ⟨by rw [HB.out]; rfl, hO.below⟩
        · have e4 : decide (t.dist ≤ 256) = false := by simpa using c4
          have HB := hF (fun h => by rcases h with h | h <;> omega)
          obtain ⟨lit, len, dist⟩ := t
          dsimp only at *
          clear hF hB hl2 hz c1 c2 c3 c4
          go_enter Tryz.func115, Tryz.ntmps115
          go_wp2_with (first | ((with_reducible refine gBox ?_); first | (refine bxA hO rfl ?_; clear hO; intro b ww hO) | (refine bx1 hO rfl rfl ?_; clear hO; intro b ww hO)) | ((with_reducible refine gG ?_); refine wpList_want rfl ?_) | ((with_reducible refine gLoad ?_); first | refine ldX hO 0 rfl rfl (tA rfl) (tS rfl) ?_ | refine ldC hO 0 rfl rfl (tA rfl) rfl ?_))
          go_ret
          exact ⟨by rw [HB.out]; rfl, hO.below⟩
      · have e3 : decide (1 ≤ t.dist) = false := by simpa using c3
        have HB := hF (fun h => by rcases h with h | h <;> omega)
        obtain ⟨lit, len, dist⟩ := t
        dsimp only at *
        clear hF hB hl2 hz c1 c2 c3
        go_enter Tryz.func115, Tryz.ntmps115
        go_wp2_with (first | ((with_reducible refine gBox ?_); first | (refine bxA hO rfl ?_; clear hO; intro b ww hO) | (refine bx1 hO rfl rfl ?_; clear hO; intro b ww hO)) | ((with_reducible refine gG ?_); refine wpList_want rfl ?_) | ((with_reducible refine gLoad ?_); first | refine ldX hO 0 rfl rfl (tA rfl) (tS rfl) ?_ | refine ldC hO 0 rfl rfl (tA rfl) rfl ?_))
        go_ret
        exact ⟨by rw [HB.out]; rfl, hO.below⟩
    · have e2 : decide (t.len ≤ 18) = false := by simpa using c2
      have HB := hF (fun h => by rcases h with h | h <;> omega)
      obtain ⟨lit, len, dist⟩ := t
      dsimp only at *
      clear hF hB hl2 hz c1 c2
      go_enter Tryz.func115, Tryz.ntmps115
      go_wp2_with (first | ((with_reducible refine gBox ?_); first | (refine bxA hO rfl ?_; clear hO; intro b ww hO) | (refine bx1 hO rfl rfl ?_; clear hO; intro b ww hO)) | ((with_reducible refine gG ?_); refine wpList_want rfl ?_) | ((with_reducible refine gLoad ?_); first | refine ldX hO 0 rfl rfl (tA rfl) (tS rfl) ?_ | refine ldC hO 0 rfl rfl (tA rfl) rfl ?_))
      go_ret
      exact ⟨by rw [HB.out]; rfl, hO.below⟩
  · have e1 : decide (3 ≤ t.len) = false := by simpa using c1
    have HB := hF (fun h => by rcases h with h | h <;> omega)
    obtain ⟨lit, len, dist⟩ := t
    dsimp only at *
    clear hF hB hl2 hz c1
    go_enter Tryz.func115, Tryz.ntmps115
    go_wp2_with (first | ((with_reducible refine gBox ?_); first | (refine bxA hO rfl ?_; clear hO; intro b ww hO) | (refine bx1 hO rfl rfl ?_; clear hO; intro b ww hO)) | ((with_reducible refine gG ?_); refine wpList_want rfl ?_) | ((with_reducible refine gLoad ?_); first | refine ldX hO 0 rfl rfl (tA rfl) (tS rfl) ?_ | refine ldC hO 0 rfl rfl (tA rfl) rfl ?_))
    go_ret
    exact ⟨by rw [HB.out]; rfl, hO.below⟩

set_option maxHeartbeats 4000000 in
set_option maxRecDepth 100000 in
theorem rcheck_calls (a : Option Addr) (n c : Nat) (l : List Tok) (w : World) (hR : Rd w 3 a n c (tks l)) (E : Int) (hok : n ≤ 65536 → okFrom 0 l → E = 0) (hno : 65536 < n ∨ ¬ okFrom 0 l → E = 1) :
    Calls Tryz.prog 95 #[.slice a n c] w fun e w' => e = .returned (.int .i64 E) ∧ Below w.heap.size w w' := by
  have hO := Own.start w
  have hl : l.length = n := by have := hR.len; rw [tks_length] at this; omega
  have HR := Lib.hid hR
  clear hR
  by_cases hn : 65536 < n
  · have d1 : decide ((65536 : Int) < (n : Int)) = true := by simp; omega
    obtain rfl := hno (.inl hn)
    generalize hW : w = wn at hO ⊢
    clear hW w hok hno hl HR
    go_enter Tryz.func95, Tryz.ntmps95
    go_wp2
    go_ret
    exact ⟨rfl, hO.below⟩
  have d1 : decide ((65536 : Int) < (n : Int)) = false := by simp; omega
  have HL := Lib.hid hl
  have HOK := Lib.hid (hok (by omega))
  have HNO : Hid (¬ okFrom 0 l → E = 1) := fun h => hno (.inr h)
  generalize hW : w = wn at hO HR ⊢
  clear hW w hok hno hl
  go_enter Tryz.func95, Tryz.ntmps95
  go_wp2
  go_loopg [3, 11] n (fun m s3 s11 wr => ∃ (k : Nat) (M : Nat), m = n - k ∧ k ≤ n ∧ s11 = .int .i64 (k : Int) ∧ s3 = .int .i64 (M : Int) ∧ M = told (l.take k) ∧ okFrom 0 (l.take k) ∧ Own wn wr [])
  case atStart => exact ⟨0, 0, rfl, by omega, rfl, rfl, rfl, by simp [okFrom], hO⟩
  case round =>
    obtain ⟨k, M, rfl, hk, rfl, rfl, hM, hF, hO1⟩ := hrel
    clear hO
    have hO := hO1
    have HM := Lib.hid hM
    have HF := Lib.hid hF
    clear hO1 hM hF
    by_cases c1 : k < n
    · have d2 : decide ((k : Int) < (n : Int)) = true := by simp; omega
      have hMb : M ≤ 18 * k := by rw [HM.out]; exact told_bound HF.out
      have hkl : k < l.length := by rw [HL.out]; exact c1
      have ht := List.getElem?_eq_getElem (l := l) (i := k) hkl
      have hok1 := okFrom_next hkl
      have hto1 := told_next hkl
      have hnot : ¬ (l[k]).ok M → ¬ okFrom 0 l := fun h h0 => h (by
        have := okFrom_take (k + 1) h0
        rw [okFrom_next hkl, ← HM.out] at this
        exact this.2)
      rw [← HM.out] at hok1 hto1
      obtain ⟨t, hte⟩ : ∃ t, l[k] = t := ⟨_, rfl⟩
      rw [hte] at ht hok1 hto1 hnot
      have hone := fun w => rone_calls t M w
      have HT := Lib.hid ht
      clear ht hte hkl
      obtain ⟨b0, off, rfl⟩ := HR.out.place (by omega)
      by_cases h0 : t.ok M
      · rw [decide_eq_true h0] at hone
        have HON := Lib.hid hone
        have hz := Tok.ok_size h0
        have HOK1 := Lib.hid (hok1.2 ⟨HF.out, h0⟩)
        have HZ := Lib.hid (fun w => rsize_calls t w (Tok.ok_len h0).1)
        obtain ⟨sz, hs⟩ : ∃ sz, t.size = sz := ⟨_, rfl⟩
        rw [hs] at HZ hz hto1
        have HTO := Lib.hid hto1
        have hw : wrap64 ((M : Int) + (sz : Int)) = ((M + sz : Nat) : Int) := by unfold wrap64; omega
        clear hok1 hto1 hnot hone h0 hs
        go_wp2_with (first
          | ((with_reducible refine gAlloc (T := 78) ?_); refine own_alloc hO _ _ itz ?_; clear hO; intro bx ww hO)
          | ((with_reducible refine gLoad (T := 78) ?_); first | refine ldX hO 0 rfl rfl (tA rfl) (tS rfl) ?_ | refine ld_tok (hO.rd HR.out) HT.out rfl (by omega) (tA rfl) (tS rfl) ?_)
          | ((with_reducible refine gStore ?_); first | (refine stX hO 0 rfl rfl rfl rfl rfl (tS rfl) ?_; clear hO; intro ww hO) | (refine stC hO 0 rfl rfl rfl (ltb rfl) rfl (tS rfl) ?_; clear hO; intro ww hO))
          | (go_at_call 115; refine (HON.out _).mono ?_; rintro e ww ⟨rfl, hb⟩; replace hO := hO.call hb; clear hb)
          | (go_at_call 94; refine (HZ.out _).mono ?_; rintro e ww ⟨rfl, hb⟩; replace hO := hO.call hb; clear hb))
        go_roundg (n - (k + 1))
        case measure => omega
        case rel => exact ⟨k + 1, M + sz, rfl, by omega, by go_num, by go_num, by rw [HTO.out], HOK1.out, hO.sub (by repeat first | exact List.Sublist.refl _ | apply List.Sublist.cons)⟩
      · rw [decide_eq_false h0] at hone
        have HON := Lib.hid hone
        have HNE := Lib.hid (HNO.out (hnot h0))
        clear hok1 hto1 hnot hone h0
        go_wp2_with (first
          | ((with_reducible refine gAlloc (T := 78) ?_); refine own_alloc hO _ _ itz ?_; clear hO; intro bx ww hO)
          | ((with_reducible refine gLoad (T := 78) ?_); first | refine ldX hO 0 rfl rfl (tA rfl) (tS rfl) ?_ | refine ld_tok (hO.rd HR.out) HT.out rfl (by omega) (tA rfl) (tS rfl) ?_)
          | ((with_reducible refine gStore ?_); first | (refine stX hO 0 rfl rfl rfl rfl rfl (tS rfl) ?_; clear hO; intro ww hO) | (refine stC hO 0 rfl rfl rfl (ltb rfl) rfl (tS rfl) ?_; clear hO; intro ww hO))
          | (go_at_call 115; refine (HON.out _).mono ?_; rintro e ww ⟨rfl, hb⟩; replace hO := hO.call hb; clear hb))
        go_ret
        exact ⟨by rw [HNE.out]; rfl, hO.below⟩
    · obtain rfl : k = n := by omega
      have HA : Hid (l.take k = l) := List.take_of_length_le (by rw [HL.out]; exact Nat.le_refl _)
      have HNE := Lib.hid (HOK.out (by have := HF.out; rwa [HA.out] at this))
      go_wp2
      go_ret
      exact ⟨by rw [HNE.out]; rfl, hO.below⟩

set_option maxHeartbeats 4000000 in
set_option maxRecDepth 100000 in
theorem rlong_calls (a : Option Addr) (n c : Nat) (l : List Tok) (w : World) (hR : Rd w 3 a n c (tks l)) (N E : Int) (hok : n ≤ 65536 → okFrom 0 l → N = told l ∧ E = 0) (hno : 65536 < n ∨ ¬ okFrom 0 l → N = 0 ∧ E = 1) :
    Calls Tryz.prog 79 #[.slice a n c] w fun e w' => e = .returned (.tuple #[.int .i64 N, .int .i64 E]) ∧ Below w.heap.size w w' := by
  have hO := Own.start w
  have hl : l.length = n := by have := hR.len; rw [tks_length] at this; omega
  have HR := Lib.hid hR
  clear hR
  by_cases hb : 65536 < n ∨ ¬ okFrom 0 l
  · obtain ⟨rfl, rfl⟩ := hno hb
    have HC := Lib.hid (fun w h => rcheck_calls a n c l w h 1 (fun h1 h2 => by rcases hb with hb | hb; omega; exact absurd h2 hb) (fun _ => rfl))
    generalize hW : w = wn at hO HR ⊢
    clear hW w hok hno hl hb
    go_enter Tryz.func79, Tryz.ntmps79
    go_wp2_with (first
      | (go_at_call 95; refine (HC.out _ (hO.rd HR.out)).mono ?_; rintro e ww ⟨rfl, hb⟩; replace hO := hO.call hb; clear hb))
    go_ret2
    exact ⟨rfl, hO.below⟩
  have hn : n ≤ 65536 := by omega
  have hF : okFrom 0 l := by
    by_cases h : okFrom 0 l
    · exact h
    · exact absurd (.inr h) hb
  obtain ⟨rfl, rfl⟩ := hok hn hF
  have HC := Lib.hid (fun w h => rcheck_calls a n c l w h 0 (fun _ _ => rfl) (fun h1 => absurd h1 hb))
  have HL := Lib.hid hl
  have HF := Lib.hid hF
  obtain ⟨N, hN⟩ : ∃ N, told l = N := ⟨_, rfl⟩
  have HN := Lib.hid hN
  rw [hN]
  generalize hW : w = wn at hO HR ⊢
  clear hW w hok hno hl hb hF hN
  go_enter Tryz.func79, Tryz.ntmps79
  go_wp2_with (first
    | (go_at_call 95; refine (HC.out _ (hO.rd HR.out)).mono ?_; rintro e ww ⟨rfl, hb⟩; replace hO := hO.call hb; clear hb))
  go_loopg [4, 12] n (fun m s4 s12 wr => ∃ (k : Nat) (M : Nat), m = n - k ∧ k ≤ n ∧ s12 = .int .i64 (k : Int) ∧ s4 = .int .i64 (M : Int) ∧ M = told (l.take k) ∧ Own wn wr [])
  case atStart => exact ⟨0, 0, rfl, by omega, rfl, rfl, rfl, hO.sub (List.nil_sublist _)⟩
  case round =>
    obtain ⟨k, M, rfl, hk, rfl, rfl, hM, hO1⟩ := hrel
    clear hO
    have hO := hO1
    have HM := Lib.hid hM
    clear hO1 hM
    by_cases c1 : k < n
    · have d2 : decide ((k : Int) < (n : Int)) = true := by simp; omega
      have hMb : M ≤ 18 * k := by rw [HM.out]; exact told_bound (okFrom_take k HF.out)
      have hkl : k < l.length := by rw [HL.out]; exact c1
      have ht := List.getElem?_eq_getElem (l := l) (i := k) hkl
      have hto1 := told_next hkl
      have h0 := ((okFrom_next hkl).1 (okFrom_take (k + 1) HF.out)).2
      rw [← HM.out] at hto1 h0
      obtain ⟨t, hte⟩ : ∃ t, l[k] = t := ⟨_, rfl⟩
      rw [hte] at ht hto1 h0
      have HT := Lib.hid ht
      clear ht hte hkl
      obtain ⟨b0, off, rfl⟩ := HR.out.place (by omega)
      have hz := Tok.ok_size h0
      have HZ := Lib.hid (fun w => rsize_calls t w (Tok.ok_len h0).1)
      obtain ⟨sz, hs⟩ : ∃ sz, t.size = sz := ⟨_, rfl⟩
      rw [hs] at HZ hz hto1
      have HTO := Lib.hid hto1
      have hw : wrap64 ((M : Int) + (sz : Int)) = ((M + sz : Nat) : Int) := by unfold wrap64; omega
      clear hto1 h0 hs
      go_wp2_with (first
        | ((with_reducible refine gAlloc (T := 78) ?_); refine own_alloc hO _ _ itz ?_; clear hO; intro bx ww hO)
        | ((with_reducible refine gLoad (T := 78) ?_); first | refine ldX hO 0 rfl rfl (tA rfl) (tS rfl) ?_ | refine ld_tok (hO.rd HR.out) HT.out rfl (by omega) (tA rfl) (tS rfl) ?_)
        | ((with_reducible refine gStore ?_); first | (refine stX hO 0 rfl rfl rfl rfl rfl (tS rfl) ?_; clear hO; intro ww hO) | (refine stC hO 0 rfl rfl rfl (ltb rfl) rfl (tS rfl) ?_; clear hO; intro ww hO))
        | (go_at_call 94; refine (HZ.out _).mono ?_; rintro e ww ⟨rfl, hb⟩; replace hO := hO.call hb; clear hb))
      go_roundg (n - (k + 1))
      case measure => omega
      case rel => exact ⟨k + 1, M + sz, rfl, by omega, by go_num, by go_num, by rw [HTO.out], hO.sub (by repeat first | exact List.Sublist.refl _ | apply List.Sublist.cons)⟩
    · obtain rfl : k = n := by omega
      have HA : Hid (l.take k = l) := List.take_of_length_le (by rw [HL.out]; exact Nat.le_refl _)
      have HNE : Hid (M = N) := by show _ = _; rw [HM.out, HA.out, HN.out]
      go_wp2
      go_ret2
      exact ⟨by rw [← HNE.out]; rfl, hO.below⟩
end Go.Proofs.YtniibdglodnhoaaGreatDoor
