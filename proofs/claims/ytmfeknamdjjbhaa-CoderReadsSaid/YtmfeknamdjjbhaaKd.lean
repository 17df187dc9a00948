/- Walk: the document's Next. -/
import Derived.Test.YtmfeknamdjjbhaaKk
import Derived.Test.YtmfeknamdjjbhaaOF
namespace Go.Proofs.Ytmfeknamdjjbhaa
open Go.RowKit Go.Own Go.Bv Go.Ord Go.Eq Go.Opn Go.Pb

set_option maxHeartbeats 2000000 in
set_option maxRecDepth 100000 in
theorem rnext_bad (x : Int) (n : Nat) (hx : x < 0 ∨ (n : Int) ≤ x) (aP : Option Addr) (cP span code used : Nat) (bS : Value) (w : World) :
    Calls Try.prog 16 #[.agg (rgC (.slice aP n cP) span code used), bS, .int .i64 x] w fun e w' => e = .returned (.tuple #[.bool false, .agg (rgC (.slice aP n cP) span code used), .int .i64 4]) ∧ Below w.heap.size w w' := by
  have hO := Own.start w
  generalize hWW : w = wn at hO ⊢
  clear hWW w
  by_cases h1 : x < 0
  · have i1 : decide (x < 0) = true := decide_eq_true h1
    clear hx h1
    go_enter Try.func16, Try.ntmps16
    go_wp2_with (first
      | ((with_reducible refine gG ?_); refine wpList_want rfl ?_)
      | ((with_reducible refine gBox ?_); first | (refine bxA hO rfl ?_; clear hO; intro rb ww hO) | (refine bx1 hO rfl rfl ?_; clear hO; intro rb ww hO))
      | ((with_reducible refine gAlloc ?_); refine own_alloc hO _ _ irgz ?_; clear hO; intro zb ww hO))
    refine wp_region_text (by kernel_rfl) (by kernel_rfl) ?_
    replace hO := hO.drew
    generalize World.drew _ = wd at hO ⊢
    go_wp2_with (first
      | ((with_reducible refine gLoad ?_); first | refine ldX hO 0 rfl rfl (tA rfl) (tS rfl) ?_ | refine ldC hO 0 rfl rfl (tA rfl) rfl ?_ | refine ldX hO 1 rfl rfl (tA rfl) (tS rfl) ?_ | refine ldC hO 1 rfl rfl (tA rfl) rfl ?_)
      | ((with_reducible refine gStore ?_); first | (refine stX hO 0 rfl rfl rfl rfl rfl (tS rfl) ?_; clear hO; intro ww hO) | (refine stC hO 0 rfl rfl rfl (ltb rfl) rfl (tS rfl) ?_; clear hO; intro ww hO) | (refine stX hO 1 rfl rfl rfl rfl rfl (tS rfl) ?_; clear hO; intro ww hO) | (refine stC hO 1 rfl rfl rfl (ltb rfl) rfl (tS rfl) ?_; clear hO; intro ww hO))
      | ((with_reducible refine gI ?_); refine wpI_step rfl rfl (by kernel_rfl) ?_; intro K hK; have HK := Lib.hid hK; clear hK) | ((with_reducible refine gI ?_); first | refine wpI_skip rfl ?_ | refine wpI_want rfl ?_) | ((with_reducible refine gOnlyK0 HK.out ?_); clear HK K; first | (refine wpI_act (by simp only [Act.put, List.setIfInBounds_toArray, List.set_cons_succ, List.set_cons_zero]; rfl) ?_) | skip) | (with_reducible refine wpI_nil ?_))
    refine bodyPost_ret (res_tct rfl _ _ zb 38 (rgC (.slice aP n cP) span code used) (0,0) _ rfl (hO.blk 0 rfl) Try.underlying38 rfl (irg _ _ _ _)) rfl ⟨rfl, hO.below⟩
  · have i1 : decide (x < 0) = false := decide_eq_false h1
    have i2 : decide ((n : Int) ≤ x) = true := decide_eq_true (by omega)
    clear hx h1
    go_enter Try.func16, Try.ntmps16
    go_wp2_with (first
      | ((with_reducible refine gG ?_); refine wpList_want rfl ?_)
      | ((with_reducible refine gBox ?_); first | (refine bxA hO rfl ?_; clear hO; intro rb ww hO) | (refine bx1 hO rfl rfl ?_; clear hO; intro rb ww hO))
      | ((with_reducible refine gAlloc ?_); refine own_alloc hO _ _ irgz ?_; clear hO; intro zb ww hO)
      | ((with_reducible refine gLoad ?_); first | refine ldX hO 0 rfl rfl (tA rfl) (tS rfl) ?_ | refine ldC hO 0 rfl rfl (tA rfl) rfl ?_ | refine ldX hO 1 rfl rfl (tA rfl) (tS rfl) ?_ | refine ldC hO 1 rfl rfl (tA rfl) rfl ?_))
    refine wp_region_text (by kernel_rfl) (by kernel_rfl) ?_
    replace hO := hO.drew
    generalize World.drew _ = wd at hO ⊢
    go_wp2_with (first
      | ((with_reducible refine gLoad ?_); first | refine ldX hO 0 rfl rfl (tA rfl) (tS rfl) ?_ | refine ldC hO 0 rfl rfl (tA rfl) rfl ?_ | refine ldX hO 1 rfl rfl (tA rfl) (tS rfl) ?_ | refine ldC hO 1 rfl rfl (tA rfl) rfl ?_)
      | ((with_reducible refine gStore ?_); first | (refine stX hO 0 rfl rfl rfl rfl rfl (tS rfl) ?_; clear hO; intro ww hO) | (refine stC hO 0 rfl rfl rfl (ltb rfl) rfl (tS rfl) ?_; clear hO; intro ww hO) | (refine stX hO 1 rfl rfl rfl rfl rfl (tS rfl) ?_; clear hO; intro ww hO) | (refine stC hO 1 rfl rfl rfl (ltb rfl) rfl (tS rfl) ?_; clear hO; intro ww hO))
      | ((with_reducible refine gI ?_); refine wpI_step rfl rfl (by kernel_rfl) ?_; intro K hK; have HK := Lib.hid hK; clear hK) | ((with_reducible refine gI ?_); first | refine wpI_skip rfl ?_ | refine wpI_want rfl ?_) | ((with_reducible refine gOnlyK0 HK.out ?_); clear HK K; first | (refine wpI_act (by simp only [Act.put, List.setIfInBounds_toArray, List.set_cons_succ, List.set_cons_zero]; rfl) ?_) | skip) | (with_reducible refine wpI_nil ?_))
    refine bodyPost_ret (res_tct rfl _ _ zb 38 (rgC (.slice aP n cP) span code used) (0,0) _ rfl (hO.blk 0 rfl) Try.underlying38 rfl (irg _ _ _ _)) rfl ⟨rfl, hO.below⟩

set_option maxHeartbeats 8000000 in
set_option maxRecDepth 100000 in
theorem rnext_ok (n : Nat) (hn : n ≤ 1024) (r : Go.Kc.Rr) (b : List (BitVec 8)) (hr : Go.Kc.Rok n b r) (aP : Option Addr) (cP : Nat) (aB : Option Addr) (m cB : Nat) (w : World) (hP : Rd w 1 aP n cP (i64s r.p)) (hBR : Rd w 1 aB m cB (u8s b)) (hm : m ≤ 10000000) (a : Nat) (ha : a < n) (hmay : r.may b a) (t : Go.Kc.Rr) (ht : r.next b a = t) :
    Calls Try.prog 16 #[.agg (rgC (.slice aP n cP) r.span r.code r.used), .slice aB m cB, .int .i64 (a : Int)] w fun e w' => ∃ a' c', e = .returned (.tuple #[.bool (r.set a), .agg (rgC (.slice a' n c') t.span t.code t.used), .int .i64 0]) ∧ Below w.heap.size w w' ∧ w'.ownsRow w.heap.size 3 1 (.slice a' n c') n (i64s t.p) := by
  have hb : b.length = m := by have := hBR.len; rw [u8s_length] at this; omega
  obtain ⟨q1, q2⟩ := Go.Kc.rok_part hr ha
  obtain ⟨q3, q4, q5, q6, q7⟩ := Go.Kc.rok_mid hr ha
  obtain ⟨k1, k2, k3, k4, k5, k6⟩ := hr
  have hmv := Go.Kc.all_get k2 (by rw [k1]; exact ha)
  rw [kc_may] at hmv
  obtain ⟨pv, hpv⟩ : ∃ pv, r.p.getD a 0 = pv := ⟨_, rfl⟩
  obtain ⟨P, hPP⟩ : ∃ P, r.part a = P := ⟨_, rfl⟩
  rw [hpv] at hmv
  rw [hPP] at q1 q2
  have hg : (i64s r.p)[a]? = some (.int .i64 pv) := by
    rw [i64s_get r.p a (by omega), ← hpv, List.getD_eq_getElem?_getD, List.getElem?_eq_getElem (by omega)]; rfl
  have hset : (i64s r.p).set a (.int .i64 (learnI pv (r.set a))) = i64s (r.mid a).p := by
    unfold Go.Kc.Rr.mid i64s
    dsimp only
    rw [List.map_set, hpv]; rfl
  have hsp : ∀ w, Calls Try.prog 32 #[.int .u32 (r.span : Int), .int .i64 pv] w fun e w' => e = .returned (.tuple #[.int .u32 (P : Int), .int .i64 0]) ∧ w = w' := fun w => by
    have h := rsplit_calls (r.span : Int) pv w (by omega) (by omega)
    have e : splitOk (r.span : Int) pv = true := by unfold splitOk; rw [hmv, decide_eq_true (by omega)]; rfl
    have e2 : splitI (r.span : Int) pv = (P : Int) := by
      have hp0 := ((mayB_iff pv).1 hmv).1
      rw [← hPP]
      unfold splitI Go.Kc.Rr.part
      rw [hpv, Int.natCast_mul, Int.natCast_ediv, Int.toNat_of_nonneg (by omega)]; rfl
    rw [e, if_pos rfl, if_pos rfl, e2] at h
    exact h
  have hln : ∀ bt w, Calls Try.prog 33 #[.int .i64 pv, .bool bt] w fun e w' => e = .returned (.tuple #[.int .i64 (learnI pv bt), .int .i64 0]) ∧ w = w' := fun bt w => by
    have h := rLearn_calls pv bt w
    rw [hmv, if_pos rfl, if_pos rfl] at h
    exact h
  have hbit : r.set a = decide (P ≤ r.code) := by rw [← hPP]; rfl
  have hm1 : (r.mid a).code = if r.set a then r.code - P else r.code := by rw [← hPP]; rfl
  have hm2 : (r.mid a).span = if r.set a then r.span - P else P := by rw [← hPP]; rfl
  have hm3 : (r.mid a).used = r.used := rfl
  have hnx : (r.mid a).norm b = t := ht
  have hmy : (r.mid a).span < 16777216 → r.used < b.length := hmay
  obtain ⟨u, hu⟩ : ∃ u, r.mid a = u := ⟨_, rfl⟩
  rw [hu] at hset hm1 hm2 hm3 q3 q4 q5 hnx hmy
  obtain ⟨used, hus⟩ : ∃ x, r.used = x := ⟨_, rfl⟩
  obtain ⟨span, hsp2⟩ : ∃ x, r.span = x := ⟨_, rfl⟩
  obtain ⟨code, hco⟩ : ∃ x, r.code = x := ⟨_, rfl⟩
  obtain ⟨C1, hC1⟩ : ∃ x, u.code = x := ⟨_, rfl⟩
  obtain ⟨Z, hZ⟩ : ∃ x, u.span = x := ⟨_, rfl⟩
  rw [hus] at hm3 k6 hmy ⊢
  rw [hsp2] at hsp hm2 q2 k3 k4 ⊢
  rw [hco] at hbit hm1 ⊢
  rw [hZ] at hm2 q3 q4 q5
  rw [hC1] at hm1 q3
  rw [hb] at k6
  rw [hbit] at hm1 hm2 hset
  have HSP := Lib.hid hsp
  have HG := Lib.hid hg
  have HM := Lib.hid hm
  have HU3 : Hid (u.used = used) := hm3
  have HC1 := Lib.hid hC1
  have HZZ := Lib.hid hZ
  have HR := Lib.hid hP
  have HBR := Lib.hid hBR
  have HBL := Lib.hid hb
  have HK1 := Lib.hid k1
  have hmax := Nat.le_trans hP.le hP.max
  unfold maxLen at hmax
  have HBD : Hid (253952 ≤ P ∧ P + 253952 ≤ span ∧ span < 4294967296 ∧ C1 < Z ∧ 253952 ≤ Z ∧ Z < 4294967296) := ⟨q1, q2, k4, q3, q4, q5⟩
  have i2 : decide ((a : Int) < 0) = false := decide_eq_false (by omega)
  have i3 : decide ((n : Int) ≤ (a : Int)) = false := decide_eq_false (by omega)
  have i4 : decide (n ≤ a) = false := decide_eq_false (by omega)
  have hPT : t.p = u.p := by rw [← hnx]; unfold Go.Kc.Rr.norm; split <;> rfl
  have HPT := Lib.hid hPT
  rw [hZ] at hmy
  have hyes : Z < 16777216 → used < m ∧ ∃ Y CN, Z * 256 = Y ∧ C1 * 256 + (b.getD used 0).toNat = CN ∧ (u8s b)[used]? = some (.int .u8 ((b.getD used 0).toNat : Int)) ∧ (b.getD used 0).toNat < 256 ∧ 16777216 ≤ Y ∧ CN < 4294967296 ∧ (Y = t.span ∧ CN = t.code ∧ used + 1 = t.used) := fun hz => by
    have hl := hmy hz
    have hxl := (b.getD used 0).isLt
    refine ⟨by omega, _, _, rfl, rfl, ?_, hxl, by omega, by omega, ?_⟩
    · rw [u8s_get b used hl]; simp [hl]
    · rw [← hnx]; unfold Go.Kc.Rr.norm; rw [if_pos (by rw [hZ]; exact hz)]; dsimp only; rw [hZ, hC1, hm3]; exact ⟨rfl, rfl, rfl⟩
  have hno : ¬ Z < 16777216 → Z = t.span ∧ C1 = t.code ∧ used = t.used := fun hz => by
    rw [← hnx]; unfold Go.Kc.Rr.norm; rw [if_neg (by rw [hZ]; exact hz), hZ, hC1, hm3]; exact ⟨rfl, rfl, rfl⟩
  generalize b.getD used 0 = xo at hyes
  have HYES := Lib.hid hyes
  have HNO := Lib.hid hno
  clear hyes hno hmy hnx hPT hmay ht
  have HBIT : Hid (r.set a = decide (P ≤ code)) := hbit
  have HO := Own.start w
  have hO := HO
  clear HO hm3 hP hBR hm k1 k2 hmv hpv hPP hg hsp hus hsp2 hco hC1 hZ hu q6 q7 q1 q2 q3 q4 q5 k3 k4 k5 hbit hb
  generalize hWW : w = wn at hO HR HBR ⊢
  clear hWW w
  by_cases hc : P ≤ code
  · have dP : decide (P ≤ code) = true := decide_eq_true hc
    have dP2 : decide ((P : Int) ≤ (code : Int)) = true := decide_eq_true (by omega)
    rw [dP] at hm1 hm2 hset
    simp only [Bool.false_eq_true, if_true, if_false] at hm1 hm2
    have HSET := Lib.hid hset
    have HLN := Lib.hid (hln true)
    have HBT : Hid (r.set a = true) := by show _ = _; rw [HBIT.out, dP]
    have a1 : IntKind.u32.wrap ((code : Int) - (P : Int)) = (C1 : Int) := by have := HBD.out; simp [IntKind.wrap, IntKind.bits, IntKind.signed]; omega
    have a2 : IntKind.u32.wrap ((span : Int) - (P : Int)) = (Z : Int) := by have := HBD.out; simp [IntKind.wrap, IntKind.bits, IntKind.signed]; omega
    clear hm1 hm2 hset hln hc HBIT
    go_enter Try.func16, Try.ntmps16
    go_wp2_with (first
      | ((with_reducible refine gG ?_); refine wpList_want rfl ?_)
      | ((with_reducible refine gBox ?_); first | (refine bxA hO rfl ?_; clear hO; intro rb ww hO) | (refine bx1 hO rfl rfl ?_; clear hO; intro rb ww hO))
      | ((with_reducible refine gAlloc ?_); refine own_alloc hO _ _ irgz ?_; clear hO; intro zb ww hO)
      | ((with_reducible refine gLoad ?_); first | refine ldX hO 0 rfl rfl (tA rfl) (tS rfl) ?_ | refine ldC hO 0 rfl rfl (tA rfl) rfl ?_ | refine ldX hO 1 rfl rfl (tA rfl) (tS rfl) ?_ | refine ldC hO 1 rfl rfl (tA rfl) rfl ?_))
    replace hO : Own wn _ [.blk zb (.cells (rgC (.slice none 0 0) 0 0 0) 38 (0,0)), .blk rb (.cells (rgC (.slice aP n cP) span code used) 38 (0,0))] := hO
    refine wp_region_float (fun w' => Own wn w' [.blk rb (.cells (rgC (.slice aP n cP) span code used) 38 (0,0))]) (fun op => match op with | .load _ _ => true | _ => false) [.n, .n, .b, .n, .n, .n, .n, .n, .n, .b, .z, .m] (by kernel_rfl) (by kernel_rfl) hO.drew.tail ?_
    dsimp only [zipF, zOf]
    replace hO := hO.drew
    generalize World.drew _ = wd at hO ⊢
    go_wp2_with (first
      | (((with_reducible refine gIL ?_); first | refine wpI_ldcS (fun w' hS => hS.blk 0 rfl) rfl rfl (tA rfl) rfl ?_); first | (refine wpI_act (by simp only [Act.put, List.setIfInBounds_toArray, List.set_cons_succ, List.set_cons_zero]; rfl) ?_) | skip)
      | ((with_reducible refine gAppendNil ?_); refine own_appendNil hO _ _ 32 ei64 rfl rfl (hO.rd HR.out) (i64s_one _) (by simp [maxLen]; omega) (by omega) ?_; clear hO; intro a1 c1 ww hO)
      | ((with_reducible refine gBld (T := 38) ?_); refine own_bld (rgC (.slice a1 n c1) span code used) (by kernel_rfl) ?_)
      | ((with_reducible refine gAlloc ?_); refine own_alloc hO _ _ irgz ?_; clear hO; intro xb ww hO)
      | ((with_reducible refine gStore ?_); first | (refine stX hO 0 rfl rfl rfl rfl rfl (tS rfl) ?_; clear hO; intro ww hO) | (refine stC hO 0 rfl rfl rfl (ltb rfl) rfl (tS rfl) ?_; clear hO; intro ww hO) | (refine stX hO 1 rfl rfl rfl rfl rfl (tS rfl) ?_; clear hO; intro ww hO) | (refine stC hO 1 rfl rfl rfl (ltb rfl) rfl (tS rfl) ?_; clear hO; intro ww hO))
      | ((with_reducible refine wpF_n ?_ ?_); exact hO.sub (by repeat first | exact List.Sublist.refl _ | apply List.Sublist.cons)) | ((with_reducible refine wpF_b ?_ ?_ ?_); exact hO.sub (by repeat first | exact List.Sublist.refl _ | apply List.Sublist.cons); dsimp only [List.map]) | ((with_reducible refine wpF_m ?_); dsimp only [List.map]) | ((with_reducible refine wpI_nilS ?_ ?_); exact hO.sub (by repeat first | exact List.Sublist.refl _ | apply List.Sublist.cons))
      | ((with_reducible refine gI ?_); refine wpI_step rfl rfl (by kernel_rfl) ?_; intro K hK; have HK := Lib.hid hK; clear hK) | ((with_reducible refine gI ?_); first | refine wpI_skip rfl ?_ | refine wpI_want rfl ?_) | ((with_reducible refine gOnlyK HK.out ?_ ?_); exact hO.sub (by repeat first | exact List.Sublist.refl _ | apply List.Sublist.cons); clear HK K; first | (refine wpI_act (by simp only [Act.put, List.setIfInBounds_toArray, List.set_cons_succ, List.set_cons_zero]; rfl) ?_) | skip) | (with_reducible refine wpI_nil ?_))
    all_goals
      (first | replace hO : Own wn _ [.blk xb (.cells (rgC (.slice a1 n c1) span code used) 38 (0,0)), .sl 3 1 (.slice a1 n c1) n (i64s r.p), .blk zb (.cells (rgC (.slice none 0 0) 0 0 0) 38 (0,0)), .blk rb (.cells (rgC (.slice aP n cP) span code used) 38 (0,0))] := hO | replace hO : Own wn _ [.blk xb (.cells (rgC (.slice a1 n c1) span code used) 38 (0,0)), .sl 3 1 (.slice a1 n c1) n (i64s r.p), .blk zb (.cells (rgC (.slice none 0 0) 0 0 0) 38 (0,0)), .blk rb (.cells (rgC (.slice aP n cP) span code used) 38 (0,0))] := hO.swap)
      obtain ⟨gP, rfl⟩ := hO.slPlace 1 rfl (by omega)
      replace hO : Own wn _ [.blk xb (.cells (rgC (.slice (some ⟨gP, 0, none⟩) n c1) span code used) 38 (0,0)), .sl 3 1 (.slice (some ⟨gP, 0, none⟩) n c1) n (i64s r.p), .blk zb (.cells (rgC (.slice none 0 0) 0 0 0) 38 (0,0)), .blk rb (.cells (rgC (.slice aP n cP) span code used) 38 (0,0))] := hO
      refine wp_region_textS (fun w' => Own wn w' [.blk xb (.cells (rgC (.slice (some ⟨gP, 0, none⟩) n c1) span code used) 38 (0,0)), .sl 3 1 (.slice (some ⟨gP, 0, none⟩) n c1) n (i64s r.p), .blk zb (.cells (rgC (.slice none 0 0) 0 0 0) 38 (0,0)), .blk rb (.cells (rgC (.slice aP n cP) span code used) 38 (0,0))]) (fun op => match op with | .load _ _ => true | _ => false) (by kernel_rfl) (by kernel_rfl) hO.drew ?_
      replace hO := hO.drew
      generalize World.drew _ = wd2 at hO ⊢
      go_wp2_with (first
        | (((with_reducible refine gIL ?_); first | refine wpI_ldcS (fun w' hS => hS.blk 0 rfl) rfl rfl (tA rfl) rfl ?_); first | (refine wpI_act (by simp only [Act.put, List.setIfInBounds_toArray, List.set_cons_succ, List.set_cons_zero]; rfl) ?_) | skip)
        | ((with_reducible refine gIL ?_); refine wpI_ld1S (fun w' hS => (hS.slCell 1 rfl (by omega)).trans HG.out) rfl rfl (tA rfl) ?_; first | (refine wpI_act (by simp only [Act.put, List.setIfInBounds_toArray, List.set_cons_succ, List.set_cons_zero]; rfl) ?_) | skip)
        | (go_at_call 32; refine (HSP.out _).mono ?_; rintro e ww ⟨rfl, rfl⟩)
        | ((with_reducible refine gLoad ?_); first | refine ldX hO 0 rfl rfl (tA rfl) (tS rfl) ?_ | refine ldC hO 0 rfl rfl (tA rfl) rfl ?_)
        | ((with_reducible refine gStore ?_); first | (refine stX hO 0 rfl rfl rfl rfl rfl (tS rfl) ?_; clear hO; intro ww hO) | (refine stC hO 0 rfl rfl rfl (ltb rfl) rfl (tS rfl) ?_; clear hO; intro ww hO))
        | ((with_reducible refine gI ?_); refine wpI_step rfl rfl (by kernel_rfl) ?_; intro K hK; have HK := Lib.hid hK; clear hK) | ((with_reducible refine gI ?_); first | refine wpI_skip rfl ?_ | refine wpI_want rfl ?_) | ((with_reducible refine gOnlyK HK.out ?_ ?_); exact hO; clear HK K; first | (refine wpI_act (by simp only [Act.put, List.setIfInBounds_toArray, List.set_cons_succ, List.set_cons_zero]; rfl) ?_) | skip) | (with_reducible refine wpI_nil ?_))
      replace hO : Own wn _ [.blk xb (.cells (rgC (.slice (some ⟨gP, 0, none⟩) n c1) Z C1 used) 38 (0,0)), .sl 3 1 (.slice (some ⟨gP, 0, none⟩) n c1) n (i64s r.p), .blk zb (.cells (rgC (.slice none 0 0) 0 0 0) 38 (0,0)), .blk rb (.cells (rgC (.slice aP n cP) span code used) 38 (0,0))] := hO
      refine wp_region_textS (fun w' => Own wn w' [.blk xb (.cells (rgC (.slice (some ⟨gP, 0, none⟩) n c1) Z C1 used) 38 (0,0))]) (fun op => match op with | .load _ (.tmp 68) => false | .load _ _ => true | _ => false) (by kernel_rfl) (by kernel_rfl) (hO.drew.only (by simp)) ?_
      replace hO := hO.drew
      generalize World.drew _ = wd3 at hO ⊢
      go_wp2_with (first
        | (((with_reducible refine gIL ?_); first | refine wpI_ldcS (fun w' hS => hS.blk 0 rfl) rfl rfl (tA rfl) rfl ?_); first | (refine wpI_act (by simp only [Act.put, List.setIfInBounds_toArray, List.set_cons_succ, List.set_cons_zero]; rfl) ?_) | skip)
        | ((with_reducible refine gLoad (T := 3) ?_); refine ld_sl hO 1 rfl rfl HG.out (tA rfl) ?_)
        | (go_at_call 33; refine (HLN.out _).mono ?_; rintro e ww ⟨rfl, rfl⟩)
        | ((with_reducible refine gStore (T := 3) ?_); refine own_setElem hO 1 3 _ _ _ rfl rfl rfl (by omega) ii64s rfl ?_; clear hO; intro ww hO)
        | ((with_reducible refine gI ?_); refine wpI_step rfl rfl (by kernel_rfl) ?_; intro K hK; have HK := Lib.hid hK; clear hK) | ((with_reducible refine gI ?_); first | refine wpI_skip rfl ?_ | refine wpI_want rfl ?_) | ((with_reducible refine gOnlyK HK.out ?_ ?_); exact hO.only (by simp); clear HK K; first | (refine wpI_act (by simp only [Act.put, List.setIfInBounds_toArray, List.set_cons_succ, List.set_cons_zero]; rfl) ?_) | skip) | (with_reducible refine wpI_nil ?_))
      replace hO : Own wn _ [.blk xb (.cells (rgC (.slice (some ⟨gP, 0, none⟩) n c1) Z C1 used) 38 (0,0)), .sl 3 1 (.slice (some ⟨gP, 0, none⟩) n c1) n ((i64s r.p).set a (.int .i64 (learnI pv true))), .blk zb (.cells (rgC (.slice none 0 0) 0 0 0) 38 (0,0)), .blk rb (.cells (rgC (.slice aP n cP) span code used) 38 (0,0))] := hO
      rw [HSET.out] at hO
      go_loopg [] 1 (fun q wr => ∃ (Zc Cc Uc : Nat), q ≤ 1 ∧ Hid (Zc < 16777216 → q = 1 ∧ Zc = Z ∧ Cc = C1 ∧ Uc = used) ∧ Hid (¬ Zc < 16777216 → Zc = t.span ∧ Cc = t.code ∧ Uc = t.used) ∧ Own wn wr [.blk xb (.cells (rgC (.slice (some ⟨gP, 0, none⟩) n c1) Zc Cc Uc) 38 (0,0)), .sl 3 1 (.slice (some ⟨gP, 0, none⟩) n c1) n (i64s u.p), .blk zb (.cells (rgC (.slice none 0 0) 0 0 0) 38 (0,0)), .blk rb (.cells (rgC (.slice aP n cP) span code used) 38 (0,0))])
      case atStart => exact ⟨Z, C1, used, by omega, fun _ => ⟨rfl, rfl, rfl, rfl⟩, HNO.out, hO⟩
      case round =>
        obtain ⟨Zc, Cc, Uc, hq, HA, HB, hO1⟩ := hrel
        clear hO
        have hO := hO1
        clear hO1
        by_cases hz : Zc < 16777216
        · obtain ⟨rfl, rfl, rfl, rfl⟩ := HA.out hz
          have d1 : decide ((Zc : Int) < 16777216) = true := decide_eq_true (by omega)
          obtain ⟨hul, Y, CN, hY, hCN, hx, hxl, hYb, hCNb, hYt⟩ := HYES.out hz
          have d2 : decide ((m : Int) ≤ (Uc : Int)) = false := decide_eq_false (by omega)
          have d3 : decide (m ≤ Uc) = false := decide_eq_false (by omega)
          obtain ⟨bb, ob, rfl⟩ := HBR.out.place (by omega)
          have e1 : IntKind.u32.wrap ((Cc : Int) * 256) = (Cc : Int) * 256 := by simp [IntKind.wrap, IntKind.bits, IntKind.signed]; omega
          have e2 : IntKind.u32.wrap (xo.toNat : Int) = (xo.toNat : Int) := by simp [IntKind.wrap, IntKind.bits, IntKind.signed]; omega
          have e3 : IntKind.u32.wrap ((Cc : Int) * 256 + (xo.toNat : Int)) = (CN : Int) := by simp [IntKind.wrap, IntKind.bits, IntKind.signed]; omega
          have e5 : IntKind.u32.wrap ((Zc : Int) * 256) = (Y : Int) := by simp [IntKind.wrap, IntKind.bits, IntKind.signed]; omega
          have hu1 : Uc ≤ 10000000 := by have := HM.out; omega
          have HX := Lib.hid hx
          have HYT := Lib.hid hYt
          have HYB : Hid (16777216 ≤ Y) := hYb
          clear hz hY hCN hx hYb hCNb hYt hxl HA HB
          go_wp2_with (first
            | ((with_reducible refine gLoad ?_); first | refine ldX hO 0 rfl rfl (tA rfl) (tS rfl) ?_ | refine ldC hO 0 rfl rfl (tA rfl) rfl ?_))
          refine wp_region_text (by kernel_rfl) (by kernel_rfl) ?_
          replace hO := hO.drew
          generalize World.drew _ = wd4 at hO ⊢
          go_wp2_with (first
            | ((with_reducible refine gLoad ?_); first | refine ldX hO 0 rfl rfl (tA rfl) (tS rfl) ?_ | refine ldC hO 0 rfl rfl (tA rfl) rfl ?_)
            | ((with_reducible refine gLoad (T := 5) ?_); refine ld_rd (hO.rd HBR.out) rfl HX.out (tA rfl) ?_)
            | ((with_reducible refine gStore ?_); first | (refine stX hO 0 rfl rfl rfl rfl rfl (tS rfl) ?_; clear hO; intro ww hO) | (refine stC hO 0 rfl rfl rfl (ltb rfl) rfl (tS rfl) ?_; clear hO; intro ww hO))
            | ((with_reducible refine gI ?_); refine wpI_step rfl rfl (by kernel_rfl) ?_; intro K hK; have HK := Lib.hid hK; clear hK) | ((with_reducible refine gI ?_); first | refine wpI_skip rfl ?_ | refine wpI_want rfl ?_) | ((with_reducible refine gOnlyK0 HK.out ?_); clear HK K; first | (refine wpI_act (by simp only [Act.put, List.setIfInBounds_toArray, List.set_cons_succ, List.set_cons_zero]; rfl) ?_) | skip) | (with_reducible refine wpI_nil ?_))
          go_roundg 0
          case measure => omega
          case rel => exact ⟨Y, CN, Uc + 1, by omega, by have := HYB.out; intro h; omega, fun _ => HYT.out, hO⟩
        · obtain ⟨rfl, rfl, rfl⟩ := HB.out hz
          have d1 : decide ((t.span : Int) < 16777216) = false := decide_eq_false (by omega)
          clear hz HA HB HYES
          go_wp2_with (first
            | ((with_reducible refine gLoad ?_); first | refine ldX hO 0 rfl rfl (tA rfl) (tS rfl) ?_ | refine ldC hO 0 rfl rfl (tA rfl) rfl ?_))
          refine wp_region_text (by kernel_rfl) (by kernel_rfl) ?_
          replace hO := hO.drew
          generalize World.drew _ = wd4 at hO ⊢
          go_wp2_with (first
            | ((with_reducible refine gLoad ?_); first | refine ldX hO 0 rfl rfl (tA rfl) (tS rfl) ?_ | refine ldC hO 0 rfl rfl (tA rfl) rfl ?_)
            | ((with_reducible refine gStore ?_); first | (refine stX hO 0 rfl rfl rfl rfl rfl (tS rfl) ?_; clear hO; intro ww hO) | (refine stC hO 0 rfl rfl rfl (ltb rfl) rfl (tS rfl) ?_; clear hO; intro ww hO) | (refine stX hO 1 rfl rfl rfl rfl rfl (tS rfl) ?_; clear hO; intro ww hO) | (refine stC hO 1 rfl rfl rfl (ltb rfl) rfl (tS rfl) ?_; clear hO; intro ww hO) | (refine stX hO 2 rfl rfl rfl rfl rfl (tS rfl) ?_; clear hO; intro ww hO) | (refine stC hO 2 rfl rfl rfl (ltb rfl) rfl (tS rfl) ?_; clear hO; intro ww hO))
            | ((with_reducible refine gI ?_); refine wpI_step rfl rfl (by kernel_rfl) ?_; intro K hK; have HK := Lib.hid hK; clear hK) | ((with_reducible refine gI ?_); first | refine wpI_skip rfl ?_ | refine wpI_want rfl ?_) | ((with_reducible refine gOnlyK0 HK.out ?_); clear HK K; first | (refine wpI_act (by simp only [Act.put, List.setIfInBounds_toArray, List.set_cons_succ, List.set_cons_zero]; rfl) ?_) | skip) | (with_reducible refine wpI_nil ?_))
          refine bodyPost_ret (res_tct rfl _ _ zb 38 (rgC (.slice (some ⟨gP, 0, none⟩) n c1) t.span t.code t.used) (0,0) _ rfl (hO.blk 2 rfl) Try.underlying38 rfl (irg _ _ _ _)) rfl ⟨some ⟨gP, 0, none⟩, c1, by rw [HBT.out]; rfl, hO.below, by rw [HPT.out]; exact hO.row 1 rfl⟩
  · have dP : decide (P ≤ code) = false := decide_eq_false hc
    have dP2 : decide ((P : Int) ≤ (code : Int)) = false := decide_eq_false (by omega)
    rw [dP] at hm1 hm2 hset
    simp only [Bool.false_eq_true, if_true, if_false] at hm1 hm2
    have HSET := Lib.hid hset
    have HLN := Lib.hid (hln false)
    have HBT : Hid (r.set a = false) := by show _ = _; rw [HBIT.out, dP]
    subst hm1
    subst hm2
    clear hset hln hc HBIT
    go_enter Try.func16, Try.ntmps16
    go_wp2_with (first
      | ((with_reducible refine gG ?_); refine wpList_want rfl ?_)
      | ((with_reducible refine gBox ?_); first | (refine bxA hO rfl ?_; clear hO; intro rb ww hO) | (refine bx1 hO rfl rfl ?_; clear hO; intro rb ww hO))
      | ((with_reducible refine gAlloc ?_); refine own_alloc hO _ _ irgz ?_; clear hO; intro zb ww hO)
      | ((with_reducible refine gLoad ?_); first | refine ldX hO 0 rfl rfl (tA rfl) (tS rfl) ?_ | refine ldC hO 0 rfl rfl (tA rfl) rfl ?_ | refine ldX hO 1 rfl rfl (tA rfl) (tS rfl) ?_ | refine ldC hO 1 rfl rfl (tA rfl) rfl ?_))
    replace hO : Own wn _ [.blk zb (.cells (rgC (.slice none 0 0) 0 0 0) 38 (0,0)), .blk rb (.cells (rgC (.slice aP n cP) span C1 used) 38 (0,0))] := hO
    refine wp_region_float (fun w' => Own wn w' [.blk rb (.cells (rgC (.slice aP n cP) span C1 used) 38 (0,0))]) (fun op => match op with | .load _ _ => true | _ => false) [.n, .n, .b, .n, .n, .n, .n, .n, .n, .b, .z, .m] (by kernel_rfl) (by kernel_rfl) hO.drew.tail ?_
    dsimp only [zipF, zOf]
    replace hO := hO.drew
    generalize World.drew _ = wd at hO ⊢
    go_wp2_with (first
      | (((with_reducible refine gIL ?_); first | refine wpI_ldcS (fun w' hS => hS.blk 0 rfl) rfl rfl (tA rfl) rfl ?_); first | (refine wpI_act (by simp only [Act.put, List.setIfInBounds_toArray, List.set_cons_succ, List.set_cons_zero]; rfl) ?_) | skip)
      | ((with_reducible refine gAppendNil ?_); refine own_appendNil hO _ _ 32 ei64 rfl rfl (hO.rd HR.out) (i64s_one _) (by simp [maxLen]; omega) (by omega) ?_; clear hO; intro a1 c1 ww hO)
      | ((with_reducible refine gBld (T := 38) ?_); refine own_bld (rgC (.slice a1 n c1) span C1 used) (by kernel_rfl) ?_)
      | ((with_reducible refine gAlloc ?_); refine own_alloc hO _ _ irgz ?_; clear hO; intro xb ww hO)
      | ((with_reducible refine gStore ?_); first | (refine stX hO 0 rfl rfl rfl rfl rfl (tS rfl) ?_; clear hO; intro ww hO) | (refine stC hO 0 rfl rfl rfl (ltb rfl) rfl (tS rfl) ?_; clear hO; intro ww hO) | (refine stX hO 1 rfl rfl rfl rfl rfl (tS rfl) ?_; clear hO; intro ww hO) | (refine stC hO 1 rfl rfl rfl (ltb rfl) rfl (tS rfl) ?_; clear hO; intro ww hO))
      | ((with_reducible refine wpF_n ?_ ?_); exact hO.sub (by repeat first | exact List.Sublist.refl _ | apply List.Sublist.cons)) | ((with_reducible refine wpF_b ?_ ?_ ?_); exact hO.sub (by repeat first | exact List.Sublist.refl _ | apply List.Sublist.cons); dsimp only [List.map]) | ((with_reducible refine wpF_m ?_); dsimp only [List.map]) | ((with_reducible refine wpI_nilS ?_ ?_); exact hO.sub (by repeat first | exact List.Sublist.refl _ | apply List.Sublist.cons))
      | ((with_reducible refine gI ?_); refine wpI_step rfl rfl (by kernel_rfl) ?_; intro K hK; have HK := Lib.hid hK; clear hK) | ((with_reducible refine gI ?_); first | refine wpI_skip rfl ?_ | refine wpI_want rfl ?_) | ((with_reducible refine gOnlyK HK.out ?_ ?_); exact hO.sub (by repeat first | exact List.Sublist.refl _ | apply List.Sublist.cons); clear HK K; first | (refine wpI_act (by simp only [Act.put, List.setIfInBounds_toArray, List.set_cons_succ, List.set_cons_zero]; rfl) ?_) | skip) | (with_reducible refine wpI_nil ?_))
    all_goals
      (first | replace hO : Own wn _ [.blk xb (.cells (rgC (.slice a1 n c1) span C1 used) 38 (0,0)), .sl 3 1 (.slice a1 n c1) n (i64s r.p), .blk zb (.cells (rgC (.slice none 0 0) 0 0 0) 38 (0,0)), .blk rb (.cells (rgC (.slice aP n cP) span C1 used) 38 (0,0))] := hO | replace hO : Own wn _ [.blk xb (.cells (rgC (.slice a1 n c1) span C1 used) 38 (0,0)), .sl 3 1 (.slice a1 n c1) n (i64s r.p), .blk zb (.cells (rgC (.slice none 0 0) 0 0 0) 38 (0,0)), .blk rb (.cells (rgC (.slice aP n cP) span C1 used) 38 (0,0))] := hO.swap)
      obtain ⟨gP, rfl⟩ := hO.slPlace 1 rfl (by omega)
      replace hO : Own wn _ [.blk xb (.cells (rgC (.slice (some ⟨gP, 0, none⟩) n c1) span C1 used) 38 (0,0)), .sl 3 1 (.slice (some ⟨gP, 0, none⟩) n c1) n (i64s r.p), .blk zb (.cells (rgC (.slice none 0 0) 0 0 0) 38 (0,0)), .blk rb (.cells (rgC (.slice aP n cP) span C1 used) 38 (0,0))] := hO
      refine wp_region_textS (fun w' => Own wn w' [.blk xb (.cells (rgC (.slice (some ⟨gP, 0, none⟩) n c1) span C1 used) 38 (0,0)), .sl 3 1 (.slice (some ⟨gP, 0, none⟩) n c1) n (i64s r.p), .blk zb (.cells (rgC (.slice none 0 0) 0 0 0) 38 (0,0)), .blk rb (.cells (rgC (.slice aP n cP) span C1 used) 38 (0,0))]) (fun op => match op with | .load _ _ => true | _ => false) (by kernel_rfl) (by kernel_rfl) hO.drew ?_
      replace hO := hO.drew
      generalize World.drew _ = wd2 at hO ⊢
      go_wp2_with (first
        | (((with_reducible refine gIL ?_); first | refine wpI_ldcS (fun w' hS => hS.blk 0 rfl) rfl rfl (tA rfl) rfl ?_); first | (refine wpI_act (by simp only [Act.put, List.setIfInBounds_toArray, List.set_cons_succ, List.set_cons_zero]; rfl) ?_) | skip)
        | ((with_reducible refine gIL ?_); refine wpI_ld1S (fun w' hS => (hS.slCell 1 rfl (by omega)).trans HG.out) rfl rfl (tA rfl) ?_; first | (refine wpI_act (by simp only [Act.put, List.setIfInBounds_toArray, List.set_cons_succ, List.set_cons_zero]; rfl) ?_) | skip)
        | (go_at_call 32; refine (HSP.out _).mono ?_; rintro e ww ⟨rfl, rfl⟩)
        | ((with_reducible refine gLoad ?_); first | refine ldX hO 0 rfl rfl (tA rfl) (tS rfl) ?_ | refine ldC hO 0 rfl rfl (tA rfl) rfl ?_)
        | ((with_reducible refine gStore ?_); first | (refine stX hO 0 rfl rfl rfl rfl rfl (tS rfl) ?_; clear hO; intro ww hO) | (refine stC hO 0 rfl rfl rfl (ltb rfl) rfl (tS rfl) ?_; clear hO; intro ww hO))
        | ((with_reducible refine gI ?_); refine wpI_step rfl rfl (by kernel_rfl) ?_; intro K hK; have HK := Lib.hid hK; clear hK) | ((with_reducible refine gI ?_); first | refine wpI_skip rfl ?_ | refine wpI_want rfl ?_) | ((with_reducible refine gOnlyK HK.out ?_ ?_); exact hO; clear HK K; first | (refine wpI_act (by simp only [Act.put, List.setIfInBounds_toArray, List.set_cons_succ, List.set_cons_zero]; rfl) ?_) | skip) | (with_reducible refine wpI_nil ?_))
      replace hO : Own wn _ [.blk xb (.cells (rgC (.slice (some ⟨gP, 0, none⟩) n c1) Z C1 used) 38 (0,0)), .sl 3 1 (.slice (some ⟨gP, 0, none⟩) n c1) n (i64s r.p), .blk zb (.cells (rgC (.slice none 0 0) 0 0 0) 38 (0,0)), .blk rb (.cells (rgC (.slice aP n cP) span C1 used) 38 (0,0))] := hO
      refine wp_region_textS (fun w' => Own wn w' [.blk xb (.cells (rgC (.slice (some ⟨gP, 0, none⟩) n c1) Z C1 used) 38 (0,0))]) (fun op => match op with | .load _ (.tmp 68) => false | .load _ _ => true | _ => false) (by kernel_rfl) (by kernel_rfl) (hO.drew.only (by simp)) ?_
      replace hO := hO.drew
      generalize World.drew _ = wd3 at hO ⊢
      go_wp2_with (first
        | (((with_reducible refine gIL ?_); first | refine wpI_ldcS (fun w' hS => hS.blk 0 rfl) rfl rfl (tA rfl) rfl ?_); first | (refine wpI_act (by simp only [Act.put, List.setIfInBounds_toArray, List.set_cons_succ, List.set_cons_zero]; rfl) ?_) | skip)
        | ((with_reducible refine gLoad (T := 3) ?_); refine ld_sl hO 1 rfl rfl HG.out (tA rfl) ?_)
        | (go_at_call 33; refine (HLN.out _).mono ?_; rintro e ww ⟨rfl, rfl⟩)
        | ((with_reducible refine gStore (T := 3) ?_); refine own_setElem hO 1 3 _ _ _ rfl rfl rfl (by omega) ii64s rfl ?_; clear hO; intro ww hO)
        | ((with_reducible refine gI ?_); refine wpI_step rfl rfl (by kernel_rfl) ?_; intro K hK; have HK := Lib.hid hK; clear hK) | ((with_reducible refine gI ?_); first | refine wpI_skip rfl ?_ | refine wpI_want rfl ?_) | ((with_reducible refine gOnlyK HK.out ?_ ?_); exact hO.only (by simp); clear HK K; first | (refine wpI_act (by simp only [Act.put, List.setIfInBounds_toArray, List.set_cons_succ, List.set_cons_zero]; rfl) ?_) | skip) | (with_reducible refine wpI_nil ?_))
      replace hO : Own wn _ [.blk xb (.cells (rgC (.slice (some ⟨gP, 0, none⟩) n c1) Z C1 used) 38 (0,0)), .sl 3 1 (.slice (some ⟨gP, 0, none⟩) n c1) n ((i64s r.p).set a (.int .i64 (learnI pv false))), .blk zb (.cells (rgC (.slice none 0 0) 0 0 0) 38 (0,0)), .blk rb (.cells (rgC (.slice aP n cP) span C1 used) 38 (0,0))] := hO
      rw [HSET.out] at hO
      go_loopg [] 1 (fun q wr => ∃ (Zc Cc Uc : Nat), q ≤ 1 ∧ Hid (Zc < 16777216 → q = 1 ∧ Zc = Z ∧ Cc = C1 ∧ Uc = used) ∧ Hid (¬ Zc < 16777216 → Zc = t.span ∧ Cc = t.code ∧ Uc = t.used) ∧ Own wn wr [.blk xb (.cells (rgC (.slice (some ⟨gP, 0, none⟩) n c1) Zc Cc Uc) 38 (0,0)), .sl 3 1 (.slice (some ⟨gP, 0, none⟩) n c1) n (i64s u.p), .blk zb (.cells (rgC (.slice none 0 0) 0 0 0) 38 (0,0)), .blk rb (.cells (rgC (.slice aP n cP) span C1 used) 38 (0,0))])
      case atStart => exact ⟨Z, C1, used, by omega, fun _ => ⟨rfl, rfl, rfl, rfl⟩, HNO.out, hO⟩
      case round =>
        obtain ⟨Zc, Cc, Uc, hq, HA, HB, hO1⟩ := hrel
        clear hO
        have hO := hO1
        clear hO1
        by_cases hz : Zc < 16777216
        · obtain ⟨rfl, rfl, rfl, rfl⟩ := HA.out hz
          have d1 : decide ((Zc : Int) < 16777216) = true := decide_eq_true (by omega)
          obtain ⟨hul, Y, CN, hY, hCN, hx, hxl, hYb, hCNb, hYt⟩ := HYES.out hz
          have d2 : decide ((m : Int) ≤ (Uc : Int)) = false := decide_eq_false (by omega)
          have d3 : decide (m ≤ Uc) = false := decide_eq_false (by omega)
          obtain ⟨bb, ob, rfl⟩ := HBR.out.place (by omega)
          have e1 : IntKind.u32.wrap ((Cc : Int) * 256) = (Cc : Int) * 256 := by simp [IntKind.wrap, IntKind.bits, IntKind.signed]; omega
          have e2 : IntKind.u32.wrap (xo.toNat : Int) = (xo.toNat : Int) := by simp [IntKind.wrap, IntKind.bits, IntKind.signed]; omega
          have e3 : IntKind.u32.wrap ((Cc : Int) * 256 + (xo.toNat : Int)) = (CN : Int) := by simp [IntKind.wrap, IntKind.bits, IntKind.signed]; omega
          have e5 : IntKind.u32.wrap ((Zc : Int) * 256) = (Y : Int) := by simp [IntKind.wrap, IntKind.bits, IntKind.signed]; omega
          have hu1 : Uc ≤ 10000000 := by have := HM.out; omega
          have HX := Lib.hid hx
          have HYT := Lib.hid hYt
          have HYB : Hid (16777216 ≤ Y) := hYb
          clear hz hY hCN hx hYb hCNb hYt hxl HA HB
          go_wp2_with (first
            | ((with_reducible refine gLoad ?_); first | refine ldX hO 0 rfl rfl (tA rfl) (tS rfl) ?_ | refine ldC hO 0 rfl rfl (tA rfl) rfl ?_))
          refine wp_region_text (by kernel_rfl) (by kernel_rfl) ?_
          replace hO := hO.drew
          generalize World.drew _ = wd4 at hO ⊢
          go_wp2_with (first
            | ((with_reducible refine gLoad ?_); first | refine ldX hO 0 rfl rfl (tA rfl) (tS rfl) ?_ | refine ldC hO 0 rfl rfl (tA rfl) rfl ?_)
            | ((with_reducible refine gLoad (T := 5) ?_); refine ld_rd (hO.rd HBR.out) rfl HX.out (tA rfl) ?_)
            | ((with_reducible refine gStore ?_); first | (refine stX hO 0 rfl rfl rfl rfl rfl (tS rfl) ?_; clear hO; intro ww hO) | (refine stC hO 0 rfl rfl rfl (ltb rfl) rfl (tS rfl) ?_; clear hO; intro ww hO))
            | ((with_reducible refine gI ?_); refine wpI_step rfl rfl (by kernel_rfl) ?_; intro K hK; have HK := Lib.hid hK; clear hK) | ((with_reducible refine gI ?_); first | refine wpI_skip rfl ?_ | refine wpI_want rfl ?_) | ((with_reducible refine gOnlyK0 HK.out ?_); clear HK K; first | (refine wpI_act (by simp only [Act.put, List.setIfInBounds_toArray, List.set_cons_succ, List.set_cons_zero]; rfl) ?_) | skip) | (with_reducible refine wpI_nil ?_))
          go_roundg 0
          case measure => omega
          case rel => exact ⟨Y, CN, Uc + 1, by omega, by have := HYB.out; intro h; omega, fun _ => HYT.out, hO⟩
        · obtain ⟨rfl, rfl, rfl⟩ := HB.out hz
          have d1 : decide ((t.span : Int) < 16777216) = false := decide_eq_false (by omega)
          clear hz HA HB HYES
          go_wp2_with (first
            | ((with_reducible refine gLoad ?_); first | refine ldX hO 0 rfl rfl (tA rfl) (tS rfl) ?_ | refine ldC hO 0 rfl rfl (tA rfl) rfl ?_))
          refine wp_region_text (by kernel_rfl) (by kernel_rfl) ?_
          replace hO := hO.drew
          generalize World.drew _ = wd4 at hO ⊢
          go_wp2_with (first
            | ((with_reducible refine gLoad ?_); first | refine ldX hO 0 rfl rfl (tA rfl) (tS rfl) ?_ | refine ldC hO 0 rfl rfl (tA rfl) rfl ?_)
            | ((with_reducible refine gStore ?_); first | (refine stX hO 0 rfl rfl rfl rfl rfl (tS rfl) ?_; clear hO; intro ww hO) | (refine stC hO 0 rfl rfl rfl (ltb rfl) rfl (tS rfl) ?_; clear hO; intro ww hO) | (refine stX hO 1 rfl rfl rfl rfl rfl (tS rfl) ?_; clear hO; intro ww hO) | (refine stC hO 1 rfl rfl rfl (ltb rfl) rfl (tS rfl) ?_; clear hO; intro ww hO) | (refine stX hO 2 rfl rfl rfl rfl rfl (tS rfl) ?_; clear hO; intro ww hO) | (refine stC hO 2 rfl rfl rfl (ltb rfl) rfl (tS rfl) ?_; clear hO; intro ww hO))
            | ((with_reducible refine gI ?_); refine wpI_step rfl rfl (by kernel_rfl) ?_; intro K hK; have HK := Lib.hid hK; clear hK) | ((with_reducible refine gI ?_); first | refine wpI_skip rfl ?_ | refine wpI_want rfl ?_) | ((with_reducible refine gOnlyK0 HK.out ?_); clear HK K; first | (refine wpI_act (by simp only [Act.put, List.setIfInBounds_toArray, List.set_cons_succ, List.set_cons_zero]; rfl) ?_) | skip) | (with_reducible refine wpI_nil ?_))
          refine bodyPost_ret (res_tct rfl _ _ zb 38 (rgC (.slice (some ⟨gP, 0, none⟩) n c1) t.span t.code t.used) (0,0) _ rfl (hO.blk 2 rfl) Try.underlying38 rfl (irg _ _ _ _)) rfl ⟨some ⟨gP, 0, none⟩, c1, by rw [HBT.out]; rfl, hO.below, by rw [HPT.out]; exact hO.row 1 rfl⟩

set_option maxHeartbeats 8000000 in
set_option maxRecDepth 100000 in
theorem rnext_short (n : Nat) (hn : n ≤ 1024) (r : Go.Kc.Rr) (b : List (BitVec 8)) (hr : Go.Kc.Rok n b r) (aP : Option Addr) (cP : Nat) (aB : Option Addr) (m cB : Nat) (w : World) (hP : Rd w 1 aP n cP (i64s r.p)) (hBR : Rd w 1 aB m cB (u8s b)) (hm : m ≤ 10000000) (a : Nat) (ha : a < n) (hmay : ¬ r.may b a) :
    Calls Try.prog 16 #[.agg (rgC (.slice aP n cP) r.span r.code r.used), .slice aB m cB, .int .i64 (a : Int)] w fun e w' => e = .returned (.tuple #[.bool false, .agg (rgC (.slice aP n cP) r.span r.code r.used), .int .i64 2]) ∧ Below w.heap.size w w' := by
  have hb : b.length = m := by have := hBR.len; rw [u8s_length] at this; omega
  obtain ⟨q1, q2⟩ := Go.Kc.rok_part hr ha
  obtain ⟨q3, q4, q5, q6, q7⟩ := Go.Kc.rok_mid hr ha
  obtain ⟨k1, k2, k3, k4, k5, k6⟩ := hr
  have hmv := Go.Kc.all_get k2 (by rw [k1]; exact ha)
  rw [kc_may] at hmv
  obtain ⟨pv, hpv⟩ : ∃ pv, r.p.getD a 0 = pv := ⟨_, rfl⟩
  obtain ⟨P, hPP⟩ : ∃ P, r.part a = P := ⟨_, rfl⟩
  rw [hpv] at hmv
  rw [hPP] at q1 q2
  have hg : (i64s r.p)[a]? = some (.int .i64 pv) := by
    rw [i64s_get r.p a (by omega), ← hpv, List.getD_eq_getElem?_getD, List.getElem?_eq_getElem (by omega)]; rfl
  have hset : (i64s r.p).set a (.int .i64 (learnI pv (r.set a))) = i64s (r.mid a).p := by
    unfold Go.Kc.Rr.mid i64s
    dsimp only
    rw [List.map_set, hpv]; rfl
  have hsp : ∀ w, Calls Try.prog 32 #[.int .u32 (r.span : Int), .int .i64 pv] w fun e w' => e = .returned (.tuple #[.int .u32 (P : Int), .int .i64 0]) ∧ w = w' := fun w => by
    have h := rsplit_calls (r.span : Int) pv w (by omega) (by omega)
    have e : splitOk (r.span : Int) pv = true := by unfold splitOk; rw [hmv, decide_eq_true (by omega)]; rfl
    have e2 : splitI (r.span : Int) pv = (P : Int) := by
      have hp0 := ((mayB_iff pv).1 hmv).1
      rw [← hPP]
      unfold splitI Go.Kc.Rr.part
      rw [hpv, Int.natCast_mul, Int.natCast_ediv, Int.toNat_of_nonneg (by omega)]; rfl
    rw [e, if_pos rfl, if_pos rfl, e2] at h
    exact h
  have hln : ∀ bt w, Calls Try.prog 33 #[.int .i64 pv, .bool bt] w fun e w' => e = .returned (.tuple #[.int .i64 (learnI pv bt), .int .i64 0]) ∧ w = w' := fun bt w => by
    have h := rLearn_calls pv bt w
    rw [hmv, if_pos rfl, if_pos rfl] at h
    exact h
  have hbit : r.set a = decide (P ≤ r.code) := by rw [← hPP]; rfl
  have hm1 : (r.mid a).code = if r.set a then r.code - P else r.code := by rw [← hPP]; rfl
  have hm2 : (r.mid a).span = if r.set a then r.span - P else P := by rw [← hPP]; rfl
  have hm3 : (r.mid a).used = r.used := rfl
  have hs2 : (r.mid a).span < 16777216 ∧ b.length ≤ r.used := by
    have h := hmay
    rw [Go.Kc.may_iff] at h
    exact Classical.not_not.1 h
  obtain ⟨u, hu⟩ : ∃ u, r.mid a = u := ⟨_, rfl⟩
  rw [hu] at hset hm1 hm2 hm3 q3 q4 q5 hs2
  obtain ⟨used, hus⟩ : ∃ x, r.used = x := ⟨_, rfl⟩
  obtain ⟨span, hsp2⟩ : ∃ x, r.span = x := ⟨_, rfl⟩
  obtain ⟨code, hco⟩ : ∃ x, r.code = x := ⟨_, rfl⟩
  obtain ⟨C1, hC1⟩ : ∃ x, u.code = x := ⟨_, rfl⟩
  obtain ⟨Z, hZ⟩ : ∃ x, u.span = x := ⟨_, rfl⟩
  rw [hus] at hm3 k6 hs2 ⊢
  rw [hsp2] at hsp hm2 q2 k3 k4 ⊢
  rw [hco] at hbit hm1 ⊢
  rw [hZ] at hm2 q3 q4 q5
  rw [hC1] at hm1 q3
  rw [hb] at k6
  rw [hbit] at hm1 hm2 hset
  have HSP := Lib.hid hsp
  have HG := Lib.hid hg
  have HM := Lib.hid hm
  have HU3 : Hid (u.used = used) := hm3
  have HC1 := Lib.hid hC1
  have HZZ := Lib.hid hZ
  have HR := Lib.hid hP
  have HBR := Lib.hid hBR
  have HBL := Lib.hid hb
  have HK1 := Lib.hid k1
  have hmax := Nat.le_trans hP.le hP.max
  unfold maxLen at hmax
  have HBD : Hid (253952 ≤ P ∧ P + 253952 ≤ span ∧ span < 4294967296 ∧ C1 < Z ∧ 253952 ≤ Z ∧ Z < 4294967296) := ⟨q1, q2, k4, q3, q4, q5⟩
  have i2 : decide ((a : Int) < 0) = false := decide_eq_false (by omega)
  have i3 : decide ((n : Int) ≤ (a : Int)) = false := decide_eq_false (by omega)
  have i4 : decide (n ≤ a) = false := decide_eq_false (by omega)
  rw [hZ, hb] at hs2
  have HNO := Lib.hid hs2
  clear hs2 hmay
  have HBIT : Hid (r.set a = decide (P ≤ code)) := hbit
  have HO := Own.start w
  have hO := HO
  clear HO hm3 hP hBR hm k1 k2 hmv hpv hPP hg hsp hus hsp2 hco hC1 hZ hu q6 q7 q1 q2 q3 q4 q5 k3 k4 k5 hbit hb
  generalize hWW : w = wn at hO HR HBR ⊢
  clear hWW w
  by_cases hc : P ≤ code
  · have dP : decide (P ≤ code) = true := decide_eq_true hc
    have dP2 : decide ((P : Int) ≤ (code : Int)) = true := decide_eq_true (by omega)
    rw [dP] at hm1 hm2 hset
    simp only [Bool.false_eq_true, if_true, if_false] at hm1 hm2
    have HSET := Lib.hid hset
    have HLN := Lib.hid (hln true)
    have HBT : Hid (r.set a = true) := by show _ = _; rw [HBIT.out, dP]
    have a1 : IntKind.u32.wrap ((code : Int) - (P : Int)) = (C1 : Int) := by have := HBD.out; simp [IntKind.wrap, IntKind.bits, IntKind.signed]; omega
    have a2 : IntKind.u32.wrap ((span : Int) - (P : Int)) = (Z : Int) := by have := HBD.out; simp [IntKind.wrap, IntKind.bits, IntKind.signed]; omega
    clear hm1 hm2 hset hln hc HBIT
    go_enter Try.func16, Try.ntmps16
    go_wp2_with (first
      | ((with_reducible refine gG ?_); refine wpList_want rfl ?_)
      | ((with_reducible refine gBox ?_); first | (refine bxA hO rfl ?_; clear hO; intro rb ww hO) | (refine bx1 hO rfl rfl ?_; clear hO; intro rb ww hO))
      | ((with_reducible refine gAlloc ?_); refine own_alloc hO _ _ irgz ?_; clear hO; intro zb ww hO)
      | ((with_reducible refine gLoad ?_); first | refine ldX hO 0 rfl rfl (tA rfl) (tS rfl) ?_ | refine ldC hO 0 rfl rfl (tA rfl) rfl ?_ | refine ldX hO 1 rfl rfl (tA rfl) (tS rfl) ?_ | refine ldC hO 1 rfl rfl (tA rfl) rfl ?_))
    replace hO : Own wn _ [.blk zb (.cells (rgC (.slice none 0 0) 0 0 0) 38 (0,0)), .blk rb (.cells (rgC (.slice aP n cP) span code used) 38 (0,0))] := hO
    refine wp_region_float (fun w' => Own wn w' [.blk rb (.cells (rgC (.slice aP n cP) span code used) 38 (0,0))]) (fun op => match op with | .load _ _ => true | _ => false) [.n, .n, .b, .n, .n, .n, .n, .n, .n, .b, .z, .m] (by kernel_rfl) (by kernel_rfl) hO.drew.tail ?_
    dsimp only [zipF, zOf]
    replace hO := hO.drew
    generalize World.drew _ = wd at hO ⊢
    go_wp2_with (first
      | (((with_reducible refine gIL ?_); first | refine wpI_ldcS (fun w' hS => hS.blk 0 rfl) rfl rfl (tA rfl) rfl ?_); first | (refine wpI_act (by simp only [Act.put, List.setIfInBounds_toArray, List.set_cons_succ, List.set_cons_zero]; rfl) ?_) | skip)
      | ((with_reducible refine gAppendNil ?_); refine own_appendNil hO _ _ 32 ei64 rfl rfl (hO.rd HR.out) (i64s_one _) (by simp [maxLen]; omega) (by omega) ?_; clear hO; intro a1 c1 ww hO)
      | ((with_reducible refine gBld (T := 38) ?_); refine own_bld (rgC (.slice a1 n c1) span code used) (by kernel_rfl) ?_)
      | ((with_reducible refine gAlloc ?_); refine own_alloc hO _ _ irgz ?_; clear hO; intro xb ww hO)
      | ((with_reducible refine gStore ?_); first | (refine stX hO 0 rfl rfl rfl rfl rfl (tS rfl) ?_; clear hO; intro ww hO) | (refine stC hO 0 rfl rfl rfl (ltb rfl) rfl (tS rfl) ?_; clear hO; intro ww hO) | (refine stX hO 1 rfl rfl rfl rfl rfl (tS rfl) ?_; clear hO; intro ww hO) | (refine stC hO 1 rfl rfl rfl (ltb rfl) rfl (tS rfl) ?_; clear hO; intro ww hO))
      | ((with_reducible refine wpF_n ?_ ?_); exact hO.sub (by repeat first | exact List.Sublist.refl _ | apply List.Sublist.cons)) | ((with_reducible refine wpF_b ?_ ?_ ?_); exact hO.sub (by repeat first | exact List.Sublist.refl _ | apply List.Sublist.cons); dsimp only [List.map]) | ((with_reducible refine wpF_m ?_); dsimp only [List.map]) | ((with_reducible refine wpI_nilS ?_ ?_); exact hO.sub (by repeat first | exact List.Sublist.refl _ | apply List.Sublist.cons))
      | ((with_reducible refine gI ?_); refine wpI_step rfl rfl (by kernel_rfl) ?_; intro K hK; have HK := Lib.hid hK; clear hK) | ((with_reducible refine gI ?_); first | refine wpI_skip rfl ?_ | refine wpI_want rfl ?_) | ((with_reducible refine gOnlyK HK.out ?_ ?_); exact hO.sub (by repeat first | exact List.Sublist.refl _ | apply List.Sublist.cons); clear HK K; first | (refine wpI_act (by simp only [Act.put, List.setIfInBounds_toArray, List.set_cons_succ, List.set_cons_zero]; rfl) ?_) | skip) | (with_reducible refine wpI_nil ?_))
    all_goals
      (first | replace hO : Own wn _ [.blk xb (.cells (rgC (.slice a1 n c1) span code used) 38 (0,0)), .sl 3 1 (.slice a1 n c1) n (i64s r.p), .blk zb (.cells (rgC (.slice none 0 0) 0 0 0) 38 (0,0)), .blk rb (.cells (rgC (.slice aP n cP) span code used) 38 (0,0))] := hO | replace hO : Own wn _ [.blk xb (.cells (rgC (.slice a1 n c1) span code used) 38 (0,0)), .sl 3 1 (.slice a1 n c1) n (i64s r.p), .blk zb (.cells (rgC (.slice none 0 0) 0 0 0) 38 (0,0)), .blk rb (.cells (rgC (.slice aP n cP) span code used) 38 (0,0))] := hO.swap)
      obtain ⟨gP, rfl⟩ := hO.slPlace 1 rfl (by omega)
      replace hO : Own wn _ [.blk xb (.cells (rgC (.slice (some ⟨gP, 0, none⟩) n c1) span code used) 38 (0,0)), .sl 3 1 (.slice (some ⟨gP, 0, none⟩) n c1) n (i64s r.p), .blk zb (.cells (rgC (.slice none 0 0) 0 0 0) 38 (0,0)), .blk rb (.cells (rgC (.slice aP n cP) span code used) 38 (0,0))] := hO
      refine wp_region_textS (fun w' => Own wn w' [.blk xb (.cells (rgC (.slice (some ⟨gP, 0, none⟩) n c1) span code used) 38 (0,0)), .sl 3 1 (.slice (some ⟨gP, 0, none⟩) n c1) n (i64s r.p), .blk zb (.cells (rgC (.slice none 0 0) 0 0 0) 38 (0,0)), .blk rb (.cells (rgC (.slice aP n cP) span code used) 38 (0,0))]) (fun op => match op with | .load _ _ => true | _ => false) (by kernel_rfl) (by kernel_rfl) hO.drew ?_
      replace hO := hO.drew
      generalize World.drew _ = wd2 at hO ⊢
      go_wp2_with (first
        | (((with_reducible refine gIL ?_); first | refine wpI_ldcS (fun w' hS => hS.blk 0 rfl) rfl rfl (tA rfl) rfl ?_); first | (refine wpI_act (by simp only [Act.put, List.setIfInBounds_toArray, List.set_cons_succ, List.set_cons_zero]; rfl) ?_) | skip)
        | ((with_reducible refine gIL ?_); refine wpI_ld1S (fun w' hS => (hS.slCell 1 rfl (by omega)).trans HG.out) rfl rfl (tA rfl) ?_; first | (refine wpI_act (by simp only [Act.put, List.setIfInBounds_toArray, List.set_cons_succ, List.set_cons_zero]; rfl) ?_) | skip)
        | (go_at_call 32; refine (HSP.out _).mono ?_; rintro e ww ⟨rfl, rfl⟩)
        | ((with_reducible refine gLoad ?_); first | refine ldX hO 0 rfl rfl (tA rfl) (tS rfl) ?_ | refine ldC hO 0 rfl rfl (tA rfl) rfl ?_)
        | ((with_reducible refine gStore ?_); first | (refine stX hO 0 rfl rfl rfl rfl rfl (tS rfl) ?_; clear hO; intro ww hO) | (refine stC hO 0 rfl rfl rfl (ltb rfl) rfl (tS rfl) ?_; clear hO; intro ww hO))
        | ((with_reducible refine gI ?_); refine wpI_step rfl rfl (by kernel_rfl) ?_; intro K hK; have HK := Lib.hid hK; clear hK) | ((with_reducible refine gI ?_); first | refine wpI_skip rfl ?_ | refine wpI_want rfl ?_) | ((with_reducible refine gOnlyK HK.out ?_ ?_); exact hO; clear HK K; first | (refine wpI_act (by simp only [Act.put, List.setIfInBounds_toArray, List.set_cons_succ, List.set_cons_zero]; rfl) ?_) | skip) | (with_reducible refine wpI_nil ?_))
      replace hO : Own wn _ [.blk xb (.cells (rgC (.slice (some ⟨gP, 0, none⟩) n c1) Z C1 used) 38 (0,0)), .sl 3 1 (.slice (some ⟨gP, 0, none⟩) n c1) n (i64s r.p), .blk zb (.cells (rgC (.slice none 0 0) 0 0 0) 38 (0,0)), .blk rb (.cells (rgC (.slice aP n cP) span code used) 38 (0,0))] := hO
      refine wp_region_textS (fun w' => Own wn w' [.blk xb (.cells (rgC (.slice (some ⟨gP, 0, none⟩) n c1) Z C1 used) 38 (0,0))]) (fun op => match op with | .load _ (.tmp 68) => false | .load _ _ => true | _ => false) (by kernel_rfl) (by kernel_rfl) (hO.drew.only (by simp)) ?_
      replace hO := hO.drew
      generalize World.drew _ = wd3 at hO ⊢
      go_wp2_with (first
        | (((with_reducible refine gIL ?_); first | refine wpI_ldcS (fun w' hS => hS.blk 0 rfl) rfl rfl (tA rfl) rfl ?_); first | (refine wpI_act (by simp only [Act.put, List.setIfInBounds_toArray, List.set_cons_succ, List.set_cons_zero]; rfl) ?_) | skip)
        | ((with_reducible refine gLoad (T := 3) ?_); refine ld_sl hO 1 rfl rfl HG.out (tA rfl) ?_)
        | (go_at_call 33; refine (HLN.out _).mono ?_; rintro e ww ⟨rfl, rfl⟩)
        | ((with_reducible refine gStore (T := 3) ?_); refine own_setElem hO 1 3 _ _ _ rfl rfl rfl (by omega) ii64s rfl ?_; clear hO; intro ww hO)
        | ((with_reducible refine gI ?_); refine wpI_step rfl rfl (by kernel_rfl) ?_; intro K hK; have HK := Lib.hid hK; clear hK) | ((with_reducible refine gI ?_); first | refine wpI_skip rfl ?_ | refine wpI_want rfl ?_) | ((with_reducible refine gOnlyK HK.out ?_ ?_); exact hO.only (by simp); clear HK K; first | (refine wpI_act (by simp only [Act.put, List.setIfInBounds_toArray, List.set_cons_succ, List.set_cons_zero]; rfl) ?_) | skip) | (with_reducible refine wpI_nil ?_))
      replace hO : Own wn _ [.blk xb (.cells (rgC (.slice (some ⟨gP, 0, none⟩) n c1) Z C1 used) 38 (0,0)), .sl 3 1 (.slice (some ⟨gP, 0, none⟩) n c1) n ((i64s r.p).set a (.int .i64 (learnI pv true))), .blk zb (.cells (rgC (.slice none 0 0) 0 0 0) 38 (0,0)), .blk rb (.cells (rgC (.slice aP n cP) span code used) 38 (0,0))] := hO
      rw [HSET.out] at hO
      have d1 : decide ((Z : Int) < 16777216) = true := decide_eq_true (by have := HNO.out; omega)
      go_loopg [] 1 (fun q wr => q ≤ 1 ∧ Own wn wr [.blk xb (.cells (rgC (.slice (some ⟨gP, 0, none⟩) n c1) Z C1 used) 38 (0,0)), .sl 3 1 (.slice (some ⟨gP, 0, none⟩) n c1) n (i64s u.p), .blk zb (.cells (rgC (.slice none 0 0) 0 0 0) 38 (0,0)), .blk rb (.cells (rgC (.slice aP n cP) span code used) 38 (0,0))])
      case atStart => exact ⟨by omega, hO⟩
      case round =>
        obtain ⟨hq, hO1⟩ := hrel
        clear hO
        have hO := hO1
        clear hO1
        have d2 : decide ((m : Int) ≤ (used : Int)) = true := decide_eq_true (by have := HNO.out; omega)
        have d3 : decide (m ≤ used) = true := decide_eq_true (by have := HNO.out; omega)
        go_wp2_with (first
          | ((with_reducible refine gLoad ?_); first | refine ldX hO 0 rfl rfl (tA rfl) (tS rfl) ?_ | refine ldC hO 0 rfl rfl (tA rfl) rfl ?_))
        refine wp_region_text (by kernel_rfl) (by kernel_rfl) ?_
        replace hO := hO.drew
        generalize World.drew _ = wd4 at hO ⊢
        go_wp2_with (first
          | ((with_reducible refine gLoad ?_); first | refine ldX hO 0 rfl rfl (tA rfl) (tS rfl) ?_ | refine ldC hO 0 rfl rfl (tA rfl) rfl ?_ | refine ldX hO 1 rfl rfl (tA rfl) (tS rfl) ?_ | refine ldC hO 1 rfl rfl (tA rfl) rfl ?_ | refine ldX hO 2 rfl rfl (tA rfl) (tS rfl) ?_ | refine ldC hO 2 rfl rfl (tA rfl) rfl ?_ | refine ldX hO 3 rfl rfl (tA rfl) (tS rfl) ?_ | refine ldC hO 3 rfl rfl (tA rfl) rfl ?_)
          | ((with_reducible refine gStore ?_); first | (refine stX hO 0 rfl rfl rfl rfl rfl (tS rfl) ?_; clear hO; intro ww hO) | (refine stC hO 0 rfl rfl rfl (ltb rfl) rfl (tS rfl) ?_; clear hO; intro ww hO) | (refine stX hO 1 rfl rfl rfl rfl rfl (tS rfl) ?_; clear hO; intro ww hO) | (refine stC hO 1 rfl rfl rfl (ltb rfl) rfl (tS rfl) ?_; clear hO; intro ww hO) | (refine stX hO 2 rfl rfl rfl rfl rfl (tS rfl) ?_; clear hO; intro ww hO) | (refine stC hO 2 rfl rfl rfl (ltb rfl) rfl (tS rfl) ?_; clear hO; intro ww hO))
          | ((with_reducible refine gI ?_); refine wpI_step rfl rfl (by kernel_rfl) ?_; intro K hK; have HK := Lib.hid hK; clear hK) | ((with_reducible refine gI ?_); first | refine wpI_skip rfl ?_ | refine wpI_want rfl ?_) | ((with_reducible refine gOnlyK0 HK.out ?_); clear HK K; first | (refine wpI_act (by simp only [Act.put, List.setIfInBounds_toArray, List.set_cons_succ, List.set_cons_zero]; rfl) ?_) | skip) | (with_reducible refine wpI_nil ?_))
        refine bodyPost_ret (res_tct rfl _ _ zb 38 (rgC (.slice aP n cP) span code used) (0,0) _ rfl (hO.blk 2 rfl) Try.underlying38 rfl (irg _ _ _ _)) rfl ⟨rfl, hO.below⟩
  · have dP : decide (P ≤ code) = false := decide_eq_false hc
    have dP2 : decide ((P : Int) ≤ (code : Int)) = false := decide_eq_false (by omega)
    rw [dP] at hm1 hm2 hset
    simp only [Bool.false_eq_true, if_true, if_false] at hm1 hm2
    have HSET := Lib.hid hset
    have HLN := Lib.hid (hln false)
    have HBT : Hid (r.set a = false) := by show _ = _; rw [HBIT.out, dP]
    subst hm1
    subst hm2
    clear hset hln hc HBIT
    go_enter Try.func16, Try.ntmps16
    go_wp2_with (first
      | ((with_reducible refine gG ?_); refine wpList_want rfl ?_)
      | ((with_reducible refine gBox ?_); first | (refine bxA hO rfl ?_; clear hO; intro rb ww hO) | (refine bx1 hO rfl rfl ?_; clear hO; intro rb ww hO))
      | ((with_reducible refine gAlloc ?_); refine own_alloc hO _ _ irgz ?_; clear hO; intro zb ww hO)
      | ((with_reducible refine gLoad ?_); first | refine ldX hO 0 rfl rfl (tA rfl) (tS rfl) ?_ | refine ldC hO 0 rfl rfl (tA rfl) rfl ?_ | refine ldX hO 1 rfl rfl (tA rfl) (tS rfl) ?_ | refine ldC hO 1 rfl rfl (tA rfl) rfl ?_))
    replace hO : Own wn _ [.blk zb (.cells (rgC (.slice none 0 0) 0 0 0) 38 (0,0)), .blk rb (.cells (rgC (.slice aP n cP) span C1 used) 38 (0,0))] := hO
    refine wp_region_float (fun w' => Own wn w' [.blk rb (.cells (rgC (.slice aP n cP) span C1 used) 38 (0,0))]) (fun op => match op with | .load _ _ => true | _ => false) [.n, .n, .b, .n, .n, .n, .n, .n, .n, .b, .z, .m] (by kernel_rfl) (by kernel_rfl) hO.drew.tail ?_
    dsimp only [zipF, zOf]
    replace hO := hO.drew
    generalize World.drew _ = wd at hO ⊢
    go_wp2_with (first
      | (((with_reducible refine gIL ?_); first | refine wpI_ldcS (fun w' hS => hS.blk 0 rfl) rfl rfl (tA rfl) rfl ?_); first | (refine wpI_act (by simp only [Act.put, List.setIfInBounds_toArray, List.set_cons_succ, List.set_cons_zero]; rfl) ?_) | skip)
      | ((with_reducible refine gAppendNil ?_); refine own_appendNil hO _ _ 32 ei64 rfl rfl (hO.rd HR.out) (i64s_one _) (by simp [maxLen]; omega) (by omega) ?_; clear hO; intro a1 c1 ww hO)
      | ((with_reducible refine gBld (T := 38) ?_); refine own_bld (rgC (.slice a1 n c1) span C1 used) (by kernel_rfl) ?_)
      | ((with_reducible refine gAlloc ?_); refine own_alloc hO _ _ irgz ?_; clear hO; intro xb ww hO)
      | ((with_reducible refine gStore ?_); first | (refine stX hO 0 rfl rfl rfl rfl rfl (tS rfl) ?_; clear hO; intro ww hO) | (refine stC hO 0 rfl rfl rfl (ltb rfl) rfl (tS rfl) ?_; clear hO; intro ww hO) | (refine stX hO 1 rfl rfl rfl rfl rfl (tS rfl) ?_; clear hO; intro ww hO) | (refine stC hO 1 rfl rfl rfl (ltb rfl) rfl (tS rfl) ?_; clear hO; intro ww hO))
      | ((with_reducible refine wpF_n ?_ ?_); exact hO.sub (by repeat first | exact List.Sublist.refl _ | apply List.Sublist.cons)) | ((with_reducible refine wpF_b ?_ ?_ ?_); exact hO.sub (by repeat first | exact List.Sublist.refl _ | apply List.Sublist.cons); dsimp only [List.map]) | ((with_reducible refine wpF_m ?_); dsimp only [List.map]) | ((with_reducible refine wpI_nilS ?_ ?_); exact hO.sub (by repeat first | exact List.Sublist.refl _ | apply List.Sublist.cons))
      | ((with_reducible refine gI ?_); refine wpI_step rfl rfl (by kernel_rfl) ?_; intro K hK; have HK := Lib.hid hK; clear hK) | ((with_reducible refine gI ?_); first | refine wpI_skip rfl ?_ | refine wpI_want rfl ?_) | ((with_reducible refine gOnlyK HK.out ?_ ?_); exact hO.sub (by repeat first | exact List.Sublist.refl _ | apply List.Sublist.cons); clear HK K; first | (refine wpI_act (by simp only [Act.put, List.setIfInBounds_toArray, List.set_cons_succ, List.set_cons_zero]; rfl) ?_) | skip) | (with_reducible refine wpI_nil ?_))
    all_goals
      (first | replace hO : Own wn _ [.blk xb (.cells (rgC (.slice a1 n c1) span C1 used) 38 (0,0)), .sl 3 1 (.slice a1 n c1) n (i64s r.p), .blk zb (.cells (rgC (.slice none 0 0) 0 0 0) 38 (0,0)), .blk rb (.cells (rgC (.slice aP n cP) span C1 used) 38 (0,0))] := hO | replace hO : Own wn _ [.blk xb (.cells (rgC (.slice a1 n c1) span C1 used) 38 (0,0)), .sl 3 1 (.slice a1 n c1) n (i64s r.p), .blk zb (.cells (rgC (.slice none 0 0) 0 0 0) 38 (0,0)), .blk rb (.cells (rgC (.slice aP n cP) span C1 used) 38 (0,0))] := hO.swap)
      obtain ⟨gP, rfl⟩ := hO.slPlace 1 rfl (by omega)
      replace hO : Own wn _ [.blk xb (.cells (rgC (.slice (some ⟨gP, 0, none⟩) n c1) span C1 used) 38 (0,0)), .sl 3 1 (.slice (some ⟨gP, 0, none⟩) n c1) n (i64s r.p), .blk zb (.cells (rgC (.slice none 0 0) 0 0 0) 38 (0,0)), .blk rb (.cells (rgC (.slice aP n cP) span C1 used) 38 (0,0))] := hO
      refine wp_region_textS (fun w' => Own wn w' [.blk xb (.cells (rgC (.slice (some ⟨gP, 0, none⟩) n c1) span C1 used) 38 (0,0)), .sl 3 1 (.slice (some ⟨gP, 0, none⟩) n c1) n (i64s r.p), .blk zb (.cells (rgC (.slice none 0 0) 0 0 0) 38 (0,0)), .blk rb (.cells (rgC (.slice aP n cP) span C1 used) 38 (0,0))]) (fun op => match op with | .load _ _ => true | _ => false) (by kernel_rfl) (by kernel_rfl) hO.drew ?_
      replace hO := hO.drew
      generalize World.drew _ = wd2 at hO ⊢
      go_wp2_with (first
        | (((with_reducible refine gIL ?_); first | refine wpI_ldcS (fun w' hS => hS.blk 0 rfl) rfl rfl (tA rfl) rfl ?_); first | (refine wpI_act (by simp only [Act.put, List.setIfInBounds_toArray, List.set_cons_succ, List.set_cons_zero]; rfl) ?_) | skip)
        | ((with_reducible refine gIL ?_); refine wpI_ld1S (fun w' hS => (hS.slCell 1 rfl (by omega)).trans HG.out) rfl rfl (tA rfl) ?_; first | (refine wpI_act (by simp only [Act.put, List.setIfInBounds_toArray, List.set_cons_succ, List.set_cons_zero]; rfl) ?_) | skip)
        | (go_at_call 32; refine (HSP.out _).mono ?_; rintro e ww ⟨rfl, rfl⟩)
        | ((with_reducible refine gLoad ?_); first | refine ldX hO 0 rfl rfl (tA rfl) (tS rfl) ?_ | refine ldC hO 0 rfl rfl (tA rfl) rfl ?_)
        | ((with_reducible refine gStore ?_); first | (refine stX hO 0 rfl rfl rfl rfl rfl (tS rfl) ?_; clear hO; intro ww hO) | (refine stC hO 0 rfl rfl rfl (ltb rfl) rfl (tS rfl) ?_; clear hO; intro ww hO))
        | ((with_reducible refine gI ?_); refine wpI_step rfl rfl (by kernel_rfl) ?_; intro K hK; have HK := Lib.hid hK; clear hK) | ((with_reducible refine gI ?_); first | refine wpI_skip rfl ?_ | refine wpI_want rfl ?_) | ((with_reducible refine gOnlyK HK.out ?_ ?_); exact hO; clear HK K; first | (refine wpI_act (by simp only [Act.put, List.setIfInBounds_toArray, List.set_cons_succ, List.set_cons_zero]; rfl) ?_) | skip) | (with_reducible refine wpI_nil ?_))
      replace hO : Own wn _ [.blk xb (.cells (rgC (.slice (some ⟨gP, 0, none⟩) n c1) Z C1 used) 38 (0,0)), .sl 3 1 (.slice (some ⟨gP, 0, none⟩) n c1) n (i64s r.p), .blk zb (.cells (rgC (.slice none 0 0) 0 0 0) 38 (0,0)), .blk rb (.cells (rgC (.slice aP n cP) span C1 used) 38 (0,0))] := hO
      refine wp_region_textS (fun w' => Own wn w' [.blk xb (.cells (rgC (.slice (some ⟨gP, 0, none⟩) n c1) Z C1 used) 38 (0,0))]) (fun op => match op with | .load _ (.tmp 68) => false | .load _ _ => true | _ => false) (by kernel_rfl) (by kernel_rfl) (hO.drew.only (by simp)) ?_
      replace hO := hO.drew
      generalize World.drew _ = wd3 at hO ⊢
      go_wp2_with (first
        | (((with_reducible refine gIL ?_); first | refine wpI_ldcS (fun w' hS => hS.blk 0 rfl) rfl rfl (tA rfl) rfl ?_); first | (refine wpI_act (by simp only [Act.put, List.setIfInBounds_toArray, List.set_cons_succ, List.set_cons_zero]; rfl) ?_) | skip)
        | ((with_reducible refine gLoad (T := 3) ?_); refine ld_sl hO 1 rfl rfl HG.out (tA rfl) ?_)
        | (go_at_call 33; refine (HLN.out _).mono ?_; rintro e ww ⟨rfl, rfl⟩)
        | ((with_reducible refine gStore (T := 3) ?_); refine own_setElem hO 1 3 _ _ _ rfl rfl rfl (by omega) ii64s rfl ?_; clear hO; intro ww hO)
        | ((with_reducible refine gI ?_); refine wpI_step rfl rfl (by kernel_rfl) ?_; intro K hK; have HK := Lib.hid hK; clear hK) | ((with_reducible refine gI ?_); first | refine wpI_skip rfl ?_ | refine wpI_want rfl ?_) | ((with_reducible refine gOnlyK HK.out ?_ ?_); exact hO.only (by simp); clear HK K; first | (refine wpI_act (by simp only [Act.put, List.setIfInBounds_toArray, List.set_cons_succ, List.set_cons_zero]; rfl) ?_) | skip) | (with_reducible refine wpI_nil ?_))
      replace hO : Own wn _ [.blk xb (.cells (rgC (.slice (some ⟨gP, 0, none⟩) n c1) Z C1 used) 38 (0,0)), .sl 3 1 (.slice (some ⟨gP, 0, none⟩) n c1) n ((i64s r.p).set a (.int .i64 (learnI pv false))), .blk zb (.cells (rgC (.slice none 0 0) 0 0 0) 38 (0,0)), .blk rb (.cells (rgC (.slice aP n cP) span C1 used) 38 (0,0))] := hO
      rw [HSET.out] at hO
      have d1 : decide ((Z : Int) < 16777216) = true := decide_eq_true (by have := HNO.out; omega)
      go_loopg [] 1 (fun q wr => q ≤ 1 ∧ Own wn wr [.blk xb (.cells (rgC (.slice (some ⟨gP, 0, none⟩) n c1) Z C1 used) 38 (0,0)), .sl 3 1 (.slice (some ⟨gP, 0, none⟩) n c1) n (i64s u.p), .blk zb (.cells (rgC (.slice none 0 0) 0 0 0) 38 (0,0)), .blk rb (.cells (rgC (.slice aP n cP) span C1 used) 38 (0,0))])
      case atStart => exact ⟨by omega, hO⟩
      case round =>
        obtain ⟨hq, hO1⟩ := hrel
        clear hO
        have hO := hO1
        clear hO1
        have d2 : decide ((m : Int) ≤ (used : Int)) = true := decide_eq_true (by have := HNO.out; omega)
        have d3 : decide (m ≤ used) = true := decide_eq_true (by have := HNO.out; omega)
        go_wp2_with (first
          | ((with_reducible refine gLoad ?_); first | refine ldX hO 0 rfl rfl (tA rfl) (tS rfl) ?_ | refine ldC hO 0 rfl rfl (tA rfl) rfl ?_))
        refine wp_region_text (by kernel_rfl) (by kernel_rfl) ?_
        replace hO := hO.drew
        generalize World.drew _ = wd4 at hO ⊢
        go_wp2_with (first
          | ((with_reducible refine gLoad ?_); first | refine ldX hO 0 rfl rfl (tA rfl) (tS rfl) ?_ | refine ldC hO 0 rfl rfl (tA rfl) rfl ?_ | refine ldX hO 1 rfl rfl (tA rfl) (tS rfl) ?_ | refine ldC hO 1 rfl rfl (tA rfl) rfl ?_ | refine ldX hO 2 rfl rfl (tA rfl) (tS rfl) ?_ | refine ldC hO 2 rfl rfl (tA rfl) rfl ?_ | refine ldX hO 3 rfl rfl (tA rfl) (tS rfl) ?_ | refine ldC hO 3 rfl rfl (tA rfl) rfl ?_)
          | ((with_reducible refine gStore ?_); first | (refine stX hO 0 rfl rfl rfl rfl rfl (tS rfl) ?_; clear hO; intro ww hO) | (refine stC hO 0 rfl rfl rfl (ltb rfl) rfl (tS rfl) ?_; clear hO; intro ww hO) | (refine stX hO 1 rfl rfl rfl rfl rfl (tS rfl) ?_; clear hO; intro ww hO) | (refine stC hO 1 rfl rfl rfl (ltb rfl) rfl (tS rfl) ?_; clear hO; intro ww hO) | (refine stX hO 2 rfl rfl rfl rfl rfl (tS rfl) ?_; clear hO; intro ww hO) | (refine stC hO 2 rfl rfl rfl (ltb rfl) rfl (tS rfl) ?_; clear hO; intro ww hO))
          | ((with_reducible refine gI ?_); refine wpI_step rfl rfl (by kernel_rfl) ?_; intro K hK; have HK := Lib.hid hK; clear hK) | ((with_reducible refine gI ?_); first | refine wpI_skip rfl ?_ | refine wpI_want rfl ?_) | ((with_reducible refine gOnlyK0 HK.out ?_); clear HK K; first | (refine wpI_act (by simp only [Act.put, List.setIfInBounds_toArray, List.set_cons_succ, List.set_cons_zero]; rfl) ?_) | skip) | (with_reducible refine wpI_nil ?_))
        refine bodyPost_ret (res_tct rfl _ _ zb 38 (rgC (.slice aP n cP) span C1 used) (0,0) _ rfl (hO.blk 2 rfl) Try.underlying38 rfl (irg _ _ _ _)) rfl ⟨rfl, hO.below⟩
end Go.Proofs.Ytmfeknamdjjbhaa
