/- Walk: the reader's Next. -/
import Derived.Test.YtnkpjmcgecdkfaaKr
import Derived.Test.YtnkpjmcgecdkfaaKq
namespace Go.Proofs.Ytnkpjmcgecdkfaa
open Go.RowKit Go.Own Go.Bv Go.Ord Go.Eq Go.Opn Go.Pb

set_option maxHeartbeats 8000000 in
set_option maxRecDepth 100000 in
theorem next_ok {w0 w : World} {L : List Res} {rb : Nat} {aP : Option Addr} {n cP : Nat} {aB : Option Addr} {m cB : Nat} (r : Go.Kc.Rr) (b : List (BitVec 8)) (hr : Go.Kc.Rok n b r) (hb : b.length = m) (hm : m ≤ 10000000) (a : Nat) (ha : a < n) (hs : r.may b a) (t : Go.Kc.Rr) (ht : r.next b a = t)
    (hO : Own w0 w (.blk rb (.cells (rC (.slice aP n cP) (.slice aB m cB) r.used r.span r.code) 91 (0,0)) :: .sl 5 1 (.slice aB m cB) m (u8s b) :: .sl 3 1 (.slice aP n cP) n (i64s r.p) :: L)) :
    Calls Try.prog 64 #[.pointer (some ⟨rb, 0, none⟩), .int .i64 (a : Int)] w fun e w' => e = .returned (.tuple #[.bool (r.set a), .int .i64 0]) ∧ Own w0 w' (.blk rb (.cells (rC (.slice aP n cP) (.slice aB m cB) t.used t.span t.code) 91 (0,0)) :: .sl 5 1 (.slice aB m cB) m (u8s b) :: .sl 3 1 (.slice aP n cP) n (i64s t.p) :: L) := by
  obtain ⟨q1, q2⟩ := Go.Kc.rok_part hr ha
  obtain ⟨q3, q4, q5, q6, q7⟩ := Go.Kc.rok_mid hr ha
  obtain ⟨gP, rfl⟩ := hO.slPlace 2 rfl (by omega)
  obtain ⟨k1, k2, k3, k4, k5, k6⟩ := hr
  have hmv := Go.Kc.all_get k2 (by rw [k1]; exact ha)
  rw [kc_may] at hmv
  obtain ⟨pv, hpv⟩ : ∃ pv, r.p.getD a 0 = pv := ⟨_, rfl⟩
  obtain ⟨P, hP⟩ : ∃ P, r.part a = P := ⟨_, rfl⟩
  rw [hpv] at hmv
  rw [hP] at q1 q2
  have hg : (i64s r.p)[a]? = some (.int .i64 pv) := by
    rw [i64s_get r.p a (by omega), ← hpv, List.getD_eq_getElem?_getD, List.getElem?_eq_getElem (by omega)]; rfl
  have hset : (i64s r.p).set a (.int .i64 (learnI pv (r.set a))) = i64s (r.mid a).p := by
    unfold Go.Kc.Rr.mid i64s
    dsimp only
    rw [List.map_set, hpv]; rfl
  have hsp : ∀ w, Calls Try.prog 61 #[.int .u32 (r.span : Int), .int .i64 pv] w fun e w' => e = .returned (.tuple #[.int .u32 (P : Int), .int .i64 0]) ∧ w = w' := fun w => by
    have h := split_calls (r.span : Int) pv w (by omega) (by omega)
    have e : splitOk (r.span : Int) pv = true := by unfold splitOk; rw [hmv, decide_eq_true (by omega)]; rfl
    have e2 : splitI (r.span : Int) pv = (P : Int) := by
      have hp0 := ((mayB_iff pv).1 hmv).1
      rw [← hP]
      unfold splitI Go.Kc.Rr.part
      rw [hpv, Int.natCast_mul, Int.natCast_ediv, Int.toNat_of_nonneg (by omega)]; rfl
    rw [e, if_pos rfl, if_pos rfl, e2] at h
    exact h
  have hln : ∀ bt w, Calls Try.prog 62 #[.int .i64 pv, .bool bt] w fun e w' => e = .returned (.tuple #[.int .i64 (learnI pv bt), .int .i64 0]) ∧ w = w' := fun bt w => by
    have h := Learn_calls pv bt w
    rw [hmv, if_pos rfl, if_pos rfl] at h
    exact h
  have hbit : r.set a = decide (P ≤ r.code) := by rw [← hP]; rfl
  have hm1 : (r.mid a).code = if r.set a then r.code - P else r.code := by rw [← hP]; rfl
  have hm2 : (r.mid a).span = if r.set a then r.span - P else P := by rw [← hP]; rfl
  have hm3 : (r.mid a).used = r.used := rfl
  have HSP := Lib.hid hsp
  have HG := Lib.hid hg
  have hs2 : (r.mid a).span < 16777216 → r.used < m := by rw [← hb]; exact hs
  have htn : (r.mid a).norm b = t := ht
  obtain ⟨u, hu⟩ : ∃ u, r.mid a = u := ⟨_, rfl⟩
  rw [hu] at hset hm1 hm2 hm3 hs2 q3 q4 q5
  rw [hu] at htn
  have HTN := Lib.hid htn
  obtain ⟨used, hus⟩ : ∃ x, r.used = x := ⟨_, rfl⟩
  obtain ⟨span, hsp2⟩ : ∃ x, r.span = x := ⟨_, rfl⟩
  obtain ⟨code, hco⟩ : ∃ x, r.code = x := ⟨_, rfl⟩
  obtain ⟨C1, hC1⟩ : ∃ x, u.code = x := ⟨_, rfl⟩
  obtain ⟨Z, hZ⟩ : ∃ x, u.span = x := ⟨_, rfl⟩
  rw [hus] at hs2 hm3 hO k6
  rw [hsp2] at HSP hm2 hO q2 k3 k4
  rw [hco] at hbit hm1 hO
  rw [hZ] at hm2 hs2 q3 q4 q5
  rw [hC1] at hm1 q3
  rw [hb] at k6
  have HUS := Lib.hid hus
  have HSS := Lib.hid hsp2
  have HCO := Lib.hid hco
  have HB := Lib.hid hb
  have HBIT0 := Lib.hid hbit
  have HM := Lib.hid hm
  have HSET0 := Lib.hid hset
  have HU3 := Lib.hid hm3
  have HC1 := Lib.hid hC1
  have HZZ := Lib.hid hZ
  rw [hbit] at hm1 hm2
  have i1 : IntKind.i64.wrap ((m : Int) - (used : Int)) = (m : Int) - (used : Int) := by rw [IntKind.wrap_i64]; omega
  have i2 : decide ((a : Int) < 0) = false := decide_eq_false (by omega)
  have i3 : decide ((n : Int) ≤ (a : Int)) = false := decide_eq_false (by omega)
  have i4 : decide (n ≤ a) = false := decide_eq_false (by omega)
  clear hb hm k1 k2 hs hmv hpv hP hg hsp hus hsp2 hco hC1 hZ hu q6 q7 hm3 ht htn
  by_cases hc : P ≤ code
  · have hbt : decide (P ≤ code) = true := decide_eq_true hc
    rw [hbit, hbt] at hset
    rw [hbt] at hm1 hm2
    simp only [Bool.false_eq_true, if_true, if_false] at hm1 hm2
    have HBIT : Hid (r.set a = true) := by show _ = _; rw [HBIT0.out, hbt]
    have HSET := Lib.hid hset
    have HLN := Lib.hid (hln true)
    clear hbit hbt hset hln HSET0 HBIT0
    have dP2 : decide (P ≤ code) = true := decide_eq_true (by omega)
    have dP : decide ((P : Int) ≤ (code : Int)) = true := decide_eq_true (by omega)
    have a3 : IntKind.u32.wrap ((span : Int) - (P : Int)) = (Z : Int) := by simp [IntKind.wrap, IntKind.bits, IntKind.signed]; omega
    have a4 : IntKind.u32.wrap ((code : Int) - (P : Int)) = (C1 : Int) := by simp [IntKind.wrap, IntKind.bits, IntKind.signed]; omega
    clear hm1 hm2
    by_cases hz : Z < 16777216
    · obtain ⟨Y, hY⟩ : ∃ x, Z * 256 = x := ⟨_, rfl⟩
      have y1 : IntKind.u32.wrap ((Z : Int) * 256) = (Y : Int) := by simp [IntKind.wrap, IntKind.bits, IntKind.signed]; omega
      have hlt : used < m := hs2 hz
      have y4 : decide ((m : Int) - (used : Int) < 1) = false := decide_eq_false (by omega)
      have hltb : used < b.length := by rw [HB.out]; exact hlt
      obtain ⟨c, hcv⟩ : ∃ c, b.getD used 0 = c := ⟨_, rfl⟩
      have hx : b[used]? = some c := by rw [← hcv]; simp [hltb]
      obtain ⟨C2, hC2⟩ : ∃ x, C1 * 256 + c.toNat = x := ⟨_, rfl⟩
      have HTT : Hid (t = ⟨u.p, C2, Y, used + 1⟩) := by show _ = _; rw [← HTN.out]; unfold Go.Kc.Rr.norm; rw [if_pos (by rw [HZZ.out]; exact hz), HC1.out, HU3.out, hcv, hC2, HZZ.out, hY]
      have HC : Hid (b[used]? = some c) := hx
      have HU : Hid (used < m) := hlt
      have HCD : Hid (C1 < 16777216) := by show _ < _; omega
      have HC2 : Hid (C1 * 256 + c.toNat = C2) := hC2
      clear hltb hx hC2 hcv hlt
      have YB : Hid (Z * 256 = Y) := hY
      have Y2 : Hid (Z < 16777216) := hz
      have Y3 : Hid (16777216 ≤ Y) := by show _ ≤ _; omega
      clear hY hz hs2 q1 q2 q3 q4 q5 k3 k4 k5 k6 hc
      go_enter Try.func64, Try.ntmps64
      go_wp2_with (first
        | ((with_reducible refine gG ?_); refine wpList_want rfl ?_)
        | ((with_reducible refine gLoad ?_); first | refine ldX hO 0 rfl rfl (tA rfl) (tS rfl) ?_ | refine ldC hO 0 rfl rfl (tA rfl) rfl ?_))
      refine wp_region_textS (fun w' => Own w0 w' (.blk rb (.cells (rC (.slice (some ⟨gP, 0, none⟩) n cP) (.slice aB m cB) used span code) 91 (0,0)) :: .sl 5 1 (.slice aB m cB) m (u8s b) :: .sl 3 1 (.slice (some ⟨gP, 0, none⟩) n cP) n (i64s r.p) :: L)) (fun op => match op with | .load _ _ => true | _ => false) (by kernel_rfl) (by kernel_rfl) hO.drew ?_
      replace hO := hO.drew
      generalize World.drew _ = wd at hO ⊢
      go_wp2_with (first
        | (((with_reducible refine gIL ?_); first | refine wpI_ldcS (fun w' hS => hS.blk 0 rfl) rfl rfl (tA rfl) rfl ?_); first | (refine wpI_act (by simp only [Act.put, List.setIfInBounds_toArray, List.set_cons_succ, List.set_cons_zero]; rfl) ?_) | skip)
        | ((with_reducible refine gIL ?_); refine wpI_ld1S (fun w' hS => (hS.slCell 2 rfl (by omega)).trans HG.out) rfl rfl (tA rfl) ?_; first | (refine wpI_act (by simp only [Act.put, List.setIfInBounds_toArray, List.set_cons_succ, List.set_cons_zero]; rfl) ?_) | skip)
        | (go_at_call 61; refine (HSP.out _).mono ?_; rintro e ww ⟨rfl, rfl⟩)
        | ((with_reducible refine gLoad ?_); first | refine ldX hO 0 rfl rfl (tA rfl) (tS rfl) ?_ | refine ldC hO 0 rfl rfl (tA rfl) rfl ?_)
        | ((with_reducible refine gStore ?_); first | (refine stX hO 0 rfl rfl rfl rfl rfl (tS rfl) ?_; clear hO; intro ww hO) | (refine stC hO 0 rfl rfl rfl (ltb rfl) rfl (tS rfl) ?_; clear hO; intro ww hO))
        | ((with_reducible refine gI ?_); refine wpI_step rfl rfl (by kernel_rfl) ?_; intro K hK; have HK := Lib.hid hK; clear hK) | ((with_reducible refine gI ?_); first | refine wpI_skip rfl ?_ | refine wpI_want rfl ?_) | ((with_reducible refine gOnlyK HK.out ?_ ?_); exact hO; clear HK K; first | (refine wpI_act (by simp only [Act.put, List.setIfInBounds_toArray, List.set_cons_succ, List.set_cons_zero]; rfl) ?_) | skip) | (with_reducible refine wpI_nil ?_))
      go_loopg [9, 10] 1 (fun q s9 s10 wr => Own w0 wr (.blk rb (.cells (rC (.slice (some ⟨gP, 0, none⟩) n cP) (.slice aB m cB) used span code) 91 (0,0)) :: .sl 5 1 (.slice aB m cB) m (u8s b) :: .sl 3 1 (.slice (some ⟨gP, 0, none⟩) n cP) n (i64s r.p) :: L) ∧ ((q = 1 ∧ s9 = .int .i64 0 ∧ s10 = .int .u32 (Z : Int)) ∨ (q = 0 ∧ s9 = .int .i64 1 ∧ s10 = .int .u32 (Y : Int))))
      case atStart => exact ⟨hO, .inl ⟨rfl, rfl, rfl⟩⟩
      case round =>
        obtain ⟨hO1, hrel⟩ := hrel
        clear hO
        have hO := hO1
        clear hO1
        rcases hrel with ⟨rfl, rfl, rfl⟩ | ⟨rfl, rfl, rfl⟩
        · have y2 : decide ((Z : Int) < 16777216) = true := decide_eq_true (by have h := Y2.out; omega)
          go_wp2
          go_roundg 0
          case measure => omega
          case rel => exact ⟨hO, .inr ⟨rfl, rfl, rfl⟩⟩
        · have y3 : decide ((Y : Int) < 16777216) = false := decide_eq_false (by have h := Y3.out; omega)
          go_wp2
          clear y3
          refine wp_region_textS (fun w' => Own w0 w' (.blk rb (.cells (rC (.slice (some ⟨gP, 0, none⟩) n cP) (.slice aB m cB) used span code) 91 (0,0)) :: .sl 5 1 (.slice aB m cB) m (u8s b) :: .sl 3 1 (.slice (some ⟨gP, 0, none⟩) n cP) n (i64s r.p) :: L)) (fun op => match op with | .load _ _ => true | _ => false) (by kernel_rfl) (by kernel_rfl) hO.drew ?_
          replace hO := hO.drew
          generalize World.drew _ = wd at hO ⊢
          go_wp2_with (first
            | (((with_reducible refine gIL ?_); first | refine wpI_ldcS (fun w' hS => hS.blk 0 rfl) rfl rfl (tA rfl) rfl ?_); first | (refine wpI_act (by simp only [Act.put, List.setIfInBounds_toArray, List.set_cons_succ, List.set_cons_zero]; rfl) ?_) | skip)
            | ((with_reducible refine gLoad ?_); first | refine ldX hO 0 rfl rfl (tA rfl) (tS rfl) ?_ | refine ldC hO 0 rfl rfl (tA rfl) rfl ?_)
            | ((with_reducible refine gStore ?_); first | (refine stX hO 0 rfl rfl rfl rfl rfl (tS rfl) ?_; clear hO; intro ww hO) | (refine stC hO 0 rfl rfl rfl (ltb rfl) rfl (tS rfl) ?_; clear hO; intro ww hO))
            | ((with_reducible refine gI ?_); refine wpI_step rfl rfl (by kernel_rfl) ?_; intro K hK; have HK := Lib.hid hK; clear hK) | ((with_reducible refine gI ?_); first | refine wpI_skip rfl ?_ | refine wpI_want rfl ?_) | ((with_reducible refine gOnlyK HK.out ?_ ?_); exact hO; clear HK K; first | (refine wpI_act (by simp only [Act.put, List.setIfInBounds_toArray, List.set_cons_succ, List.set_cons_zero]; rfl) ?_) | skip) | (with_reducible refine wpI_nil ?_))
          replace hO : Own w0 _ (.blk rb (.cells (rC (.slice (some ⟨gP, 0, none⟩) n cP) (.slice aB m cB) used span C1) 91 (0,0)) :: .sl 5 1 (.slice aB m cB) m (u8s b) :: .sl 3 1 (.slice (some ⟨gP, 0, none⟩) n cP) n (i64s r.p) :: L) := hO
          refine wp_region_textS (fun w' => Own w0 w' [.blk rb (.cells (rC (.slice (some ⟨gP, 0, none⟩) n cP) (.slice aB m cB) used span C1) 91 (0,0)), .sl 5 1 (.slice aB m cB) m (u8s b)]) (fun op => match op with | .load _ (.tmp 97) => false | .load _ _ => true | _ => false) (by kernel_rfl) (by kernel_rfl) hO.drew.take2 ?_
          replace hO := hO.drew
          generalize World.drew _ = wd2 at hO ⊢
          go_wp2_with (first
            | (((with_reducible refine gIL ?_); first | refine wpI_ldcS (fun w' hS => hS.blk 0 rfl) rfl rfl (tA rfl) rfl ?_); first | (refine wpI_act (by simp only [Act.put, List.setIfInBounds_toArray, List.set_cons_succ, List.set_cons_zero]; rfl) ?_) | skip)
            | ((with_reducible refine gLoad (T := 3) ?_); refine ld_sl hO 2 rfl rfl HG.out (tA rfl) ?_)
            | (go_at_call 62; refine (HLN.out _).mono ?_; rintro e ww ⟨rfl, rfl⟩)
            | ((with_reducible refine gStore (T := 3) ?_); refine own_setElem hO 2 3 _ _ _ rfl rfl rfl (by omega) ii64s rfl ?_; clear hO; intro ww hO)
            | ((with_reducible refine gI ?_); refine wpI_step rfl rfl (by kernel_rfl) ?_; intro K hK; have HK := Lib.hid hK; clear hK) | ((with_reducible refine gI ?_); first | refine wpI_skip rfl ?_ | refine wpI_want rfl ?_) | ((with_reducible refine gOnlyK HK.out ?_ ?_); exact hO.take2; clear HK K; first | (refine wpI_act (by simp only [Act.put, List.setIfInBounds_toArray, List.set_cons_succ, List.set_cons_zero]; rfl) ?_) | skip) | (with_reducible refine wpI_nil ?_))
          replace hO : Own w0 _ (.blk rb (.cells (rC (.slice (some ⟨gP, 0, none⟩) n cP) (.slice aB m cB) used span C1) 91 (0,0)) :: .sl 5 1 (.slice aB m cB) m (u8s b) :: .sl 3 1 (.slice (some ⟨gP, 0, none⟩) n cP) n ((i64s r.p).set a (.int .i64 (learnI pv true))) :: L) := hO
          rw [HSET.out] at hO
          go_loopg [105] 1 (fun q c wr => (q = 1 ∧ c = .int .i64 0 ∧ Own w0 wr (.blk rb (.cells (rC (.slice (some ⟨gP, 0, none⟩) n cP) (.slice aB m cB) used span C1) 91 (0,0)) :: .sl 5 1 (.slice aB m cB) m (u8s b) :: .sl 3 1 (.slice (some ⟨gP, 0, none⟩) n cP) n (i64s u.p) :: L)) ∨ (q = 0 ∧ c = .int .i64 1 ∧ Own w0 wr (.blk rb (.cells (rC (.slice (some ⟨gP, 0, none⟩) n cP) (.slice aB m cB) (used + 1) span C2) 91 (0,0)) :: .sl 5 1 (.slice aB m cB) m (u8s b) :: .sl 3 1 (.slice (some ⟨gP, 0, none⟩) n cP) n (i64s u.p) :: L)))
          case atStart => exact .inl ⟨rfl, rfl, hO⟩
          case round =>
            rcases hrel with ⟨rfl, rfl, hO1⟩ | ⟨rfl, rfl, hO1⟩
            · clear hO
              have hO := hO1
              clear hO1
              go_wp2_with (first
                | (go_at_call 51; refine (octet_calls b c HC.out HU.out HM.out HCD.out C2 HC2.out hO).mono ?_; rintro e ww ⟨rfl, hO2⟩; clear hO; have hO := hO2; clear hO2))
              go_roundg 0
              case measure => omega
              case rel => exact .inr ⟨rfl, rfl, hO⟩
            · clear hO
              have hO := hO1
              clear hO1
              go_wp2_with (first
                | ((with_reducible refine gLoad ?_); first | refine ldX hO 0 rfl rfl (tA rfl) (tS rfl) ?_ | refine ldC hO 0 rfl rfl (tA rfl) rfl ?_)
                | ((with_reducible refine gStore ?_); first | (refine stX hO 0 rfl rfl rfl rfl rfl (tS rfl) ?_; clear hO; intro ww hO) | (refine stC hO 0 rfl rfl rfl (ltb rfl) rfl (tS rfl) ?_; clear hO; intro ww hO)))
              go_ret2
              exact ⟨by rw [HBIT.out]; rfl, by rw [HTT.out]; exact hO⟩
    · have y4 : decide ((m : Int) - (used : Int) < 0) = false := decide_eq_false (by omega)
      have y5 : IntKind.u32.wrap (Z : Int) = (Z : Int) := by simp [IntKind.wrap, IntKind.bits, IntKind.signed]; omega
      have HTT : Hid (t = ⟨u.p, C1, Z, used⟩) := by show _ = _; rw [← HTN.out]; unfold Go.Kc.Rr.norm; rw [if_neg (by rw [HZZ.out]; exact hz), ← HC1.out, ← HZZ.out, ← HU3.out]
      have Y2 : Hid (¬ Z < 16777216) := hz
      clear hz hs2 q1 q2 q3 q4 q5 k3 k4 k5 k6 hc
      go_enter Try.func64, Try.ntmps64
      go_wp2_with (first
        | ((with_reducible refine gG ?_); refine wpList_want rfl ?_)
        | ((with_reducible refine gLoad ?_); first | refine ldX hO 0 rfl rfl (tA rfl) (tS rfl) ?_ | refine ldC hO 0 rfl rfl (tA rfl) rfl ?_))
      refine wp_region_textS (fun w' => Own w0 w' (.blk rb (.cells (rC (.slice (some ⟨gP, 0, none⟩) n cP) (.slice aB m cB) used span code) 91 (0,0)) :: .sl 5 1 (.slice aB m cB) m (u8s b) :: .sl 3 1 (.slice (some ⟨gP, 0, none⟩) n cP) n (i64s r.p) :: L)) (fun op => match op with | .load _ _ => true | _ => false) (by kernel_rfl) (by kernel_rfl) hO.drew ?_
      replace hO := hO.drew
      generalize World.drew _ = wd at hO ⊢
      go_wp2_with (first
        | (((with_reducible refine gIL ?_); first | refine wpI_ldcS (fun w' hS => hS.blk 0 rfl) rfl rfl (tA rfl) rfl ?_); first | (refine wpI_act (by simp only [Act.put, List.setIfInBounds_toArray, List.set_cons_succ, List.set_cons_zero]; rfl) ?_) | skip)
        | ((with_reducible refine gIL ?_); refine wpI_ld1S (fun w' hS => (hS.slCell 2 rfl (by omega)).trans HG.out) rfl rfl (tA rfl) ?_; first | (refine wpI_act (by simp only [Act.put, List.setIfInBounds_toArray, List.set_cons_succ, List.set_cons_zero]; rfl) ?_) | skip)
        | (go_at_call 61; refine (HSP.out _).mono ?_; rintro e ww ⟨rfl, rfl⟩)
        | ((with_reducible refine gLoad ?_); first | refine ldX hO 0 rfl rfl (tA rfl) (tS rfl) ?_ | refine ldC hO 0 rfl rfl (tA rfl) rfl ?_)
        | ((with_reducible refine gStore ?_); first | (refine stX hO 0 rfl rfl rfl rfl rfl (tS rfl) ?_; clear hO; intro ww hO) | (refine stC hO 0 rfl rfl rfl (ltb rfl) rfl (tS rfl) ?_; clear hO; intro ww hO))
        | ((with_reducible refine gI ?_); refine wpI_step rfl rfl (by kernel_rfl) ?_; intro K hK; have HK := Lib.hid hK; clear hK) | ((with_reducible refine gI ?_); first | refine wpI_skip rfl ?_ | refine wpI_want rfl ?_) | ((with_reducible refine gOnlyK HK.out ?_ ?_); exact hO; clear HK K; first | (refine wpI_act (by simp only [Act.put, List.setIfInBounds_toArray, List.set_cons_succ, List.set_cons_zero]; rfl) ?_) | skip) | (with_reducible refine wpI_nil ?_))
      go_loopg [9, 10] 1 (fun q s9 s10 wr => q ≤ 1 ∧ s9 = .int .i64 0 ∧ s10 = .int .u32 (Z : Int) ∧ Own w0 wr (.blk rb (.cells (rC (.slice (some ⟨gP, 0, none⟩) n cP) (.slice aB m cB) used span code) 91 (0,0)) :: .sl 5 1 (.slice aB m cB) m (u8s b) :: .sl 3 1 (.slice (some ⟨gP, 0, none⟩) n cP) n (i64s r.p) :: L))
      case atStart => exact ⟨by omega, rfl, rfl, hO⟩
      case round =>
        obtain ⟨hq, rfl, rfl, hO1⟩ := hrel
        clear hO hq
        have hO := hO1
        clear hO1
        have y2 : decide ((Z : Int) < 16777216) = false := decide_eq_false (by have h := Y2.out; omega)
        go_wp2
        clear y2
        refine wp_region_textS (fun w' => Own w0 w' (.blk rb (.cells (rC (.slice (some ⟨gP, 0, none⟩) n cP) (.slice aB m cB) used span code) 91 (0,0)) :: .sl 5 1 (.slice aB m cB) m (u8s b) :: .sl 3 1 (.slice (some ⟨gP, 0, none⟩) n cP) n (i64s r.p) :: L)) (fun op => match op with | .load _ _ => true | _ => false) (by kernel_rfl) (by kernel_rfl) hO.drew ?_
        replace hO := hO.drew
        generalize World.drew _ = wd at hO ⊢
        go_wp2_with (first
          | (((with_reducible refine gIL ?_); first | refine wpI_ldcS (fun w' hS => hS.blk 0 rfl) rfl rfl (tA rfl) rfl ?_); first | (refine wpI_act (by simp only [Act.put, List.setIfInBounds_toArray, List.set_cons_succ, List.set_cons_zero]; rfl) ?_) | skip)
          | ((with_reducible refine gLoad ?_); first | refine ldX hO 0 rfl rfl (tA rfl) (tS rfl) ?_ | refine ldC hO 0 rfl rfl (tA rfl) rfl ?_)
          | ((with_reducible refine gStore ?_); first | (refine stX hO 0 rfl rfl rfl rfl rfl (tS rfl) ?_; clear hO; intro ww hO) | (refine stC hO 0 rfl rfl rfl (ltb rfl) rfl (tS rfl) ?_; clear hO; intro ww hO))
          | ((with_reducible refine gI ?_); refine wpI_step rfl rfl (by kernel_rfl) ?_; intro K hK; have HK := Lib.hid hK; clear hK) | ((with_reducible refine gI ?_); first | refine wpI_skip rfl ?_ | refine wpI_want rfl ?_) | ((with_reducible refine gOnlyK HK.out ?_ ?_); exact hO; clear HK K; first | (refine wpI_act (by simp only [Act.put, List.setIfInBounds_toArray, List.set_cons_succ, List.set_cons_zero]; rfl) ?_) | skip) | (with_reducible refine wpI_nil ?_))
        replace hO : Own w0 _ (.blk rb (.cells (rC (.slice (some ⟨gP, 0, none⟩) n cP) (.slice aB m cB) used span C1) 91 (0,0)) :: .sl 5 1 (.slice aB m cB) m (u8s b) :: .sl 3 1 (.slice (some ⟨gP, 0, none⟩) n cP) n (i64s r.p) :: L) := hO
        refine wp_region_textS (fun w' => Own w0 w' [.blk rb (.cells (rC (.slice (some ⟨gP, 0, none⟩) n cP) (.slice aB m cB) used span C1) 91 (0,0)), .sl 5 1 (.slice aB m cB) m (u8s b)]) (fun op => match op with | .load _ (.tmp 97) => false | .load _ _ => true | _ => false) (by kernel_rfl) (by kernel_rfl) hO.drew.take2 ?_
        replace hO := hO.drew
        generalize World.drew _ = wd2 at hO ⊢
        go_wp2_with (first
          | (((with_reducible refine gIL ?_); first | refine wpI_ldcS (fun w' hS => hS.blk 0 rfl) rfl rfl (tA rfl) rfl ?_); first | (refine wpI_act (by simp only [Act.put, List.setIfInBounds_toArray, List.set_cons_succ, List.set_cons_zero]; rfl) ?_) | skip)
          | ((with_reducible refine gLoad (T := 3) ?_); refine ld_sl hO 2 rfl rfl HG.out (tA rfl) ?_)
          | (go_at_call 62; refine (HLN.out _).mono ?_; rintro e ww ⟨rfl, rfl⟩)
          | ((with_reducible refine gStore (T := 3) ?_); refine own_setElem hO 2 3 _ _ _ rfl rfl rfl (by omega) ii64s rfl ?_; clear hO; intro ww hO)
          | ((with_reducible refine gI ?_); refine wpI_step rfl rfl (by kernel_rfl) ?_; intro K hK; have HK := Lib.hid hK; clear hK) | ((with_reducible refine gI ?_); first | refine wpI_skip rfl ?_ | refine wpI_want rfl ?_) | ((with_reducible refine gOnlyK HK.out ?_ ?_); exact hO.take2; clear HK K; first | (refine wpI_act (by simp only [Act.put, List.setIfInBounds_toArray, List.set_cons_succ, List.set_cons_zero]; rfl) ?_) | skip) | (with_reducible refine wpI_nil ?_))
        replace hO : Own w0 _ (.blk rb (.cells (rC (.slice (some ⟨gP, 0, none⟩) n cP) (.slice aB m cB) used span C1) 91 (0,0)) :: .sl 5 1 (.slice aB m cB) m (u8s b) :: .sl 3 1 (.slice (some ⟨gP, 0, none⟩) n cP) n ((i64s r.p).set a (.int .i64 (learnI pv true))) :: L) := hO
        rw [HSET.out] at hO
        go_loopg [105] 1 (fun q c wr => q ≤ 1 ∧ c = .int .i64 0 ∧ Own w0 wr (.blk rb (.cells (rC (.slice (some ⟨gP, 0, none⟩) n cP) (.slice aB m cB) used span C1) 91 (0,0)) :: .sl 5 1 (.slice aB m cB) m (u8s b) :: .sl 3 1 (.slice (some ⟨gP, 0, none⟩) n cP) n (i64s u.p) :: L))
        case atStart => exact ⟨by omega, rfl, hO⟩
        case round =>
          obtain ⟨hq, rfl, hO1⟩ := hrel
          clear hO hq
          have hO := hO1
          clear hO1
          go_wp2_with (first
            | ((with_reducible refine gLoad ?_); first | refine ldX hO 0 rfl rfl (tA rfl) (tS rfl) ?_ | refine ldC hO 0 rfl rfl (tA rfl) rfl ?_)
            | ((with_reducible refine gStore ?_); first | (refine stX hO 0 rfl rfl rfl rfl rfl (tS rfl) ?_; clear hO; intro ww hO) | (refine stC hO 0 rfl rfl rfl (ltb rfl) rfl (tS rfl) ?_; clear hO; intro ww hO)))
          go_ret2
          exact ⟨by rw [HBIT.out]; rfl, by rw [HTT.out]; exact hO⟩
  · have hbt : decide (P ≤ code) = false := decide_eq_false hc
    rw [hbit, hbt] at hset
    rw [hbt] at hm1 hm2
    simp only [Bool.false_eq_true, if_true, if_false] at hm1 hm2
    have HBIT : Hid (r.set a = false) := by show _ = _; rw [HBIT0.out, hbt]
    have HSET := Lib.hid hset
    have HLN := Lib.hid (hln false)
    clear hbit hbt hset hln HSET0 HBIT0
    have dP2 : decide (P ≤ code) = false := decide_eq_false (by omega)
    have dP : decide ((P : Int) ≤ (code : Int)) = false := decide_eq_false (by omega)
    subst hm1
    subst hm2
    by_cases hz : Z < 16777216
    · obtain ⟨Y, hY⟩ : ∃ x, Z * 256 = x := ⟨_, rfl⟩
      have y1 : IntKind.u32.wrap ((Z : Int) * 256) = (Y : Int) := by simp [IntKind.wrap, IntKind.bits, IntKind.signed]; omega
      have hlt : used < m := hs2 hz
      have y4 : decide ((m : Int) - (used : Int) < 1) = false := decide_eq_false (by omega)
      have hltb : used < b.length := by rw [HB.out]; exact hlt
      obtain ⟨c, hcv⟩ : ∃ c, b.getD used 0 = c := ⟨_, rfl⟩
      have hx : b[used]? = some c := by rw [← hcv]; simp [hltb]
      obtain ⟨C2, hC2⟩ : ∃ x, C1 * 256 + c.toNat = x := ⟨_, rfl⟩
      have HTT : Hid (t = ⟨u.p, C2, Y, used + 1⟩) := by show _ = _; rw [← HTN.out]; unfold Go.Kc.Rr.norm; rw [if_pos (by rw [HZZ.out]; exact hz), HC1.out, HU3.out, hcv, hC2, HZZ.out, hY]
      have HC : Hid (b[used]? = some c) := hx
      have HU : Hid (used < m) := hlt
      have HCD : Hid (C1 < 16777216) := by show _ < _; omega
      have HC2 : Hid (C1 * 256 + c.toNat = C2) := hC2
      clear hltb hx hC2 hcv hlt
      have YB : Hid (Z * 256 = Y) := hY
      have Y2 : Hid (Z < 16777216) := hz
      have Y3 : Hid (16777216 ≤ Y) := by show _ ≤ _; omega
      clear hY hz hs2 q1 q2 q3 q4 q5 k3 k4 k5 k6 hc
      go_enter Try.func64, Try.ntmps64
      go_wp2_with (first
        | ((with_reducible refine gG ?_); refine wpList_want rfl ?_)
        | ((with_reducible refine gLoad ?_); first | refine ldX hO 0 rfl rfl (tA rfl) (tS rfl) ?_ | refine ldC hO 0 rfl rfl (tA rfl) rfl ?_))
      refine wp_region_textS (fun w' => Own w0 w' (.blk rb (.cells (rC (.slice (some ⟨gP, 0, none⟩) n cP) (.slice aB m cB) used span C1) 91 (0,0)) :: .sl 5 1 (.slice aB m cB) m (u8s b) :: .sl 3 1 (.slice (some ⟨gP, 0, none⟩) n cP) n (i64s r.p) :: L)) (fun op => match op with | .load _ _ => true | _ => false) (by kernel_rfl) (by kernel_rfl) hO.drew ?_
      replace hO := hO.drew
      generalize World.drew _ = wd at hO ⊢
      go_wp2_with (first
        | (((with_reducible refine gIL ?_); first | refine wpI_ldcS (fun w' hS => hS.blk 0 rfl) rfl rfl (tA rfl) rfl ?_); first | (refine wpI_act (by simp only [Act.put, List.setIfInBounds_toArray, List.set_cons_succ, List.set_cons_zero]; rfl) ?_) | skip)
        | ((with_reducible refine gIL ?_); refine wpI_ld1S (fun w' hS => (hS.slCell 2 rfl (by omega)).trans HG.out) rfl rfl (tA rfl) ?_; first | (refine wpI_act (by simp only [Act.put, List.setIfInBounds_toArray, List.set_cons_succ, List.set_cons_zero]; rfl) ?_) | skip)
        | (go_at_call 61; refine (HSP.out _).mono ?_; rintro e ww ⟨rfl, rfl⟩)
        | ((with_reducible refine gLoad ?_); first | refine ldX hO 0 rfl rfl (tA rfl) (tS rfl) ?_ | refine ldC hO 0 rfl rfl (tA rfl) rfl ?_)
        | ((with_reducible refine gStore ?_); first | (refine stX hO 0 rfl rfl rfl rfl rfl (tS rfl) ?_; clear hO; intro ww hO) | (refine stC hO 0 rfl rfl rfl (ltb rfl) rfl (tS rfl) ?_; clear hO; intro ww hO))
        | ((with_reducible refine gI ?_); refine wpI_step rfl rfl (by kernel_rfl) ?_; intro K hK; have HK := Lib.hid hK; clear hK) | ((with_reducible refine gI ?_); first | refine wpI_skip rfl ?_ | refine wpI_want rfl ?_) | ((with_reducible refine gOnlyK HK.out ?_ ?_); exact hO; clear HK K; first | (refine wpI_act (by simp only [Act.put, List.setIfInBounds_toArray, List.set_cons_succ, List.set_cons_zero]; rfl) ?_) | skip) | (with_reducible refine wpI_nil ?_))
      go_loopg [9, 10] 1 (fun q s9 s10 wr => Own w0 wr (.blk rb (.cells (rC (.slice (some ⟨gP, 0, none⟩) n cP) (.slice aB m cB) used span C1) 91 (0,0)) :: .sl 5 1 (.slice aB m cB) m (u8s b) :: .sl 3 1 (.slice (some ⟨gP, 0, none⟩) n cP) n (i64s r.p) :: L) ∧ ((q = 1 ∧ s9 = .int .i64 0 ∧ s10 = .int .u32 (Z : Int)) ∨ (q = 0 ∧ s9 = .int .i64 1 ∧ s10 = .int .u32 (Y : Int))))
      case atStart => exact ⟨hO, .inl ⟨rfl, rfl, rfl⟩⟩
      case round =>
        obtain ⟨hO1, hrel⟩ := hrel
        clear hO
        have hO := hO1
        clear hO1
        rcases hrel with ⟨rfl, rfl, rfl⟩ | ⟨rfl, rfl, rfl⟩
        · have y2 : decide ((Z : Int) < 16777216) = true := decide_eq_true (by have h := Y2.out; omega)
          go_wp2
          go_roundg 0
          case measure => omega
          case rel => exact ⟨hO, .inr ⟨rfl, rfl, rfl⟩⟩
        · have y3 : decide ((Y : Int) < 16777216) = false := decide_eq_false (by have h := Y3.out; omega)
          go_wp2
          clear y3
          refine wp_region_textS (fun w' => Own w0 w' (.blk rb (.cells (rC (.slice (some ⟨gP, 0, none⟩) n cP) (.slice aB m cB) used span C1) 91 (0,0)) :: .sl 5 1 (.slice aB m cB) m (u8s b) :: .sl 3 1 (.slice (some ⟨gP, 0, none⟩) n cP) n (i64s r.p) :: L)) (fun op => match op with | .load _ _ => true | _ => false) (by kernel_rfl) (by kernel_rfl) hO.drew ?_
          replace hO := hO.drew
          generalize World.drew _ = wd at hO ⊢
          go_wp2_with (first
            | (((with_reducible refine gIL ?_); first | refine wpI_ldcS (fun w' hS => hS.blk 0 rfl) rfl rfl (tA rfl) rfl ?_); first | (refine wpI_act (by simp only [Act.put, List.setIfInBounds_toArray, List.set_cons_succ, List.set_cons_zero]; rfl) ?_) | skip)
            | ((with_reducible refine gLoad ?_); first | refine ldX hO 0 rfl rfl (tA rfl) (tS rfl) ?_ | refine ldC hO 0 rfl rfl (tA rfl) rfl ?_)
            | ((with_reducible refine gStore ?_); first | (refine stX hO 0 rfl rfl rfl rfl rfl (tS rfl) ?_; clear hO; intro ww hO) | (refine stC hO 0 rfl rfl rfl (ltb rfl) rfl (tS rfl) ?_; clear hO; intro ww hO))
            | ((with_reducible refine gI ?_); refine wpI_step rfl rfl (by kernel_rfl) ?_; intro K hK; have HK := Lib.hid hK; clear hK) | ((with_reducible refine gI ?_); first | refine wpI_skip rfl ?_ | refine wpI_want rfl ?_) | ((with_reducible refine gOnlyK HK.out ?_ ?_); exact hO; clear HK K; first | (refine wpI_act (by simp only [Act.put, List.setIfInBounds_toArray, List.set_cons_succ, List.set_cons_zero]; rfl) ?_) | skip) | (with_reducible refine wpI_nil ?_))
          replace hO : Own w0 _ (.blk rb (.cells (rC (.slice (some ⟨gP, 0, none⟩) n cP) (.slice aB m cB) used span C1) 91 (0,0)) :: .sl 5 1 (.slice aB m cB) m (u8s b) :: .sl 3 1 (.slice (some ⟨gP, 0, none⟩) n cP) n (i64s r.p) :: L) := hO
          refine wp_region_textS (fun w' => Own w0 w' [.blk rb (.cells (rC (.slice (some ⟨gP, 0, none⟩) n cP) (.slice aB m cB) used span C1) 91 (0,0)), .sl 5 1 (.slice aB m cB) m (u8s b)]) (fun op => match op with | .load _ (.tmp 97) => false | .load _ _ => true | _ => false) (by kernel_rfl) (by kernel_rfl) hO.drew.take2 ?_
          replace hO := hO.drew
          generalize World.drew _ = wd2 at hO ⊢
          go_wp2_with (first
            | (((with_reducible refine gIL ?_); first | refine wpI_ldcS (fun w' hS => hS.blk 0 rfl) rfl rfl (tA rfl) rfl ?_); first | (refine wpI_act (by simp only [Act.put, List.setIfInBounds_toArray, List.set_cons_succ, List.set_cons_zero]; rfl) ?_) | skip)
            | ((with_reducible refine gLoad (T := 3) ?_); refine ld_sl hO 2 rfl rfl HG.out (tA rfl) ?_)
            | (go_at_call 62; refine (HLN.out _).mono ?_; rintro e ww ⟨rfl, rfl⟩)
            | ((with_reducible refine gStore (T := 3) ?_); refine own_setElem hO 2 3 _ _ _ rfl rfl rfl (by omega) ii64s rfl ?_; clear hO; intro ww hO)
            | ((with_reducible refine gI ?_); refine wpI_step rfl rfl (by kernel_rfl) ?_; intro K hK; have HK := Lib.hid hK; clear hK) | ((with_reducible refine gI ?_); first | refine wpI_skip rfl ?_ | refine wpI_want rfl ?_) | ((with_reducible refine gOnlyK HK.out ?_ ?_); exact hO.take2; clear HK K; first | (refine wpI_act (by simp only [Act.put, List.setIfInBounds_toArray, List.set_cons_succ, List.set_cons_zero]; rfl) ?_) | skip) | (with_reducible refine wpI_nil ?_))
          replace hO : Own w0 _ (.blk rb (.cells (rC (.slice (some ⟨gP, 0, none⟩) n cP) (.slice aB m cB) used span C1) 91 (0,0)) :: .sl 5 1 (.slice aB m cB) m (u8s b) :: .sl 3 1 (.slice (some ⟨gP, 0, none⟩) n cP) n ((i64s r.p).set a (.int .i64 (learnI pv false))) :: L) := hO
          rw [HSET.out] at hO
          go_loopg [105] 1 (fun q c wr => (q = 1 ∧ c = .int .i64 0 ∧ Own w0 wr (.blk rb (.cells (rC (.slice (some ⟨gP, 0, none⟩) n cP) (.slice aB m cB) used span C1) 91 (0,0)) :: .sl 5 1 (.slice aB m cB) m (u8s b) :: .sl 3 1 (.slice (some ⟨gP, 0, none⟩) n cP) n (i64s u.p) :: L)) ∨ (q = 0 ∧ c = .int .i64 1 ∧ Own w0 wr (.blk rb (.cells (rC (.slice (some ⟨gP, 0, none⟩) n cP) (.slice aB m cB) (used + 1) span C2) 91 (0,0)) :: .sl 5 1 (.slice aB m cB) m (u8s b) :: .sl 3 1 (.slice (some ⟨gP, 0, none⟩) n cP) n (i64s u.p) :: L)))
          case atStart => exact .inl ⟨rfl, rfl, hO⟩
          case round =>
            rcases hrel with ⟨rfl, rfl, hO1⟩ | ⟨rfl, rfl, hO1⟩
            · clear hO
              have hO := hO1
              clear hO1
              go_wp2_with (first
                | (go_at_call 51; refine (octet_calls b c HC.out HU.out HM.out HCD.out C2 HC2.out hO).mono ?_; rintro e ww ⟨rfl, hO2⟩; clear hO; have hO := hO2; clear hO2))
              go_roundg 0
              case measure => omega
              case rel => exact .inr ⟨rfl, rfl, hO⟩
            · clear hO
              have hO := hO1
              clear hO1
              go_wp2_with (first
                | ((with_reducible refine gLoad ?_); first | refine ldX hO 0 rfl rfl (tA rfl) (tS rfl) ?_ | refine ldC hO 0 rfl rfl (tA rfl) rfl ?_)
                | ((with_reducible refine gStore ?_); first | (refine stX hO 0 rfl rfl rfl rfl rfl (tS rfl) ?_; clear hO; intro ww hO) | (refine stC hO 0 rfl rfl rfl (ltb rfl) rfl (tS rfl) ?_; clear hO; intro ww hO)))
              go_ret2
              exact ⟨by rw [HBIT.out]; rfl, by rw [HTT.out]; exact hO⟩
    · have y4 : decide ((m : Int) - (used : Int) < 0) = false := decide_eq_false (by omega)
      have y5 : IntKind.u32.wrap (Z : Int) = (Z : Int) := by simp [IntKind.wrap, IntKind.bits, IntKind.signed]; omega
      have HTT : Hid (t = ⟨u.p, C1, Z, used⟩) := by show _ = _; rw [← HTN.out]; unfold Go.Kc.Rr.norm; rw [if_neg (by rw [HZZ.out]; exact hz), ← HC1.out, ← HZZ.out, ← HU3.out]
      have Y2 : Hid (¬ Z < 16777216) := hz
      clear hz hs2 q1 q2 q3 q4 q5 k3 k4 k5 k6 hc
      go_enter Try.func64, Try.ntmps64
      go_wp2_with (first
        | ((with_reducible refine gG ?_); refine wpList_want rfl ?_)
        | ((with_reducible refine gLoad ?_); first | refine ldX hO 0 rfl rfl (tA rfl) (tS rfl) ?_ | refine ldC hO 0 rfl rfl (tA rfl) rfl ?_))
      refine wp_region_textS (fun w' => Own w0 w' (.blk rb (.cells (rC (.slice (some ⟨gP, 0, none⟩) n cP) (.slice aB m cB) used span C1) 91 (0,0)) :: .sl 5 1 (.slice aB m cB) m (u8s b) :: .sl 3 1 (.slice (some ⟨gP, 0, none⟩) n cP) n (i64s r.p) :: L)) (fun op => match op with | .load _ _ => true | _ => false) (by kernel_rfl) (by kernel_rfl) hO.drew ?_
      replace hO := hO.drew
      generalize World.drew _ = wd at hO ⊢
      go_wp2_with (first
        | (((with_reducible refine gIL ?_); first | refine wpI_ldcS (fun w' hS => hS.blk 0 rfl) rfl rfl (tA rfl) rfl ?_); first | (refine wpI_act (by simp only [Act.put, List.setIfInBounds_toArray, List.set_cons_succ, List.set_cons_zero]; rfl) ?_) | skip)
        | ((with_reducible refine gIL ?_); refine wpI_ld1S (fun w' hS => (hS.slCell 2 rfl (by omega)).trans HG.out) rfl rfl (tA rfl) ?_; first | (refine wpI_act (by simp only [Act.put, List.setIfInBounds_toArray, List.set_cons_succ, List.set_cons_zero]; rfl) ?_) | skip)
        | (go_at_call 61; refine (HSP.out _).mono ?_; rintro e ww ⟨rfl, rfl⟩)
        | ((with_reducible refine gLoad ?_); first | refine ldX hO 0 rfl rfl (tA rfl) (tS rfl) ?_ | refine ldC hO 0 rfl rfl (tA rfl) rfl ?_)
        | ((with_reducible refine gStore ?_); first | (refine stX hO 0 rfl rfl rfl rfl rfl (tS rfl) ?_; clear hO; intro ww hO) | (refine stC hO 0 rfl rfl rfl (ltb rfl) rfl (tS rfl) ?_; clear hO; intro ww hO))
        | ((with_reducible refine gI ?_); refine wpI_step rfl rfl (by kernel_rfl) ?_; intro K hK; have HK := Lib.hid hK; clear hK) | ((with_reducible refine gI ?_); first | refine wpI_skip rfl ?_ | refine wpI_want rfl ?_) | ((with_reducible refine gOnlyK HK.out ?_ ?_); exact hO; clear HK K; first | (refine wpI_act (by simp only [Act.put, List.setIfInBounds_toArray, List.set_cons_succ, List.set_cons_zero]; rfl) ?_) | skip) | (with_reducible refine wpI_nil ?_))
      go_loopg [9, 10] 1 (fun q s9 s10 wr => q ≤ 1 ∧ s9 = .int .i64 0 ∧ s10 = .int .u32 (Z : Int) ∧ Own w0 wr (.blk rb (.cells (rC (.slice (some ⟨gP, 0, none⟩) n cP) (.slice aB m cB) used span C1) 91 (0,0)) :: .sl 5 1 (.slice aB m cB) m (u8s b) :: .sl 3 1 (.slice (some ⟨gP, 0, none⟩) n cP) n (i64s r.p) :: L))
      case atStart => exact ⟨by omega, rfl, rfl, hO⟩
      case round =>
        obtain ⟨hq, rfl, rfl, hO1⟩ := hrel
        clear hO hq
        have hO := hO1
        clear hO1
        have y2 : decide ((Z : Int) < 16777216) = false := decide_eq_false (by have h := Y2.out; omega)
        go_wp2
        clear y2
        refine wp_region_textS (fun w' => Own w0 w' (.blk rb (.cells (rC (.slice (some ⟨gP, 0, none⟩) n cP) (.slice aB m cB) used span C1) 91 (0,0)) :: .sl 5 1 (.slice aB m cB) m (u8s b) :: .sl 3 1 (.slice (some ⟨gP, 0, none⟩) n cP) n (i64s r.p) :: L)) (fun op => match op with | .load _ _ => true | _ => false) (by kernel_rfl) (by kernel_rfl) hO.drew ?_
        replace hO := hO.drew
        generalize World.drew _ = wd at hO ⊢
        go_wp2_with (first
          | (((with_reducible refine gIL ?_); first | refine wpI_ldcS (fun w' hS => hS.blk 0 rfl) rfl rfl (tA rfl) rfl ?_); first | (refine wpI_act (by simp only [Act.put, List.setIfInBounds_toArray, List.set_cons_succ, List.set_cons_zero]; rfl) ?_) | skip)
          | ((with_reducible refine gLoad ?_); first | refine ldX hO 0 rfl rfl (tA rfl) (tS rfl) ?_ | refine ldC hO 0 rfl rfl (tA rfl) rfl ?_)
          | ((with_reducible refine gStore ?_); first | (refine stX hO 0 rfl rfl rfl rfl rfl (tS rfl) ?_; clear hO; intro ww hO) | (refine stC hO 0 rfl rfl rfl (ltb rfl) rfl (tS rfl) ?_; clear hO; intro ww hO))
          | ((with_reducible refine gI ?_); refine wpI_step rfl rfl (by kernel_rfl) ?_; intro K hK; have HK := Lib.hid hK; clear hK) | ((with_reducible refine gI ?_); first | refine wpI_skip rfl ?_ | refine wpI_want rfl ?_) | ((with_reducible refine gOnlyK HK.out ?_ ?_); exact hO; clear HK K; first | (refine wpI_act (by simp only [Act.put, List.setIfInBounds_toArray, List.set_cons_succ, List.set_cons_zero]; rfl) ?_) | skip) | (with_reducible refine wpI_nil ?_))
        replace hO : Own w0 _ (.blk rb (.cells (rC (.slice (some ⟨gP, 0, none⟩) n cP) (.slice aB m cB) used span C1) 91 (0,0)) :: .sl 5 1 (.slice aB m cB) m (u8s b) :: .sl 3 1 (.slice (some ⟨gP, 0, none⟩) n cP) n (i64s r.p) :: L) := hO
        refine wp_region_textS (fun w' => Own w0 w' [.blk rb (.cells (rC (.slice (some ⟨gP, 0, none⟩) n cP) (.slice aB m cB) used span C1) 91 (0,0)), .sl 5 1 (.slice aB m cB) m (u8s b)]) (fun op => match op with | .load _ (.tmp 97) => false | .load _ _ => true | _ => false) (by kernel_rfl) (by kernel_rfl) hO.drew.take2 ?_
        replace hO := hO.drew
        generalize World.drew _ = wd2 at hO ⊢
        go_wp2_with (first
          | (((with_reducible refine gIL ?_); first | refine wpI_ldcS (fun w' hS => hS.blk 0 rfl) rfl rfl (tA rfl) rfl ?_); first | (refine wpI_act (by simp only [Act.put, List.setIfInBounds_toArray, List.set_cons_succ, List.set_cons_zero]; rfl) ?_) | skip)
          | ((with_reducible refine gLoad (T := 3) ?_); refine ld_sl hO 2 rfl rfl HG.out (tA rfl) ?_)
          | (go_at_call 62; refine (HLN.out _).mono ?_; rintro e ww ⟨rfl, rfl⟩)
          | ((with_reducible refine gStore (T := 3) ?_); refine own_setElem hO 2 3 _ _ _ rfl rfl rfl (by omega) ii64s rfl ?_; clear hO; intro ww hO)
          | ((with_reducible refine gI ?_); refine wpI_step rfl rfl (by kernel_rfl) ?_; intro K hK; have HK := Lib.hid hK; clear hK) | ((with_reducible refine gI ?_); first | refine wpI_skip rfl ?_ | refine wpI_want rfl ?_) | ((with_reducible refine gOnlyK HK.out ?_ ?_); exact hO.take2; clear HK K; first | (refine wpI_act (by simp only [Act.put, List.setIfInBounds_toArray, List.set_cons_succ, List.set_cons_zero]; rfl) ?_) | skip) | (with_reducible refine wpI_nil ?_))
        replace hO : Own w0 _ (.blk rb (.cells (rC (.slice (some ⟨gP, 0, none⟩) n cP) (.slice aB m cB) used span C1) 91 (0,0)) :: .sl 5 1 (.slice aB m cB) m (u8s b) :: .sl 3 1 (.slice (some ⟨gP, 0, none⟩) n cP) n ((i64s r.p).set a (.int .i64 (learnI pv false))) :: L) := hO
        rw [HSET.out] at hO
        go_loopg [105] 1 (fun q c wr => q ≤ 1 ∧ c = .int .i64 0 ∧ Own w0 wr (.blk rb (.cells (rC (.slice (some ⟨gP, 0, none⟩) n cP) (.slice aB m cB) used span C1) 91 (0,0)) :: .sl 5 1 (.slice aB m cB) m (u8s b) :: .sl 3 1 (.slice (some ⟨gP, 0, none⟩) n cP) n (i64s u.p) :: L))
        case atStart => exact ⟨by omega, rfl, hO⟩
        case round =>
          obtain ⟨hq, rfl, hO1⟩ := hrel
          clear hO hq
          have hO := hO1
          clear hO1
          go_wp2_with (first
            | ((with_reducible refine gLoad ?_); first | refine ldX hO 0 rfl rfl (tA rfl) (tS rfl) ?_ | refine ldC hO 0 rfl rfl (tA rfl) rfl ?_)
            | ((with_reducible refine gStore ?_); first | (refine stX hO 0 rfl rfl rfl rfl rfl (tS rfl) ?_; clear hO; intro ww hO) | (refine stC hO 0 rfl rfl rfl (ltb rfl) rfl (tS rfl) ?_; clear hO; intro ww hO)))
          go_ret2
          exact ⟨by rw [HBIT.out]; rfl, by rw [HTT.out]; exact hO⟩

set_option maxHeartbeats 8000000 in
set_option maxRecDepth 100000 in
theorem next_short {w0 w : World} {L : List Res} {rb : Nat} {aP : Option Addr} {n cP : Nat} {aB : Option Addr} {m cB : Nat} (r : Go.Kc.Rr) (b : List (BitVec 8)) (hr : Go.Kc.Rok n b r) (hb : b.length = m) (hm : m ≤ 10000000) (a : Nat) (ha : a < n) (hs : ¬ r.may b a)
    (hO : Own w0 w (.blk rb (.cells (rC (.slice aP n cP) (.slice aB m cB) r.used r.span r.code) 91 (0,0)) :: .sl 5 1 (.slice aB m cB) m (u8s b) :: .sl 3 1 (.slice aP n cP) n (i64s r.p) :: L)) :
    Calls Try.prog 64 #[.pointer (some ⟨rb, 0, none⟩), .int .i64 (a : Int)] w fun e w' => e = .returned (.tuple #[.bool false, .int .i64 2]) ∧ Own w0 w' (.blk rb (.cells (rC (.slice aP n cP) (.slice aB m cB) r.used r.span r.code) 91 (0,0)) :: .sl 5 1 (.slice aB m cB) m (u8s b) :: .sl 3 1 (.slice aP n cP) n (i64s r.p) :: L) := by
  obtain ⟨q1, q2⟩ := Go.Kc.rok_part hr ha
  obtain ⟨q3, q4, q5, q6, q7⟩ := Go.Kc.rok_mid hr ha
  obtain ⟨gP, rfl⟩ := hO.slPlace 2 rfl (by omega)
  obtain ⟨k1, k2, k3, k4, k5, k6⟩ := hr
  have hmv := Go.Kc.all_get k2 (by rw [k1]; exact ha)
  rw [kc_may] at hmv
  obtain ⟨pv, hpv⟩ : ∃ pv, r.p.getD a 0 = pv := ⟨_, rfl⟩
  obtain ⟨P, hP⟩ : ∃ P, r.part a = P := ⟨_, rfl⟩
  rw [hpv] at hmv
  rw [hP] at q1 q2
  have hg : (i64s r.p)[a]? = some (.int .i64 pv) := by
    rw [i64s_get r.p a (by omega), ← hpv, List.getD_eq_getElem?_getD, List.getElem?_eq_getElem (by omega)]; rfl
  have hset : (i64s r.p).set a (.int .i64 (learnI pv (r.set a))) = i64s (r.mid a).p := by
    unfold Go.Kc.Rr.mid i64s
    dsimp only
    rw [List.map_set, hpv]; rfl
  have hsp : ∀ w, Calls Try.prog 61 #[.int .u32 (r.span : Int), .int .i64 pv] w fun e w' => e = .returned (.tuple #[.int .u32 (P : Int), .int .i64 0]) ∧ w = w' := fun w => by
    have h := split_calls (r.span : Int) pv w (by omega) (by omega)
    have e : splitOk (r.span : Int) pv = true := by unfold splitOk; rw [hmv, decide_eq_true (by omega)]; rfl
    have e2 : splitI (r.span : Int) pv = (P : Int) := by
      have hp0 := ((mayB_iff pv).1 hmv).1
      rw [← hP]
      unfold splitI Go.Kc.Rr.part
      rw [hpv, Int.natCast_mul, Int.natCast_ediv, Int.toNat_of_nonneg (by omega)]; rfl
    rw [e, if_pos rfl, if_pos rfl, e2] at h
    exact h
  have hln : ∀ bt w, Calls Try.prog 62 #[.int .i64 pv, .bool bt] w fun e w' => e = .returned (.tuple #[.int .i64 (learnI pv bt), .int .i64 0]) ∧ w = w' := fun bt w => by
    have h := Learn_calls pv bt w
    rw [hmv, if_pos rfl, if_pos rfl] at h
    exact h
  have hbit : r.set a = decide (P ≤ r.code) := by rw [← hP]; rfl
  have hm1 : (r.mid a).code = if r.set a then r.code - P else r.code := by rw [← hP]; rfl
  have hm2 : (r.mid a).span = if r.set a then r.span - P else P := by rw [← hP]; rfl
  have hm3 : (r.mid a).used = r.used := rfl
  have HSP := Lib.hid hsp
  have HG := Lib.hid hg
  have hs2 : (r.mid a).span < 16777216 ∧ m ≤ r.used := by
    have h := hs
    rw [Go.Kc.may_iff, hb] at h
    exact Classical.not_not.1 h
  obtain ⟨u, hu⟩ : ∃ u, r.mid a = u := ⟨_, rfl⟩
  rw [hu] at hset hm1 hm2 hm3 hs2 q3 q4 q5
  obtain ⟨used, hus⟩ : ∃ x, r.used = x := ⟨_, rfl⟩
  obtain ⟨span, hsp2⟩ : ∃ x, r.span = x := ⟨_, rfl⟩
  obtain ⟨code, hco⟩ : ∃ x, r.code = x := ⟨_, rfl⟩
  obtain ⟨C1, hC1⟩ : ∃ x, u.code = x := ⟨_, rfl⟩
  obtain ⟨Z, hZ⟩ : ∃ x, u.span = x := ⟨_, rfl⟩
  rw [hus] at hs2 hm3 hO k6
  rw [hsp2] at HSP hm2 hO q2 k3 k4
  rw [hco] at hbit hm1 hO
  rw [hZ] at hm2 hs2 q3 q4 q5
  rw [hC1] at hm1 q3
  rw [hb] at k6
  have HUS := Lib.hid hus
  have HSS := Lib.hid hsp2
  have HCO := Lib.hid hco
  have HB := Lib.hid hb
  have HBIT0 := Lib.hid hbit
  have HM := Lib.hid hm
  have HSET0 := Lib.hid hset
  have HU3 := Lib.hid hm3
  have HC1 := Lib.hid hC1
  have HZZ := Lib.hid hZ
  rw [hbit] at hm1 hm2
  have i1 : IntKind.i64.wrap ((m : Int) - (used : Int)) = (m : Int) - (used : Int) := by rw [IntKind.wrap_i64]; omega
  have i2 : decide ((a : Int) < 0) = false := decide_eq_false (by omega)
  have i3 : decide ((n : Int) ≤ (a : Int)) = false := decide_eq_false (by omega)
  have i4 : decide (n ≤ a) = false := decide_eq_false (by omega)
  clear hb hm k1 k2 hs hmv hpv hP hg hsp hus hsp2 hco hC1 hZ hu q6 q7 hm3
  by_cases hc : P ≤ code
  · have hbt : decide (P ≤ code) = true := decide_eq_true hc
    rw [hbit, hbt] at hset
    rw [hbt] at hm1 hm2
    simp only [Bool.false_eq_true, if_true, if_false] at hm1 hm2
    have HBIT : Hid (r.set a = true) := by show _ = _; rw [HBIT0.out, hbt]
    have HSET := Lib.hid hset
    have HLN := Lib.hid (hln true)
    clear hbit hbt hset hln HSET0 HBIT0
    have dP2 : decide (P ≤ code) = true := decide_eq_true (by omega)
    have dP : decide ((P : Int) ≤ (code : Int)) = true := decide_eq_true (by omega)
    have a3 : IntKind.u32.wrap ((span : Int) - (P : Int)) = (Z : Int) := by simp [IntKind.wrap, IntKind.bits, IntKind.signed]; omega
    clear hm1 hm2
    obtain ⟨Y, hY⟩ : ∃ x, Z * 256 = x := ⟨_, rfl⟩
    have y1 : IntKind.u32.wrap ((Z : Int) * 256) = (Y : Int) := by simp [IntKind.wrap, IntKind.bits, IntKind.signed]; omega
    have y4 : decide ((m : Int) - (used : Int) < 1) = true := decide_eq_true (by omega)
    have YB : Hid (Z * 256 = Y) := hY
    have Y2 : Hid (Z < 16777216) := hs2.1
    have Y3 : Hid (16777216 ≤ Y) := by show _ ≤ _; omega
    clear hY hs2 q1 q2 q3 q4 q5 k3 k4 k5 k6 hc
    go_enter Try.func64, Try.ntmps64
    go_wp2_with (first
      | ((with_reducible refine gG ?_); refine wpList_want rfl ?_)
      | ((with_reducible refine gLoad ?_); first | refine ldX hO 0 rfl rfl (tA rfl) (tS rfl) ?_ | refine ldC hO 0 rfl rfl (tA rfl) rfl ?_))
    refine wp_region_textS (fun w' => Own w0 w' (.blk rb (.cells (rC (.slice (some ⟨gP, 0, none⟩) n cP) (.slice aB m cB) used span code) 91 (0,0)) :: .sl 5 1 (.slice aB m cB) m (u8s b) :: .sl 3 1 (.slice (some ⟨gP, 0, none⟩) n cP) n (i64s r.p) :: L)) (fun op => match op with | .load _ _ => true | _ => false) (by kernel_rfl) (by kernel_rfl) hO.drew ?_
    replace hO := hO.drew
    generalize World.drew _ = wd at hO ⊢
    go_wp2_with (first
      | (((with_reducible refine gIL ?_); first | refine wpI_ldcS (fun w' hS => hS.blk 0 rfl) rfl rfl (tA rfl) rfl ?_); first | (refine wpI_act (by simp only [Act.put, List.setIfInBounds_toArray, List.set_cons_succ, List.set_cons_zero]; rfl) ?_) | skip)
      | ((with_reducible refine gIL ?_); refine wpI_ld1S (fun w' hS => (hS.slCell 2 rfl (by omega)).trans HG.out) rfl rfl (tA rfl) ?_; first | (refine wpI_act (by simp only [Act.put, List.setIfInBounds_toArray, List.set_cons_succ, List.set_cons_zero]; rfl) ?_) | skip)
      | (go_at_call 61; refine (HSP.out _).mono ?_; rintro e ww ⟨rfl, rfl⟩)
      | ((with_reducible refine gLoad ?_); first | refine ldX hO 0 rfl rfl (tA rfl) (tS rfl) ?_ | refine ldC hO 0 rfl rfl (tA rfl) rfl ?_)
      | ((with_reducible refine gStore ?_); first | (refine stX hO 0 rfl rfl rfl rfl rfl (tS rfl) ?_; clear hO; intro ww hO) | (refine stC hO 0 rfl rfl rfl (ltb rfl) rfl (tS rfl) ?_; clear hO; intro ww hO))
      | ((with_reducible refine gI ?_); refine wpI_step rfl rfl (by kernel_rfl) ?_; intro K hK; have HK := Lib.hid hK; clear hK) | ((with_reducible refine gI ?_); first | refine wpI_skip rfl ?_ | refine wpI_want rfl ?_) | ((with_reducible refine gOnlyK HK.out ?_ ?_); exact hO; clear HK K; first | (refine wpI_act (by simp only [Act.put, List.setIfInBounds_toArray, List.set_cons_succ, List.set_cons_zero]; rfl) ?_) | skip) | (with_reducible refine wpI_nil ?_))
    go_loopg [9, 10] 1 (fun q s9 s10 wr => Own w0 wr (.blk rb (.cells (rC (.slice (some ⟨gP, 0, none⟩) n cP) (.slice aB m cB) used span code) 91 (0,0)) :: .sl 5 1 (.slice aB m cB) m (u8s b) :: .sl 3 1 (.slice (some ⟨gP, 0, none⟩) n cP) n (i64s r.p) :: L) ∧ ((q = 1 ∧ s9 = .int .i64 0 ∧ s10 = .int .u32 (Z : Int)) ∨ (q = 0 ∧ s9 = .int .i64 1 ∧ s10 = .int .u32 (Y : Int))))
    case atStart => exact ⟨hO, .inl ⟨rfl, rfl, rfl⟩⟩
    case round =>
      obtain ⟨hO1, hrel⟩ := hrel
      clear hO
      have hO := hO1
      clear hO1
      rcases hrel with ⟨rfl, rfl, rfl⟩ | ⟨rfl, rfl, rfl⟩
      · have y2 : decide ((Z : Int) < 16777216) = true := decide_eq_true (by have h := Y2.out; omega)
        go_wp2
        go_roundg 0
        case measure => omega
        case rel => exact ⟨hO, .inr ⟨rfl, rfl, rfl⟩⟩
      · have y3 : decide ((Y : Int) < 16777216) = false := decide_eq_false (by have h := Y3.out; omega)
        go_wp2
        clear y3
        refine wp_region_textS (fun w' => Own w0 w' (.blk rb (.cells (rC (.slice (some ⟨gP, 0, none⟩) n cP) (.slice aB m cB) used span code) 91 (0,0)) :: .sl 5 1 (.slice aB m cB) m (u8s b) :: .sl 3 1 (.slice (some ⟨gP, 0, none⟩) n cP) n (i64s r.p) :: L)) (fun op => match op with | .load _ _ => true | _ => false) (by kernel_rfl) (by kernel_rfl) hO.drew ?_
        replace hO := hO.drew
        generalize World.drew _ = wd at hO ⊢
        go_wp2_with (first
          | (((with_reducible refine gIL ?_); first | refine wpI_ldcS (fun w' hS => hS.blk 0 rfl) rfl rfl (tA rfl) rfl ?_); first | (refine wpI_act (by simp only [Act.put, List.setIfInBounds_toArray, List.set_cons_succ, List.set_cons_zero]; rfl) ?_) | skip)
          | ((with_reducible refine gLoad ?_); first | refine ldX hO 0 rfl rfl (tA rfl) (tS rfl) ?_ | refine ldC hO 0 rfl rfl (tA rfl) rfl ?_)
          | ((with_reducible refine gStore ?_); first | (refine stX hO 0 rfl rfl rfl rfl rfl (tS rfl) ?_; clear hO; intro ww hO) | (refine stC hO 0 rfl rfl rfl (ltb rfl) rfl (tS rfl) ?_; clear hO; intro ww hO))
          | ((with_reducible refine gI ?_); refine wpI_step rfl rfl (by kernel_rfl) ?_; intro K hK; have HK := Lib.hid hK; clear hK) | ((with_reducible refine gI ?_); first | refine wpI_skip rfl ?_ | refine wpI_want rfl ?_) | ((with_reducible refine gOnlyK HK.out ?_ ?_); exact hO; clear HK K; first | (refine wpI_act (by simp only [Act.put, List.setIfInBounds_toArray, List.set_cons_succ, List.set_cons_zero]; rfl) ?_) | skip) | (with_reducible refine wpI_nil ?_))
        go_ret2
        exact ⟨rfl, by rw [HUS.out, HSS.out, HCO.out]; exact hO⟩
  · have hbt : decide (P ≤ code) = false := decide_eq_false hc
    rw [hbit, hbt] at hset
    rw [hbt] at hm1 hm2
    simp only [Bool.false_eq_true, if_true, if_false] at hm1 hm2
    have HBIT : Hid (r.set a = false) := by show _ = _; rw [HBIT0.out, hbt]
    have HSET := Lib.hid hset
    have HLN := Lib.hid (hln false)
    clear hbit hbt hset hln HSET0 HBIT0
    have dP2 : decide (P ≤ code) = false := decide_eq_false (by omega)
    have dP : decide ((P : Int) ≤ (code : Int)) = false := decide_eq_false (by omega)
    subst hm1
    subst hm2
    obtain ⟨Y, hY⟩ : ∃ x, Z * 256 = x := ⟨_, rfl⟩
    have y1 : IntKind.u32.wrap ((Z : Int) * 256) = (Y : Int) := by simp [IntKind.wrap, IntKind.bits, IntKind.signed]; omega
    have y4 : decide ((m : Int) - (used : Int) < 1) = true := decide_eq_true (by omega)
    have YB : Hid (Z * 256 = Y) := hY
    have Y2 : Hid (Z < 16777216) := hs2.1
    have Y3 : Hid (16777216 ≤ Y) := by show _ ≤ _; omega
    clear hY hs2 q1 q2 q3 q4 q5 k3 k4 k5 k6 hc
    go_enter Try.func64, Try.ntmps64
    go_wp2_with (first
      | ((with_reducible refine gG ?_); refine wpList_want rfl ?_)
      | ((with_reducible refine gLoad ?_); first | refine ldX hO 0 rfl rfl (tA rfl) (tS rfl) ?_ | refine ldC hO 0 rfl rfl (tA rfl) rfl ?_))
    refine wp_region_textS (fun w' => Own w0 w' (.blk rb (.cells (rC (.slice (some ⟨gP, 0, none⟩) n cP) (.slice aB m cB) used span C1) 91 (0,0)) :: .sl 5 1 (.slice aB m cB) m (u8s b) :: .sl 3 1 (.slice (some ⟨gP, 0, none⟩) n cP) n (i64s r.p) :: L)) (fun op => match op with | .load _ _ => true | _ => false) (by kernel_rfl) (by kernel_rfl) hO.drew ?_
    replace hO := hO.drew
    generalize World.drew _ = wd at hO ⊢
    go_wp2_with (first
      | (((with_reducible refine gIL ?_); first | refine wpI_ldcS (fun w' hS => hS.blk 0 rfl) rfl rfl (tA rfl) rfl ?_); first | (refine wpI_act (by simp only [Act.put, List.setIfInBounds_toArray, List.set_cons_succ, List.set_cons_zero]; rfl) ?_) | skip)
      | ((with_reducible refine gIL ?_); refine wpI_ld1S (fun w' hS => (hS.slCell 2 rfl (by omega)).trans HG.out) rfl rfl (tA rfl) ?_; first | (refine wpI_act (by simp only [Act.put, List.setIfInBounds_toArray, List.set_cons_succ, List.set_cons_zero]; rfl) ?_) | skip)
      | (go_at_call 61; refine (HSP.out _).mono ?_; rintro e ww ⟨rfl, rfl⟩)
      | ((with_reducible refine gLoad ?_); first | refine ldX hO 0 rfl rfl (tA rfl) (tS rfl) ?_ | refine ldC hO 0 rfl rfl (tA rfl) rfl ?_)
      | ((with_reducible refine gStore ?_); first | (refine stX hO 0 rfl rfl rfl rfl rfl (tS rfl) ?_; clear hO; intro ww hO) | (refine stC hO 0 rfl rfl rfl (ltb rfl) rfl (tS rfl) ?_; clear hO; intro ww hO))
      | ((with_reducible refine gI ?_); refine wpI_step rfl rfl (by kernel_rfl) ?_; intro K hK; have HK := Lib.hid hK; clear hK) | ((with_reducible refine gI ?_); first | refine wpI_skip rfl ?_ | refine wpI_want rfl ?_) | ((with_reducible refine gOnlyK HK.out ?_ ?_); exact hO; clear HK K; first | (refine wpI_act (by simp only [Act.put, List.setIfInBounds_toArray, List.set_cons_succ, List.set_cons_zero]; rfl) ?_) | skip) | (with_reducible refine wpI_nil ?_))
    go_loopg [9, 10] 1 (fun q s9 s10 wr => Own w0 wr (.blk rb (.cells (rC (.slice (some ⟨gP, 0, none⟩) n cP) (.slice aB m cB) used span C1) 91 (0,0)) :: .sl 5 1 (.slice aB m cB) m (u8s b) :: .sl 3 1 (.slice (some ⟨gP, 0, none⟩) n cP) n (i64s r.p) :: L) ∧ ((q = 1 ∧ s9 = .int .i64 0 ∧ s10 = .int .u32 (Z : Int)) ∨ (q = 0 ∧ s9 = .int .i64 1 ∧ s10 = .int .u32 (Y : Int))))
    case atStart => exact ⟨hO, .inl ⟨rfl, rfl, rfl⟩⟩
    case round =>
      obtain ⟨hO1, hrel⟩ := hrel
      clear hO
      have hO := hO1
      clear hO1
      rcases hrel with ⟨rfl, rfl, rfl⟩ | ⟨rfl, rfl, rfl⟩
      · have y2 : decide ((Z : Int) < 16777216) = true := decide_eq_true (by have h := Y2.out; omega)
        go_wp2
        go_roundg 0
        case measure => omega
        case rel => exact ⟨hO, .inr ⟨rfl, rfl, rfl⟩⟩
      · have y3 : decide ((Y : Int) < 16777216) = false := decide_eq_false (by have h := Y3.out; omega)
        go_wp2
        clear y3
        refine wp_region_textS (fun w' => Own w0 w' (.blk rb (.cells (rC (.slice (some ⟨gP, 0, none⟩) n cP) (.slice aB m cB) used span C1) 91 (0,0)) :: .sl 5 1 (.slice aB m cB) m (u8s b) :: .sl 3 1 (.slice (some ⟨gP, 0, none⟩) n cP) n (i64s r.p) :: L)) (fun op => match op with | .load _ _ => true | _ => false) (by kernel_rfl) (by kernel_rfl) hO.drew ?_
        replace hO := hO.drew
        generalize World.drew _ = wd at hO ⊢
        go_wp2_with (first
          | (((with_reducible refine gIL ?_); first | refine wpI_ldcS (fun w' hS => hS.blk 0 rfl) rfl rfl (tA rfl) rfl ?_); first | (refine wpI_act (by simp only [Act.put, List.setIfInBounds_toArray, List.set_cons_succ, List.set_cons_zero]; rfl) ?_) | skip)
          | ((with_reducible refine gLoad ?_); first | refine ldX hO 0 rfl rfl (tA rfl) (tS rfl) ?_ | refine ldC hO 0 rfl rfl (tA rfl) rfl ?_)
          | ((with_reducible refine gStore ?_); first | (refine stX hO 0 rfl rfl rfl rfl rfl (tS rfl) ?_; clear hO; intro ww hO) | (refine stC hO 0 rfl rfl rfl (ltb rfl) rfl (tS rfl) ?_; clear hO; intro ww hO))
          | ((with_reducible refine gI ?_); refine wpI_step rfl rfl (by kernel_rfl) ?_; intro K hK; have HK := Lib.hid hK; clear hK) | ((with_reducible refine gI ?_); first | refine wpI_skip rfl ?_ | refine wpI_want rfl ?_) | ((with_reducible refine gOnlyK HK.out ?_ ?_); exact hO; clear HK K; first | (refine wpI_act (by simp only [Act.put, List.setIfInBounds_toArray, List.set_cons_succ, List.set_cons_zero]; rfl) ?_) | skip) | (with_reducible refine wpI_nil ?_))
        go_ret2
        exact ⟨rfl, by rw [HUS.out, HSS.out, HCO.out]; exact hO⟩

end Go.Proofs.Ytnkpjmcgecdkfaa
