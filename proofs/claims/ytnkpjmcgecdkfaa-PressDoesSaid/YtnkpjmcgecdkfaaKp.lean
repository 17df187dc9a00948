/- Walk: the writer's put. -/
import Derived.Test.YtnkpjmcgecdkfaaKw
namespace Go.Own
open Go.RowKit
/-- in any order -/
theorem Own.perm {w0 w : World} {L L' : List Res} (h : Own w0 w L) (hp : L.Perm L') : Own w0 w L' :=
  ⟨h.below, fun r hr => h.mem r (hp.mem_iff.2 hr), hp.pairwise h.apart (fun h => h.symm)⟩
/-- the first behind the two that follow -/
theorem Own.rot3 {w0 w : World} {L : List Res} {x y z : Res} (h : Own w0 w (x :: y :: z :: L)) : Own w0 w (y :: z :: x :: L) :=
  h.perm ((List.Perm.swap y x (z :: L)).trans (List.Perm.cons y (List.Perm.swap z x L)))
end Go.Own
namespace Go.Kc
theorem mid_bounds {s : Ws} {r : Rc} (h : Sim s r) (g : r.Good) {a : Nat} (b : Bool) (ha : a < r.p.length) :
    253952 ≤ s.part a ∧ s.part a + 253952 ≤ s.span ∧ s.low + s.span ≤ 8589934592 ∧ 16777216 ≤ s.span ∧ s.span < 4294967296 ∧ (s.mid a b).low + (s.mid a b).span ≤ 8589934592 ∧ 253952 ≤ (s.mid a b).span ∧ (s.mid a b).span < 4294967296 := by
  obtain ⟨b1, b2, _⟩ := part_bounds g ha
  have hpart : s.part a = r.part a := by unfold Ws.part Rc.part; rw [h.p, h.span]
  have hm := (sim_mid h g b ha)
  obtain ⟨m1, m2, _⟩ := mid_span g b ha
  have h6 := h.holds.low
  have h7 := hm.holds.low
  have g1 := g.lo
  have g2 := g.hi
  rw [hpart, h.span, hm.span]
  exact ⟨b1, b2, h6, g1, g2, h7, m1, m2⟩
end Go.Kc
namespace Go.Proofs.Ytnkpjmcgecdkfaa
open Go.RowKit Go.Own Go.Bv Go.Ord Go.Eq Go.Opn Go.Pb

theorem kc_may (p : Int) : Go.Kc.mayB p = mayB p := rfl
theorem kc_learn (p : Int) (b : Bool) : Go.Kc.learnI p b = learnI p b := rfl

set_option maxHeartbeats 8000000 in
set_option maxRecDepth 100000 in
theorem put_calls {w0 w : World} {L : List Res} {wb : Nat} {aP : Option Addr} {n cP : Nat} {aO : Option Addr} {cO : Nat} (s : Go.Kc.Ws) (r : Go.Kc.Rc) (hs : Go.Kc.Sim s r) (g : r.Good) (a : Nat) (b : Bool) (ha : a < r.p.length) (hk : r.k ≤ 1000000) (hn : n = s.p.length) (t : Go.Kc.Ws) (ht : s.step a b = t)
    (hO : Own w0 w (.blk wb (.cells (wC (.slice aP n cP) s.low s.span s.kept s.many (.slice aO s.out.length cO)) 80 (0,0)) :: .sl 5 1 (.slice aO s.out.length cO) s.out.length (u8s s.out) :: .sl 3 1 (.slice aP n cP) n (i64s s.p) :: L)) :
    Calls Try.prog 41 #[.pointer (some ⟨wb, 0, none⟩), .agg (Bt.C ⟨(a : Int), b⟩)] w fun e w' => ∃ a' c', e = .returned (.int .i64 0) ∧
      Own w0 w' (.blk wb (.cells (wC (.slice aP n cP) t.low t.span t.kept t.many (.slice a' t.out.length c')) 80 (0,0)) :: .sl 5 1 (.slice a' t.out.length c') t.out.length (u8s t.out) :: .sl 3 1 (.slice aP n cP) n (i64s t.p) :: L) := by
  obtain ⟨q1, q2, q3, q4, q5, q6, q7, q8⟩ := Go.Kc.mid_bounds hs g b ha
  have hps : s.p.length = r.p.length := by rw [hs.p]
  have han : a < n := by omega
  have hmv := Go.Kc.all_get g.may ha
  rw [← hs.p, kc_may] at hmv
  have hH := hs.holds
  have hkept := hH.kept
  have hlen := hH.len
  have hmany := hH.many
  obtain ⟨pv, hpv⟩ : ∃ pv, s.p.getD a 0 = pv := ⟨_, rfl⟩
  obtain ⟨P, hP⟩ : ∃ P, s.part a = P := ⟨_, rfl⟩
  rw [hpv] at hmv
  rw [hP] at q1 q2
  have hg : (i64s s.p)[a]? = some (.int .i64 pv) := by
    rw [i64s_get s.p a (by omega), ← hpv, List.getD_eq_getElem?_getD, List.getElem?_eq_getElem (by omega)]; rfl
  have hset : (i64s s.p).set a (.int .i64 (learnI pv b)) = i64s (s.mid a b).p := by
    unfold Go.Kc.Ws.mid i64s
    dsimp only
    rw [List.map_set, hpv]; rfl
  have hsp : ∀ w, Calls Try.prog 61 #[.int .u32 (s.span : Int), .int .i64 pv] w fun e w' => e = .returned (.tuple #[.int .u32 (P : Int), .int .i64 0]) ∧ w = w' := fun w => by
    have h := split_calls (s.span : Int) pv w (by omega) (by omega)
    have e : splitOk (s.span : Int) pv = true := by unfold splitOk; rw [hmv, decide_eq_true (by omega)]; rfl
    have e2 : splitI (s.span : Int) pv = (P : Int) := by
      have hp0 := ((mayB_iff pv).1 hmv).1
      rw [← hP]
      unfold splitI Go.Kc.Ws.part
      rw [hpv, Int.natCast_mul, Int.natCast_ediv, Int.toNat_of_nonneg (by omega)]; rfl
    rw [e, if_pos rfl, if_pos rfl, e2] at h
    exact h
  have hln : ∀ w, Calls Try.prog 62 #[.int .i64 pv, .bool b] w fun e w' => e = .returned (.tuple #[.int .i64 (learnI pv b), .int .i64 0]) ∧ w = w' := fun w => by
    have h := Learn_calls pv b w
    rw [hmv, if_pos rfl, if_pos rfl] at h
    exact h
  have HSP := Lib.hid hsp
  have HLN := Lib.hid hln
  have HG := Lib.hid hg
  have HSET := Lib.hid hset
  have HT := Lib.hid ht
  have hsn : (Go.Kc.Ws.mid s a b).norm = t := ht
  have HTN := Lib.hid hsn
  have hmid1 : (s.mid a b).low = if b then s.low + P else s.low := by rw [← hP]; rfl
  have hmid2 : (s.mid a b).span = if b then s.span - P else P := by rw [← hP]; rfl
  have HM1 := Lib.hid hmid1
  have HM2 := Lib.hid hmid2
  have hmk : (s.mid a b).kept = s.kept ∧ (s.mid a b).many = s.many ∧ (s.mid a b).out = s.out := ⟨rfl, rfl, rfl⟩
  have HMK := Lib.hid hmk
  obtain ⟨u, hu⟩ : ∃ u, s.mid a b = u := ⟨_, rfl⟩
  rw [hu] at q6 q7 q8 HSET HTN HM1 HM2 HMK
  obtain ⟨low, hlow⟩ : ∃ x, s.low = x := ⟨_, rfl⟩
  obtain ⟨span, hspan⟩ : ∃ x, s.span = x := ⟨_, rfl⟩
  obtain ⟨kept, hkp⟩ : ∃ x, s.kept = x := ⟨_, rfl⟩
  obtain ⟨many, hmn⟩ : ∃ x, s.many = x := ⟨_, rfl⟩
  obtain ⟨M, hM⟩ : ∃ x, s.out.length = x := ⟨_, rfl⟩
  rw [hspan] at HSP HM2 q2 q3 q4 q5
  rw [hlow] at HM1 q3
  rw [hkp, hmn] at HMK
  rw [hkp] at hkept
  rw [hmn] at hlen hmany
  rw [hM] at hlen
  rw [hlow, hspan, hkp, hmn, hM] at hO
  have hOut : u.out.length = M := by rw [HMK.out.2.2, hM]
  have HOUT := Lib.hid hOut
  have hbnd : M + many ≤ 1000001 := by omega
  clear hs g hk hn ht hps hmv hH hpv hP hg hset hsp hln hsn hmid1 hmid2 hmk hu hlow hspan hkp hmn hM hOut hlen ha
  obtain ⟨gP, rfl⟩ := hO.slPlace 2 rfl (by omega)
  cases b
  · simp only [Bool.false_eq_true, if_true, if_false] at HM1 HM2
    have hm1 := HM1.out
    have hm2 := HM2.out
    subst hm1
    subst hm2
    clear HM1 HM2
    go_enter Try.func41, Try.ntmps41
    go_wp2_with (first
      | ((with_reducible refine gBox ?_); first | (refine bxA hO rfl ?_; clear hO; intro xb ww hO) | (refine bx1 hO rfl rfl ?_; clear hO; intro xb ww hO)))
    replace hO : Own w0 _ (.blk xb (.cells (Bt.C ⟨(a : Int), false⟩) 32 (0,0)) :: .blk wb (.cells (wC (.slice (some ⟨gP, 0, none⟩) n cP) u.low span kept many (.slice aO M cO)) 80 (0,0)) :: .sl 5 1 (.slice aO M cO) M (u8s s.out) :: .sl 3 1 (.slice (some ⟨gP, 0, none⟩) n cP) n (i64s s.p) :: L) := hO
    refine wp_region_textS (fun w' => Own w0 w' (.blk xb (.cells (Bt.C ⟨(a : Int), false⟩) 32 (0,0)) :: .blk wb (.cells (wC (.slice (some ⟨gP, 0, none⟩) n cP) u.low span kept many (.slice aO M cO)) 80 (0,0)) :: .sl 5 1 (.slice aO M cO) M (u8s s.out) :: .sl 3 1 (.slice (some ⟨gP, 0, none⟩) n cP) n (i64s s.p) :: L)) (fun op => match op with | .load _ _ => true | _ => false) (by kernel_rfl) (by kernel_rfl) hO.drew ?_
    replace hO := hO.drew
    generalize World.drew _ = wd at hO ⊢
    go_wp2_with (first
      | (((with_reducible refine gIL ?_); first | refine wpI_ldcS (fun w' hS => hS.blk 0 rfl) rfl rfl (tA rfl) rfl ?_ | refine wpI_ldcS (fun w' hS => hS.blk 1 rfl) rfl rfl (tA rfl) rfl ?_); first | (refine wpI_act (by simp only [Act.put, List.setIfInBounds_toArray, List.set_cons_succ, List.set_cons_zero]; rfl) ?_) | skip)
      | ((with_reducible refine gIL ?_); refine wpI_ld1S (fun w' hS => (hS.slCell 3 rfl (by omega)).trans HG.out) rfl rfl (tA rfl) ?_; first | (refine wpI_act (by simp only [Act.put, List.setIfInBounds_toArray, List.set_cons_succ, List.set_cons_zero]; rfl) ?_) | skip)
      | (go_at_call 61; refine (HSP.out _).mono ?_; rintro e ww ⟨rfl, rfl⟩)
      | ((with_reducible refine gLoad ?_); first | refine ldX hO 0 rfl rfl (tA rfl) (tS rfl) ?_ | refine ldC hO 0 rfl rfl (tA rfl) rfl ?_ | refine ldX hO 1 rfl rfl (tA rfl) (tS rfl) ?_ | refine ldC hO 1 rfl rfl (tA rfl) rfl ?_)
      | ((with_reducible refine gStore ?_); first | (refine stX hO 0 rfl rfl rfl rfl rfl (tS rfl) ?_; clear hO; intro ww hO) | (refine stC hO 0 rfl rfl rfl (ltb rfl) rfl (tS rfl) ?_; clear hO; intro ww hO) | (refine stX hO 1 rfl rfl rfl rfl rfl (tS rfl) ?_; clear hO; intro ww hO) | (refine stC hO 1 rfl rfl rfl (ltb rfl) rfl (tS rfl) ?_; clear hO; intro ww hO))
      | ((with_reducible refine gI ?_); refine wpI_step rfl rfl (by kernel_rfl) ?_; intro K hK; have HK := Lib.hid hK; clear hK) | ((with_reducible refine gI ?_); first | refine wpI_skip rfl ?_ | refine wpI_want rfl ?_) | ((with_reducible refine gOnlyK HK.out ?_ ?_); exact hO; clear HK K; first | (refine wpI_act (by simp only [Act.put, List.setIfInBounds_toArray, List.set_cons_succ, List.set_cons_zero]; rfl) ?_) | skip) | (with_reducible refine wpI_nil ?_))
    replace hO : Own w0 _ (.blk xb (.cells (Bt.C ⟨(a : Int), false⟩) 32 (0,0)) :: .blk wb (.cells (wC (.slice (some ⟨gP, 0, none⟩) n cP) u.low u.span kept many (.slice aO M cO)) 80 (0,0)) :: .sl 5 1 (.slice aO M cO) M (u8s s.out) :: .sl 3 1 (.slice (some ⟨gP, 0, none⟩) n cP) n (i64s s.p) :: L) := hO
    refine wp_region_textS (fun w' => Own w0 w' [.blk xb (.cells (Bt.C ⟨(a : Int), false⟩) 32 (0,0)), .blk wb (.cells (wC (.slice (some ⟨gP, 0, none⟩) n cP) u.low u.span kept many (.slice aO M cO)) 80 (0,0))]) (fun op => match op with | .load _ (.tmp 62) => false | .load _ _ => true | _ => false) (by kernel_rfl) (by kernel_rfl) hO.drew.take2 ?_
    replace hO := hO.drew
    generalize World.drew _ = wd2 at hO ⊢
    go_wp2_with (first
      | (((with_reducible refine gIL ?_); first | refine wpI_ldcS (fun w' hS => hS.blk 0 rfl) rfl rfl (tA rfl) rfl ?_ | refine wpI_ldcS (fun w' hS => hS.blk 1 rfl) rfl rfl (tA rfl) rfl ?_); first | (refine wpI_act (by simp only [Act.put, List.setIfInBounds_toArray, List.set_cons_succ, List.set_cons_zero]; rfl) ?_) | skip)
      | ((with_reducible refine gLoad (T := 3) ?_); refine ld_sl hO 3 rfl rfl HG.out (tA rfl) ?_)
      | (go_at_call 62; refine (HLN.out _).mono ?_; rintro e ww ⟨rfl, rfl⟩)
      | ((with_reducible refine gStore (T := 3) ?_); refine own_setElem hO 3 3 _ _ _ rfl rfl rfl (by omega) ii64s rfl ?_; clear hO; intro ww hO)
      | ((with_reducible refine gI ?_); refine wpI_step rfl rfl (by kernel_rfl) ?_; intro K hK; have HK := Lib.hid hK; clear hK) | ((with_reducible refine gI ?_); first | refine wpI_skip rfl ?_ | refine wpI_want rfl ?_) | ((with_reducible refine gOnlyK HK.out ?_ ?_); exact hO.take2; clear HK K; first | (refine wpI_act (by simp only [Act.put, List.setIfInBounds_toArray, List.set_cons_succ, List.set_cons_zero]; rfl) ?_) | skip) | (with_reducible refine wpI_nil ?_))
    replace hO : Own w0 _ (.blk xb (.cells (Bt.C ⟨(a : Int), false⟩) 32 (0,0)) :: .blk wb (.cells (wC (.slice (some ⟨gP, 0, none⟩) n cP) u.low u.span kept many (.slice aO M cO)) 80 (0,0)) :: .sl 5 1 (.slice aO M cO) M (u8s s.out) :: .sl 3 1 (.slice (some ⟨gP, 0, none⟩) n cP) n ((i64s s.p).set a (.int .i64 (learnI pv false))) :: L) := hO
    replace hO := hO.tail
    rw [HSET.out, ← HMK.out.1, ← HMK.out.2.1, ← HMK.out.2.2, ← HOUT.out] at hO
    have hk1 : u.kept < 256 := by rw [HMK.out.1]; exact hkept
    have hm1 : 1 ≤ u.many := by rw [HMK.out.2.1]; exact hmany
    have hm2 : u.out.length + u.many ≤ 10000000 := by rw [HMK.out.2.1, HOUT.out]; omega
    have hl1 : u.low < 8589934592 := by omega
    have HK1 := Lib.hid hk1
    have HK2 := Lib.hid hm1
    have HK3 := Lib.hid hm2
    have HK4 := Lib.hid hl1
    clear hk1 hm1 hm2 hl1 HMK HOUT HSET HT HG HLN HSP hkept hmany hbnd han q1 q2 q3 q4 q5
    go_loopg [] 1 (fun m wr => (m = 1 ∧ u.span < 16777216 ∧ Own w0 wr (.blk wb (.cells (wC (.slice (some ⟨gP, 0, none⟩) n cP) u.low u.span u.kept u.many (.slice aO u.out.length cO)) 80 (0,0)) :: .sl 5 1 (.slice aO u.out.length cO) u.out.length (u8s u.out) :: .sl 3 1 (.slice (some ⟨gP, 0, none⟩) n cP) n (i64s u.p) :: L)) ∨
      (m ≤ 1 ∧ 16777216 ≤ t.span ∧ ∃ aJ cJ, Own w0 wr (.blk wb (.cells (wC (.slice (some ⟨gP, 0, none⟩) n cP) t.low t.span t.kept t.many (.slice aJ t.out.length cJ)) 80 (0,0)) :: .sl 5 1 (.slice aJ t.out.length cJ) t.out.length (u8s t.out) :: .sl 3 1 (.slice (some ⟨gP, 0, none⟩) n cP) n (i64s t.p) :: L)))
    case atStart =>
      by_cases hc : u.span < 16777216
      · exact .inl ⟨rfl, hc, hO⟩
      · obtain rfl : u = t := by rw [← HTN.out]; unfold Go.Kc.Ws.norm; rw [if_neg hc]
        exact .inr ⟨by omega, by omega, aO, cO, hO⟩
    case round =>
      rcases hrel with ⟨rfl, hc, hO1⟩ | ⟨hm, hc, aJ, cJ, hO1⟩
      · clear hO
        have hO := hO1
        clear hO1
        obtain ⟨z, hz⟩ : ∃ z, u.span * 256 = z := ⟨_, rfl⟩
        have b1 : IntKind.u32.wrap ((u.span : Int) * 256) = (z : Int) := by simp [IntKind.wrap, IntKind.bits, IntKind.signed]; omega
        have HZ : Hid (t = { u.move with span := z }) := by show _ = _; rw [← HTN.out, ← hz]; unfold Go.Kc.Ws.norm; rw [if_pos hc]
        have hz2 : 16777216 ≤ z := by omega
        have HP : Hid (u.move.p = u.p) := by show _ = _; unfold Go.Kc.Ws.move; split <;> rfl
        have HC := Lib.hid hc
        have HZ2 := Lib.hid hz2
        have d1 : decide ((u.span : Int) < 16777216) = true := decide_eq_true (by omega)
        clear hz hc hz2 q6 q7 q8
        go_wp2_with (first
          | ((with_reducible refine gLoad ?_); first | refine ldX hO 0 rfl rfl (tA rfl) (tS rfl) ?_ | refine ldC hO 0 rfl rfl (tA rfl) rfl ?_)
          | ((with_reducible refine gStore ?_); first | (refine stX hO 0 rfl rfl rfl rfl rfl (tS rfl) ?_; clear hO; intro ww hO) | (refine stC hO 0 rfl rfl rfl (ltb rfl) rfl (tS rfl) ?_; clear hO; intro ww hO))
          | (go_at_call 42; refine (move_calls rfl u hO HK4.out HK1.out HK2.out rfl HK3.out).mono ?_; rintro e ww ⟨a2, c2, rfl, hO2⟩; clear hO; have hO := hO2; clear hO2))
        go_roundg 0
        case measure => omega
        case rel =>
          right
          rw [HZ.out]
          refine ⟨by omega, HZ2.out, a2, c2, ?_⟩
          rw [← HP.out] at hO
          exact hO
      · clear hO
        have hO := hO1
        clear hO1
        have d1 : decide ((t.span : Int) < 16777216) = false := decide_eq_false (by omega)
        clear hc hm q6 q7 q8
        go_wp2_with (first
          | ((with_reducible refine gLoad ?_); first | refine ldX hO 0 rfl rfl (tA rfl) (tS rfl) ?_ | refine ldC hO 0 rfl rfl (tA rfl) rfl ?_)
          | ((with_reducible refine gStore ?_); first | (refine stX hO 0 rfl rfl rfl rfl rfl (tS rfl) ?_; clear hO; intro ww hO) | (refine stC hO 0 rfl rfl rfl (ltb rfl) rfl (tS rfl) ?_; clear hO; intro ww hO)))
        go_ret
        exact ⟨aJ, cJ, rfl, hO⟩
  · simp only [Bool.false_eq_true, if_true, if_false] at HM1 HM2
    have a2 : IntKind.u64.wrap ((low : Int) + (P : Int)) = (u.low : Int) := by have x1 : u.low = low + P := HM1.out; simp [IntKind.wrap, IntKind.bits, IntKind.signed]; omega
    have a3 : IntKind.u32.wrap ((span : Int) - (P : Int)) = (u.span : Int) := by have x2 : u.span = span - P := HM2.out; simp [IntKind.wrap, IntKind.bits, IntKind.signed]; omega
    have a1 : IntKind.u64.wrap (P : Int) = (P : Int) := by simp [IntKind.wrap, IntKind.bits, IntKind.signed]; omega
    go_enter Try.func41, Try.ntmps41
    go_wp2_with (first
      | ((with_reducible refine gBox ?_); first | (refine bxA hO rfl ?_; clear hO; intro xb ww hO) | (refine bx1 hO rfl rfl ?_; clear hO; intro xb ww hO)))
    replace hO : Own w0 _ (.blk xb (.cells (Bt.C ⟨(a : Int), true⟩) 32 (0,0)) :: .blk wb (.cells (wC (.slice (some ⟨gP, 0, none⟩) n cP) low span kept many (.slice aO M cO)) 80 (0,0)) :: .sl 5 1 (.slice aO M cO) M (u8s s.out) :: .sl 3 1 (.slice (some ⟨gP, 0, none⟩) n cP) n (i64s s.p) :: L) := hO
    refine wp_region_textS (fun w' => Own w0 w' (.blk xb (.cells (Bt.C ⟨(a : Int), true⟩) 32 (0,0)) :: .blk wb (.cells (wC (.slice (some ⟨gP, 0, none⟩) n cP) low span kept many (.slice aO M cO)) 80 (0,0)) :: .sl 5 1 (.slice aO M cO) M (u8s s.out) :: .sl 3 1 (.slice (some ⟨gP, 0, none⟩) n cP) n (i64s s.p) :: L)) (fun op => match op with | .load _ _ => true | _ => false) (by kernel_rfl) (by kernel_rfl) hO.drew ?_
    replace hO := hO.drew
    generalize World.drew _ = wd at hO ⊢
    go_wp2_with (first
      | (((with_reducible refine gIL ?_); first | refine wpI_ldcS (fun w' hS => hS.blk 0 rfl) rfl rfl (tA rfl) rfl ?_ | refine wpI_ldcS (fun w' hS => hS.blk 1 rfl) rfl rfl (tA rfl) rfl ?_); first | (refine wpI_act (by simp only [Act.put, List.setIfInBounds_toArray, List.set_cons_succ, List.set_cons_zero]; rfl) ?_) | skip)
      | ((with_reducible refine gIL ?_); refine wpI_ld1S (fun w' hS => (hS.slCell 3 rfl (by omega)).trans HG.out) rfl rfl (tA rfl) ?_; first | (refine wpI_act (by simp only [Act.put, List.setIfInBounds_toArray, List.set_cons_succ, List.set_cons_zero]; rfl) ?_) | skip)
      | (go_at_call 61; refine (HSP.out _).mono ?_; rintro e ww ⟨rfl, rfl⟩)
      | ((with_reducible refine gLoad ?_); first | refine ldX hO 0 rfl rfl (tA rfl) (tS rfl) ?_ | refine ldC hO 0 rfl rfl (tA rfl) rfl ?_ | refine ldX hO 1 rfl rfl (tA rfl) (tS rfl) ?_ | refine ldC hO 1 rfl rfl (tA rfl) rfl ?_)
      | ((with_reducible refine gStore ?_); first | (refine stX hO 0 rfl rfl rfl rfl rfl (tS rfl) ?_; clear hO; intro ww hO) | (refine stC hO 0 rfl rfl rfl (ltb rfl) rfl (tS rfl) ?_; clear hO; intro ww hO) | (refine stX hO 1 rfl rfl rfl rfl rfl (tS rfl) ?_; clear hO; intro ww hO) | (refine stC hO 1 rfl rfl rfl (ltb rfl) rfl (tS rfl) ?_; clear hO; intro ww hO))
      | ((with_reducible refine gI ?_); refine wpI_step rfl rfl (by kernel_rfl) ?_; intro K hK; have HK := Lib.hid hK; clear hK) | ((with_reducible refine gI ?_); first | refine wpI_skip rfl ?_ | refine wpI_want rfl ?_) | ((with_reducible refine gOnlyK HK.out ?_ ?_); exact hO; clear HK K; first | (refine wpI_act (by simp only [Act.put, List.setIfInBounds_toArray, List.set_cons_succ, List.set_cons_zero]; rfl) ?_) | skip) | (with_reducible refine wpI_nil ?_))
    replace hO : Own w0 _ (.blk xb (.cells (Bt.C ⟨(a : Int), true⟩) 32 (0,0)) :: .blk wb (.cells (wC (.slice (some ⟨gP, 0, none⟩) n cP) u.low u.span kept many (.slice aO M cO)) 80 (0,0)) :: .sl 5 1 (.slice aO M cO) M (u8s s.out) :: .sl 3 1 (.slice (some ⟨gP, 0, none⟩) n cP) n (i64s s.p) :: L) := hO
    refine wp_region_textS (fun w' => Own w0 w' [.blk xb (.cells (Bt.C ⟨(a : Int), true⟩) 32 (0,0)), .blk wb (.cells (wC (.slice (some ⟨gP, 0, none⟩) n cP) u.low u.span kept many (.slice aO M cO)) 80 (0,0))]) (fun op => match op with | .load _ (.tmp 62) => false | .load _ _ => true | _ => false) (by kernel_rfl) (by kernel_rfl) hO.drew.take2 ?_
    replace hO := hO.drew
    generalize World.drew _ = wd2 at hO ⊢
    go_wp2_with (first
      | (((with_reducible refine gIL ?_); first | refine wpI_ldcS (fun w' hS => hS.blk 0 rfl) rfl rfl (tA rfl) rfl ?_ | refine wpI_ldcS (fun w' hS => hS.blk 1 rfl) rfl rfl (tA rfl) rfl ?_); first | (refine wpI_act (by simp only [Act.put, List.setIfInBounds_toArray, List.set_cons_succ, List.set_cons_zero]; rfl) ?_) | skip)
      | ((with_reducible refine gLoad (T := 3) ?_); refine ld_sl hO 3 rfl rfl HG.out (tA rfl) ?_)
      | (go_at_call 62; refine (HLN.out _).mono ?_; rintro e ww ⟨rfl, rfl⟩)
      | ((with_reducible refine gStore (T := 3) ?_); refine own_setElem hO 3 3 _ _ _ rfl rfl rfl (by omega) ii64s rfl ?_; clear hO; intro ww hO)
      | ((with_reducible refine gI ?_); refine wpI_step rfl rfl (by kernel_rfl) ?_; intro K hK; have HK := Lib.hid hK; clear hK) | ((with_reducible refine gI ?_); first | refine wpI_skip rfl ?_ | refine wpI_want rfl ?_) | ((with_reducible refine gOnlyK HK.out ?_ ?_); exact hO.take2; clear HK K; first | (refine wpI_act (by simp only [Act.put, List.setIfInBounds_toArray, List.set_cons_succ, List.set_cons_zero]; rfl) ?_) | skip) | (with_reducible refine wpI_nil ?_))
    replace hO : Own w0 _ (.blk xb (.cells (Bt.C ⟨(a : Int), true⟩) 32 (0,0)) :: .blk wb (.cells (wC (.slice (some ⟨gP, 0, none⟩) n cP) u.low u.span kept many (.slice aO M cO)) 80 (0,0)) :: .sl 5 1 (.slice aO M cO) M (u8s s.out) :: .sl 3 1 (.slice (some ⟨gP, 0, none⟩) n cP) n ((i64s s.p).set a (.int .i64 (learnI pv true))) :: L) := hO
    replace hO := hO.tail
    rw [HSET.out, ← HMK.out.1, ← HMK.out.2.1, ← HMK.out.2.2, ← HOUT.out] at hO
    have hk1 : u.kept < 256 := by rw [HMK.out.1]; exact hkept
    have hm1 : 1 ≤ u.many := by rw [HMK.out.2.1]; exact hmany
    have hm2 : u.out.length + u.many ≤ 10000000 := by rw [HMK.out.2.1, HOUT.out]; omega
    have hl1 : u.low < 8589934592 := by omega
    have HK1 := Lib.hid hk1
    have HK2 := Lib.hid hm1
    have HK3 := Lib.hid hm2
    have HK4 := Lib.hid hl1
    clear hk1 hm1 hm2 hl1 HMK HOUT HSET HT HG HLN HSP hkept hmany hbnd han q1 q2 q3 q4 q5 HM1 HM2 a1 a2 a3
    go_loopg [] 1 (fun m wr => (m = 1 ∧ u.span < 16777216 ∧ Own w0 wr (.blk wb (.cells (wC (.slice (some ⟨gP, 0, none⟩) n cP) u.low u.span u.kept u.many (.slice aO u.out.length cO)) 80 (0,0)) :: .sl 5 1 (.slice aO u.out.length cO) u.out.length (u8s u.out) :: .sl 3 1 (.slice (some ⟨gP, 0, none⟩) n cP) n (i64s u.p) :: L)) ∨
      (m ≤ 1 ∧ 16777216 ≤ t.span ∧ ∃ aJ cJ, Own w0 wr (.blk wb (.cells (wC (.slice (some ⟨gP, 0, none⟩) n cP) t.low t.span t.kept t.many (.slice aJ t.out.length cJ)) 80 (0,0)) :: .sl 5 1 (.slice aJ t.out.length cJ) t.out.length (u8s t.out) :: .sl 3 1 (.slice (some ⟨gP, 0, none⟩) n cP) n (i64s t.p) :: L)))
    case atStart =>
      by_cases hc : u.span < 16777216
      · exact .inl ⟨rfl, hc, hO⟩
      · obtain rfl : u = t := by rw [← HTN.out]; unfold Go.Kc.Ws.norm; rw [if_neg hc]
        exact .inr ⟨by omega, by omega, aO, cO, hO⟩
    case round =>
      rcases hrel with ⟨rfl, hc, hO1⟩ | ⟨hm, hc, aJ, cJ, hO1⟩
      · clear hO
        have hO := hO1
        clear hO1
        obtain ⟨z, hz⟩ : ∃ z, u.span * 256 = z := ⟨_, rfl⟩
        have b1 : IntKind.u32.wrap ((u.span : Int) * 256) = (z : Int) := by simp [IntKind.wrap, IntKind.bits, IntKind.signed]; omega
        have HZ : Hid (t = { u.move with span := z }) := by show _ = _; rw [← HTN.out, ← hz]; unfold Go.Kc.Ws.norm; rw [if_pos hc]
        have hz2 : 16777216 ≤ z := by omega
        have HP : Hid (u.move.p = u.p) := by show _ = _; unfold Go.Kc.Ws.move; split <;> rfl
        have HC := Lib.hid hc
        have HZ2 := Lib.hid hz2
        have d1 : decide ((u.span : Int) < 16777216) = true := decide_eq_true (by omega)
        clear hz hc hz2 q6 q7 q8
        go_wp2_with (first
          | ((with_reducible refine gLoad ?_); first | refine ldX hO 0 rfl rfl (tA rfl) (tS rfl) ?_ | refine ldC hO 0 rfl rfl (tA rfl) rfl ?_)
          | ((with_reducible refine gStore ?_); first | (refine stX hO 0 rfl rfl rfl rfl rfl (tS rfl) ?_; clear hO; intro ww hO) | (refine stC hO 0 rfl rfl rfl (ltb rfl) rfl (tS rfl) ?_; clear hO; intro ww hO))
          | (go_at_call 42; refine (move_calls rfl u hO HK4.out HK1.out HK2.out rfl HK3.out).mono ?_; rintro e ww ⟨a2, c2, rfl, hO2⟩; clear hO; have hO := hO2; clear hO2))
        go_roundg 0
        case measure => omega
        case rel =>
          right
          rw [HZ.out]
          refine ⟨by omega, HZ2.out, a2, c2, ?_⟩
          rw [← HP.out] at hO
          exact hO
      · clear hO
        have hO := hO1
        clear hO1
        have d1 : decide ((t.span : Int) < 16777216) = false := decide_eq_false (by omega)
        clear hc hm q6 q7 q8
        go_wp2_with (first
          | ((with_reducible refine gLoad ?_); first | refine ldX hO 0 rfl rfl (tA rfl) (tS rfl) ?_ | refine ldC hO 0 rfl rfl (tA rfl) rfl ?_)
          | ((with_reducible refine gStore ?_); first | (refine stX hO 0 rfl rfl rfl rfl rfl (tS rfl) ?_; clear hO; intro ww hO) | (refine stC hO 0 rfl rfl rfl (ltb rfl) rfl (tS rfl) ?_; clear hO; intro ww hO)))
        go_ret
        exact ⟨aJ, cJ, rfl, hO⟩
end Go.Proofs.Ytnkpjmcgecdkfaa
