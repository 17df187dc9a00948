/- Of several texts of this claim, one behind the other: Kp Kx Kn Ko Kl Zm Kq Ka Zv Zb Zd Pa Vm Vn Sa Pb Pf Pg Pj. -/
import Derived.Test.YtniibdglodnhoaaDoorU2
import Derived.Test.YtniibdglodnhoaaDoorA
import Derived.Test.YtniibdglodnhoaaDoorPn
import Derived.Test.YtniibdglodnhoaaDoorPe
import Derived.Test.YtniibdglodnhoaaDoorP

/- Walk: the writer's put. -/
namespace Go.Own
open Go.RowKit
/-- in any order -/
theorem Own.perm {w0 w : World} {L L' : List Res} (h : Own w0 w L) (hp : L.Perm L') : Own w0 w L' :=
  ⟨h.below, fun r hr => h.mem r (hp.mem_iff.2 hr), hp.pairwise h.apart (fun h => h.symm)⟩
/-- the first behind the two that follow -/
theorem Own.rot3 {w0 w : World} {L : List Res} {x y z : Res} (h : Own w0 w (x :: y :: z :: L)) : Own w0 w (y :: z :: x :: L) :=
  h.perm ((List.Perm.swap y x (z :: L)).trans (List.Perm.cons y (List.Perm.swap z x L)))
end Go.Own
namespace Go.Kc
theorem mid_bounds {s : Ws} {r : Rc} (h : Sim s r) (g : r.Good) {a : Nat} (b : Bool) (ha : a < r.p.length) :
    253952 ≤ s.part a ∧ s.part a + 253952 ≤ s.span ∧ s.low + s.span ≤ 8589934592 ∧ 16777216 ≤ s.span ∧ s.span < 4294967296 ∧ (s.mid a b).low + (s.mid a b).span ≤ 8589934592 ∧ 253952 ≤ (s.mid a b).span ∧ (s.mid a b).span < 4294967296 := by
  obtain ⟨b1, b2, _⟩ := part_bounds g ha
  have hpart : s.part a = r.part a := by unfold Ws.part Rc.part; rw [h.p, h.span]
  have hm := (sim_mid h g b ha)
  obtain ⟨m1, m2, _⟩ := mid_span g b ha
  have h6 := h.holds.low
  have h7 := hm.holds.low
  have g1 := g.lo
  have g2 := g.hi
  rw [hpart, h.span, hm.span]
  exact ⟨b1, b2, h6, g1, g2, h7, m1, m2⟩
end Go.Kc
namespace Go.Proofs.YtniibdglodnhoaaDoor
open Go.RowKit Go.Own Go.Bv Go.Ord Go.Eq Go.Opn Go.Pb

theorem kc_may (p : Int) : Go.Kc.mayB p = mayB p := rfl
theorem kc_learn (p : Int) (b : Bool) : Go.Kc.learnI p b = learnI p b := rfl

set_option maxHeartbeats 8000000 in
set_option maxRecDepth 100000 in
theorem put_calls {w0 w : World} {L : List Res} {wb : Nat} {aP : Option Addr} {n cP : Nat} {aO : Option Addr} {cO : Nat} (s : Go.Kc.Ws) (r : Go.Kc.Rc) (hs : Go.Kc.Sim s r) (g : r.Good) (a : Nat) (b : Bool) (ha : a < r.p.length) (hk : r.k ≤ 1000000) (hn : n = s.p.length) (t : Go.Kc.Ws) (ht : s.step a b = t)
    (hO : Own w0 w (.blk wb (.cells (wC (.slice aP n cP) s.low s.span s.kept s.many (.slice aO s.out.length cO)) 96 (0,0)) :: .sl 5 1 (.slice aO s.out.length cO) s.out.length (u8s s.out) :: .sl 3 1 (.slice aP n cP) n (i64s s.p) :: L)) :
    Calls Tryd.prog 46 #[.pointer (some ⟨wb, 0, none⟩), .agg (Bt.C ⟨(a : Int), b⟩)] w fun e w' => ∃ a' c', e = .returned (.int .i64 0) ∧
      Own w0 w' (.blk wb (.cells (wC (.slice aP n cP) t.low t.span t.kept t.many (.slice a' t.out.length c')) 96 (0,0)) :: .sl 5 1 (.slice a' t.out.length c') t.out.length (u8s t.out) :: .sl 3 1 (.slice aP n cP) n (i64s t.p) :: L) := by
  obtain ⟨q1, q2, q3, q4, q5, q6, q7, q8⟩ := Go.Kc.mid_bounds hs g b ha
  have hps : s.p.length = r.p.length := by rw [hs.p]
  have han : a < n := by omega
  have hmv := Go.Kc.all_get g.may ha
  rw [← hs.p, kc_may] at hmv
  have hH := hs.holds
  have hkept := hH.kept
  have hlen := hH.len
  have hmany := hH.many
  obtain ⟨pv, hpv⟩ : ∃ pv, s.p.getD a 0 = pv := ⟨_, rfl⟩
  obtain ⟨P, hP⟩ : ∃ P, s.part a = P := ⟨_, rfl⟩
  rw [hpv] at hmv
  rw [hP] at q1 q2
  have hg : (i64s s.p)[a]? = some (.int .i64 pv) := by
    rw [i64s_get s.p a (by omega), ← hpv, List.getD_eq_getElem?_getD, List.getElem?_eq_getElem (by omega)]; rfl
  have hset : (i64s s.p).set a (.int .i64 (learnI pv b)) = i64s (s.mid a b).p := by
    unfold Go.Kc.Ws.mid i64s
    dsimp only
    rw [List.map_set, hpv]; rfl
  have hsp : ∀ w, Calls Tryd.prog 60 #[.int .u32 (s.span : Int), .int .i64 pv] w fun e w' => e = .returned (.tuple #[.int .u32 (P : Int), .int .i64 0]) ∧ w = w' := fun w => by
    have h := split_calls (s.span : Int) pv w (by omega) (by omega)
    have e : splitOk (s.span : Int) pv = true := by unfold splitOk; rw [hmv, decide_eq_true (by omega)]; rfl
    have e2 : splitI (s.span : Int) pv = (P : Int) := by
      have hp0 := ((mayB_iff pv).1 hmv).1
      rw [← hP]
      unfold splitI Go.Kc.Ws.part
      rw [hpv, Int.natCast_mul, Int.natCast_ediv, Int.toNat_of_nonneg (by omega)]; rfl
    rw [e, if_pos rfl, if_pos rfl, e2] at h
    exact h
  have hln : ∀ w, Calls Tryd.prog 61 #[.int .i64 pv, .bool b] w fun e w' => e = .returned (.tuple #[.int .i64 (learnI pv b), .int .i64 0]) ∧ w = w' := fun w => by
    have h := Learn_calls pv b w
    rw [hmv, if_pos rfl, if_pos rfl] at h
    exact h
  have HSP := Lib.hid hsp
  have HLN := Lib.hid hln
  have HG := Lib.hid hg
  have HSET := Lib.hid hset
  have HT := Lib.hid ht
  have hsn : (Go.Kc.Ws.mid s a b).norm = t := ht
  have HTN := Lib.hid hsn
  have hmid1 : (s.mid a b).low = if b then s.low + P else s.low := by rw [← hP]; rfl
  have hmid2 : (s.mid a b).span = if b then s.span - P else P := by rw [← hP]; rfl
  have HM1 := Lib.hid hmid1
  have HM2 := Lib.hid hmid2
  have hmk : (s.mid a b).kept = s.kept ∧ (s.mid a b).many = s.many ∧ (s.mid a b).out = s.out := ⟨rfl, rfl, rfl⟩
  have HMK := Lib.hid hmk
  obtain ⟨u, hu⟩ : ∃ u, s.mid a b = u := ⟨_, rfl⟩
  rw [hu] at q6 q7 q8 HSET HTN HM1 HM2 HMK
  obtain ⟨low, hlow⟩ : ∃ x, s.low = x := ⟨_, rfl⟩
  obtain ⟨span, hspan⟩ : ∃ x, s.span = x := ⟨_, rfl⟩
  obtain ⟨kept, hkp⟩ : ∃ x, s.kept = x := ⟨_, rfl⟩
  obtain ⟨many, hmn⟩ : ∃ x, s.many = x := ⟨_, rfl⟩
  obtain ⟨M, hM⟩ : ∃ x, s.out.length = x := ⟨_, rfl⟩
  rw [hspan] at HSP HM2 q2 q3 q4 q5
  rw [hlow] at HM1 q3
  rw [hkp, hmn] at HMK
  rw [hkp] at hkept
  rw [hmn] at hlen hmany
  rw [hM] at hlen
  rw [hlow, hspan, hkp, hmn, hM] at hO
  have hOut : u.out.length = M := by rw [HMK.out.2.2, hM]
  have HOUT := Lib.hid hOut
  have hbnd : M + many ≤ 1000001 := by omega
  clear hs g hk hn ht hps hmv hH hpv hP hg hset hsp hln hsn hmid1 hmid2 hmk hu hlow hspan hkp hmn hM hOut hlen ha
  obtain ⟨gP, rfl⟩ := hO.slPlace 2 rfl (by omega)
  cases b
  · simp only [Bool.false_eq_true, if_true, if_false] at HM1 HM2
    have hm1 := HM1.out
    have hm2 := HM2.out
    subst hm1
    subst hm2
    clear HM1 HM2
    go_enter Tryd.func46, Tryd.ntmps46
    go_wp2_with (first
      | ((with_reducible refine gBox ?_); first | (refine bxA hO rfl ?_; clear hO; intro xb ww hO) | (refine bx1 hO rfl rfl ?_; clear hO; intro xb ww hO)))
    replace hO : Own w0 _ (.blk xb (.cells (Bt.C ⟨(a : Int), false⟩) 87 (0,0)) :: .blk wb (.cells (wC (.slice (some ⟨gP, 0, none⟩) n cP) u.low span kept many (.slice aO M cO)) 96 (0,0)) :: .sl 5 1 (.slice aO M cO) M (u8s s.out) :: .sl 3 1 (.slice (some ⟨gP, 0, none⟩) n cP) n (i64s s.p) :: L) := hO
    refine wp_region_textS (fun w' => Own w0 w' (.blk xb (.cells (Bt.C ⟨(a : Int), false⟩) 87 (0,0)) :: .blk wb (.cells (wC (.slice (some ⟨gP, 0, none⟩) n cP) u.low span kept many (.slice aO M cO)) 96 (0,0)) :: .sl 5 1 (.slice aO M cO) M (u8s s.out) :: .sl 3 1 (.slice (some ⟨gP, 0, none⟩) n cP) n (i64s s.p) :: L)) (fun op => match op with | .load _ _ => true | _ => false) (by kernel_rfl) (by kernel_rfl) hO.drew ?_
    replace hO := hO.drew
    generalize World.drew _ = wd at hO ⊢
    go_wp2_with (first
      | (((with_reducible refine gIL ?_); first | refine wpI_ldcS (fun w' hS => hS.blk 0 rfl) rfl rfl (tA rfl) rfl ?_ | refine wpI_ldcS (fun w' hS => hS.blk 1 rfl) rfl rfl (tA rfl) rfl ?_); first | (refine wpI_act (by simp only [Act.put, List.setIfInBounds_toArray, List.set_cons_succ, List.set_cons_zero]; rfl) ?_) | skip)
      | ((with_reducible refine gIL ?_); refine wpI_ld1S (fun w' hS => (hS.slCell 3 rfl (by omega)).trans HG.out) rfl rfl (tA rfl) ?_; first | (refine wpI_act (by simp only [Act.put, List.setIfInBounds_toArray, List.set_cons_succ, List.set_cons_zero]; rfl) ?_) | skip)
      | (go_at_call 60; refine (HSP.out _).mono ?_; rintro e ww ⟨rfl, rfl⟩)
      | ((with_reducible refine gLoad ?_); first | refine ldX hO 0 rfl rfl (tA rfl) (tS rfl) ?_ | refine ldC hO 0 rfl rfl (tA rfl) rfl ?_ | refine ldX hO 1 rfl rfl (tA rfl) (tS rfl) ?_ | refine ldC hO 1 rfl rfl (tA rfl) rfl ?_)
      | ((with_reducible refine gStore ?_); first | (refine stX hO 0 rfl rfl rfl rfl rfl (tS rfl) ?_; clear hO; intro ww hO) | (refine stC hO 0 rfl rfl rfl (ltb rfl) rfl (tS rfl) ?_; clear hO; intro ww hO) | (refine stX hO 1 rfl rfl rfl rfl rfl (tS rfl) ?_; clear hO; intro ww hO) | (refine stC hO 1 rfl rfl rfl (ltb rfl) rfl (tS rfl) ?_; clear hO; intro ww hO))
      | ((with_reducible refine gI ?_); refine wpI_step rfl rfl (by kernel_rfl) ?_; intro K hK; have HK := Lib.hid hK; clear hK) | ((with_reducible refine gI ?_); first | refine wpI_skip rfl ?_ | refine wpI_want rfl ?_) | ((with_reducible refine gOnlyK HK.out ?_ ?_); exact hO; clear HK K; first | (refine wpI_act (by simp only [Act.put, List.setIfInBounds_toArray, List.set_cons_succ, List.set_cons_zero]; rfl) ?_) | skip) | (with_reducible refine wpI_nil ?_))
    replace hO : Own w0 _ (.blk xb (.cells (Bt.C ⟨(a : Int), false⟩) 87 (0,0)) :: .blk wb (.cells (wC (.slice (some ⟨gP, 0, none⟩) n cP) u.low u.span kept many (.slice aO M cO)) 96 (0,0)) :: .sl 5 1 (.slice aO M cO) M (u8s s.out) :: .sl 3 1 (.slice (some ⟨gP, 0, none⟩) n cP) n (i64s s.p) :: L) := hO
    refine wp_region_textS (fun w' => Own w0 w' [.blk xb (.cells (Bt.C ⟨(a : Int), false⟩) 87 (0,0)), .blk wb (.cells (wC (.slice (some ⟨gP, 0, none⟩) n cP) u.low u.span kept many (.slice aO M cO)) 96 (0,0))]) (fun op => match op with | .load _ (.tmp 62) => false | .load _ _ => true | _ => false) (by kernel_rfl) (by kernel_rfl) hO.drew.take2 ?_
    replace hO := hO.drew
    generalize World.drew _ = wd2 at hO ⊢
    go_wp2_with (first
      | (((with_reducible refine gIL ?_); first | refine wpI_ldcS (fun w' hS => hS.blk 0 rfl) rfl rfl (tA rfl) rfl ?_ | refine wpI_ldcS (fun w' hS => hS.blk 1 rfl) rfl rfl (tA rfl) rfl ?_); first | (refine wpI_act (by simp only [Act.put, List.setIfInBounds_toArray, List.set_cons_succ, List.set_cons_zero]; rfl) ?_) | skip)
      | ((with_reducible refine gLoad (T := 3) ?_); refine ld_sl hO 3 rfl rfl HG.out (tA rfl) ?_)
      | (go_at_call 61; refine (HLN.out _).mono ?_; rintro e ww ⟨rfl, rfl⟩)
      | ((with_reducible refine gStore (T := 3) ?_); refine own_setElem hO 3 3 _ _ _ rfl rfl rfl (by omega) ii64s rfl ?_; clear hO; intro ww hO)
      | ((with_reducible refine gI ?_); refine wpI_step rfl rfl (by kernel_rfl) ?_; intro K hK; have HK := Lib.hid hK; clear hK) | ((with_reducible refine gI ?_); first | refine wpI_skip rfl ?_ | refine wpI_want rfl ?_) | ((with_reducible refine gOnlyK HK.out ?_ ?_); exact hO.take2; clear HK K; first | (refine wpI_act (by simp only [Act.put, List.setIfInBounds_toArray, List.set_cons_succ, List.set_cons_zero]; rfl) ?_) | skip) | (with_reducible refine wpI_nil ?_))
    replace hO : Own w0 _ (.blk xb (.cells (Bt.C ⟨(a : Int), false⟩) 87 (0,0)) :: .blk wb (.cells (wC (.slice (some ⟨gP, 0, none⟩) n cP) u.low u.span kept many (.slice aO M cO)) 96 (0,0)) :: .sl 5 1 (.slice aO M cO) M (u8s s.out) :: .sl 3 1 (.slice (some ⟨gP, 0, none⟩) n cP) n ((i64s s.p).set a (.int .i64 (learnI pv false))) :: L) := hO
    replace hO := hO.tail
    rw [HSET.out, ← HMK.out.1, ← HMK.out.2.1, ← HMK.out.2.2, ← HOUT.out] at hO
    have hk1 : u.kept < 256 := by rw [HMK.out.1]; exact hkept
    have hm1 : 1 ≤ u.many := by rw [HMK.out.2.1]; exact hmany
    have hm2 : u.out.length + u.many ≤ 10000000 := by rw [HMK.out.2.1, HOUT.out]; omega
    have hl1 : u.low < 8589934592 := by omega
    have HK1 := Lib.hid hk1
    have HK2 := Lib.hid hm1
    have HK3 := Lib.hid hm2
    have HK4 := Lib.hid hl1
    clear hk1 hm1 hm2 hl1 HMK HOUT HSET HT HG HLN HSP hkept hmany hbnd han q1 q2 q3 q4 q5
    go_loopg [] 1 (fun m wr => (m = 1 ∧ u.span < 16777216 ∧ Own w0 wr (.blk wb (.cells (wC (.slice (some ⟨gP, 0, none⟩) n cP) u.low u.span u.kept u.many (.slice aO u.out.length cO)) 96 (0,0)) :: .sl 5 1 (.slice aO u.out.length cO) u.out.length (u8s u.out) :: .sl 3 1 (.slice (some ⟨gP, 0, none⟩) n cP) n (i64s u.p) :: L)) ∨
      (m ≤ 1 ∧ 16777216 ≤ t.span ∧ ∃ aJ cJ, Own w0 wr (.blk wb (.cells (wC (.slice (some ⟨gP, 0, none⟩) n cP) t.low t.span t.kept t.many (.slice aJ t.out.length cJ)) 96 (0,0)) :: .sl 5 1 (.slice aJ t.out.length cJ) t.out.length (u8s t.out) :: .sl 3 1 (.slice (some ⟨gP, 0, none⟩) n cP) n (i64s t.p) :: L)))
    case atStart =>
      by_cases hc : u.span < 16777216
      · exact .inl ⟨rfl, hc, hO⟩
      · obtain rfl : u = t := by rw [← HTN.out]; unfold Go.Kc.Ws.norm; rw [if_neg hc]
        exact .inr ⟨by omega, by omega, aO, cO, hO⟩
    case round =>
      rcases hrel with ⟨rfl, hc, hO1⟩ | ⟨hm, hc, aJ, cJ, hO1⟩
      · clear hO
        have hO := hO1
        clear hO1
        obtain ⟨z, hz⟩ : ∃ z, u.span * 256 = z := ⟨_, rfl⟩
        have b1 : IntKind.u32.wrap ((u.span : Int) * 256) = (z : Int) := by simp [IntKind.wrap, IntKind.bits, IntKind.signed]; omega
        have HZ : Hid (t = { u.move with span := z }) := by show _ = _; rw [← HTN.out, ← hz]; unfold Go.Kc.Ws.norm; rw [if_pos hc]
        have hz2 : 16777216 ≤ z := by omega
        have HP : Hid (u.move.p = u.p) := by show _ = _; unfold Go.Kc.Ws.move; split <;> rfl
        have HC := Lib.hid hc
        have HZ2 := Lib.hid hz2
        have d1 : decide ((u.span : Int) < 16777216) = true := decide_eq_true (by omega)
        clear hz hc hz2 q6 q7 q8
        go_wp2_with (first
          | ((with_reducible refine gLoad ?_); first | refine ldX hO 0 rfl rfl (tA rfl) (tS rfl) ?_ | refine ldC hO 0 rfl rfl (tA rfl) rfl ?_)
          | ((with_reducible refine gStore ?_); first | (refine stX hO 0 rfl rfl rfl rfl rfl (tS rfl) ?_; clear hO; intro ww hO) | (refine stC hO 0 rfl rfl rfl (ltb rfl) rfl (tS rfl) ?_; clear hO; intro ww hO))
          | (go_at_call 47; refine (move_calls rfl u hO HK4.out HK1.out HK2.out rfl HK3.out).mono ?_; rintro e ww ⟨a2, c2, rfl, hO2⟩; clear hO; have hO := hO2; clear hO2))
        go_roundg 0
        case measure => omega
        case rel =>
          right
          rw [HZ.out]
          refine ⟨by omega, HZ2.out, a2, c2, ?_⟩
          rw [← HP.out] at hO
          exact hO
      · clear hO
        have hO := hO1
        clear hO1
        have d1 : decide ((t.span : Int) < 16777216) = false := decide_eq_false (by omega)
        clear hc hm q6 q7 q8
        go_wp2_with (first
          | ((with_reducible refine gLoad ?_); first | refine ldX hO 0 rfl rfl (tA rfl) (tS rfl) ?_ | refine ldC hO 0 rfl rfl (tA rfl) rfl ?_)
          | ((with_reducible refine gStore ?_); first | (refine stX hO 0 rfl rfl rfl rfl rfl (tS rfl) ?_; clear hO; intro ww hO) | (refine stC hO 0 rfl rfl rfl (ltb rfl) rfl (tS rfl) ?_; clear hO; intro ww hO)))
        go_ret
        exact ⟨aJ, cJ, rfl, hO⟩
  · simp only [Bool.false_eq_true, if_true, if_false] at HM1 HM2
    have a2 : IntKind.u64.wrap ((low : Int) + (P : Int)) = (u.low : Int) := by have x1 : u.low = low + P := HM1.out; simp [IntKind.wrap, IntKind.bits, IntKind.signed]; omega
    have a3 : IntKind.u32.wrap ((span : Int) - (P : Int)) = (u.span : Int) := by have x2 : u.span = span - P := HM2.out; simp [IntKind.wrap, IntKind.bits, IntKind.signed]; omega
    have a1 : IntKind.u64.wrap (P : Int) = (P : Int) := by simp [IntKind.wrap, IntKind.bits, IntKind.signed]; omega
    go_enter Tryd.func46, Tryd.ntmps46
    go_wp2_with (first
      | ((with_reducible refine gBox ?_); first | (refine bxA hO rfl ?_; clear hO; intro xb ww hO) | (refine bx1 hO rfl rfl ?_; clear hO; intro xb ww hO)))
    replace hO : Own w0 _ (.blk xb (.cells (Bt.C ⟨(a : Int), true⟩) 87 (0,0)) :: .blk wb (.cells (wC (.slice (some ⟨gP, 0, none⟩) n cP) low span kept many (.slice aO M cO)) 96 (0,0)) :: .sl 5 1 (.slice aO M cO) M (u8s s.out) :: .sl 3 1 (.slice (some ⟨gP, 0, none⟩) n cP) n (i64s s.p) :: L) := hO
    refine wp_region_textS (fun w' => Own w0 w' (.blk xb (.cells (Bt.C ⟨(a : Int), true⟩) 87 (0,0)) :: .blk wb (.cells (wC (.slice (some ⟨gP, 0, none⟩) n cP) low span kept many (.slice aO M cO)) 96 (0,0)) :: .sl 5 1 (.slice aO M cO) M (u8s s.out) :: .sl 3 1 (.slice (some ⟨gP, 0, none⟩) n cP) n (i64s s.p) :: L)) (fun op => match op with | .load _ _ => true | _ => false) (by kernel_rfl) (by kernel_rfl) hO.drew ?_
    replace hO := hO.drew
    generalize World.drew _ = wd at hO ⊢
    go_wp2_with (first
      | (((with_reducible refine gIL ?_); first | refine wpI_ldcS (fun w' hS => hS.blk 0 rfl) rfl rfl (tA rfl) rfl ?_ | refine wpI_ldcS (fun w' hS => hS.blk 1 rfl) rfl rfl (tA rfl) rfl ?_); first | (refine wpI_act (by simp only [Act.put, List.setIfInBounds_toArray, List.set_cons_succ, List.set_cons_zero]; rfl) ?_) | skip)
      | ((with_reducible refine gIL ?_); refine wpI_ld1S (fun w' hS => (hS.slCell 3 rfl (by omega)).trans HG.out) rfl rfl (tA rfl) ?_; first | (refine wpI_act (by simp only [Act.put, List.setIfInBounds_toArray, List.set_cons_succ, List.set_cons_zero]; rfl) ?_) | skip)
      | (go_at_call 60; refine (HSP.out _).mono ?_; rintro e ww ⟨rfl, rfl⟩)
      | ((with_reducible refine gLoad ?_); first | refine ldX hO 0 rfl rfl (tA rfl) (tS rfl) ?_ | refine ldC hO 0 rfl rfl (tA rfl) rfl ?_ | refine ldX hO 1 rfl rfl (tA rfl) (tS rfl) ?_ | refine ldC hO 1 rfl rfl (tA rfl) rfl ?_)
      | ((with_reducible refine gStore ?_); first | (refine stX hO 0 rfl rfl rfl rfl rfl (tS rfl) ?_; clear hO; intro ww hO) | (refine stC hO 0 rfl rfl rfl (ltb rfl) rfl (tS rfl) ?_; clear hO; intro ww hO) | (refine stX hO 1 rfl rfl rfl rfl rfl (tS rfl) ?_; clear hO; intro ww hO) | (refine stC hO 1 rfl rfl rfl (ltb rfl) rfl (tS rfl) ?_; clear hO; intro ww hO))
      | ((with_reducible refine gI ?_); refine wpI_step rfl rfl (by kernel_rfl) ?_; intro K hK; have HK := Lib.hid hK; clear hK) | ((with_reducible refine gI ?_); first | refine wpI_skip rfl ?_ | refine wpI_want rfl ?_) | ((with_reducible refine gOnlyK HK.out ?_ ?_); exact hO; clear HK K; first | (refine wpI_act (by simp only [Act.put, List.setIfInBounds_toArray, List.set_cons_succ, List.set_cons_zero]; rfl) ?_) | skip) | (with_reducible refine wpI_nil ?_))
    replace hO : Own w0 _ (.blk xb (.cells (Bt.C ⟨(a : Int), true⟩) 87 (0,0)) :: .blk wb (.cells (wC (.slice (some ⟨gP, 0, none⟩) n cP) u.low u.span kept many (.slice aO M cO)) 96 (0,0)) :: .sl 5 1 (.slice aO M cO) M (u8s s.out) :: .sl 3 1 (.slice (some ⟨gP, 0, none⟩) n cP) n (i64s s.p) :: L) := hO
    refine wp_region_textS (fun w' => Own w0 w' [.blk xb (.cells (Bt.C ⟨(a : Int), true⟩) 87 (0,0)), .blk wb (.cells (wC (.slice (some ⟨gP, 0, none⟩) n cP) u.low u.span kept many (.slice aO M cO)) 96 (0,0))]) (fun op => match op with | .load _ (.tmp 62) => false | .load _ _ => true | _ => false) (by kernel_rfl) (by kernel_rfl) hO.drew.take2 ?_
    replace hO := hO.drew
    generalize World.drew _ = wd2 at hO ⊢
    go_wp2_with (first
      | (((with_reducible refine gIL ?_); first | refine wpI_ldcS (fun w' hS => hS.blk 0 rfl) rfl rfl (tA rfl) rfl ?_ | refine wpI_ldcS (fun w' hS => hS.blk 1 rfl) rfl rfl (tA rfl) rfl ?_); first | (refine wpI_act (by simp only [Act.put, List.setIfInBounds_toArray, List.set_cons_succ, List.set_cons_zero]; rfl) ?_) | skip)
      | ((with_reducible refine gLoad (T := 3) ?_); refine ld_sl hO 3 rfl rfl HG.out (tA rfl) ?_)
      | (go_at_call 61; refine (HLN.out _).mono ?_; rintro e ww ⟨rfl, rfl⟩)
      | ((with_reducible refine gStore (T := 3) ?_); refine own_setElem hO 3 3 _ _ _ rfl rfl rfl (by omega) ii64s rfl ?_; clear hO; intro ww hO)
      | ((with_reducible refine gI ?_); refine wpI_step rfl rfl (by kernel_rfl) ?_; intro K hK; have HK := Lib.hid hK; clear hK) | ((with_reducible refine gI ?_); first | refine wpI_skip rfl ?_ | refine wpI_want rfl ?_) | ((with_reducible refine gOnlyK HK.out ?_ ?_); exact hO.take2; clear HK K; first | (refine wpI_act (by simp only [Act.put, List.setIfInBounds_toArray, List.set_cons_succ, List.set_cons_zero]; rfl) ?_) | skip) | (with_reducible refine wpI_nil ?_))
    replace hO : Own w0 _ (.blk xb (.cells (Bt.C ⟨(a : Int), true⟩) 87 (0,0)) :: .blk wb (.cells (wC (.slice (some ⟨gP, 0, none⟩) n cP) u.low u.span kept many (.slice aO M cO)) 96 (0,0)) :: .sl 5 1 (.slice aO M cO) M (u8s s.out) :: .sl 3 1 (.slice (some ⟨gP, 0, none⟩) n cP) n ((i64s s.p).set a (.int .i64 (learnI pv true))) :: L) := hO
    replace hO := hO.tail
    rw [HSET.out, ← HMK.out.1, ← HMK.out.2.1, ← HMK.out.2.2, ← HOUT.out] at hO
    have hk1 : u.kept < 256 := by rw [HMK.out.1]; exact hkept
    have hm1 : 1 ≤ u.many := by rw [HMK.out.2.1]; exact hmany
    have hm2 : u.out.length + u.many ≤ 10000000 := by rw [HMK.out.2.1, HOUT.out]; omega
    have hl1 : u.low < 8589934592 := by omega
    have HK1 := Lib.hid hk1
    have HK2 := Lib.hid hm1
    have HK3 := Lib.hid hm2
    have HK4 := Lib.hid hl1
    clear hk1 hm1 hm2 hl1 HMK HOUT HSET HT HG HLN HSP hkept hmany hbnd han q1 q2 q3 q4 q5 HM1 HM2 a1 a2 a3
    go_loopg [] 1 (fun m wr => (m = 1 ∧ u.span < 16777216 ∧ Own w0 wr (.blk wb (.cells (wC (.slice (some ⟨gP, 0, none⟩) n cP) u.low u.span u.kept u.many (.slice aO u.out.length cO)) 96 (0,0)) :: .sl 5 1 (.slice aO u.out.length cO) u.out.length (u8s u.out) :: .sl 3 1 (.slice (some ⟨gP, 0, none⟩) n cP) n (i64s u.p) :: L)) ∨
      (m ≤ 1 ∧ 16777216 ≤ t.span ∧ ∃ aJ cJ, Own w0 wr (.blk wb (.cells (wC (.slice (some ⟨gP, 0, none⟩) n cP) t.low t.span t.kept t.many (.slice aJ t.out.length cJ)) 96 (0,0)) :: .sl 5 1 (.slice aJ t.out.length cJ) t.out.length (u8s t.out) :: .sl 3 1 (.slice (some ⟨gP, 0, none⟩) n cP) n (i64s t.p) :: L)))
    case atStart =>
      by_cases hc : u.span < 16777216
      · exact .inl ⟨rfl, hc, hO⟩
      · obtain rfl : u = t := by rw [← HTN.out]; unfold Go.Kc.Ws.norm; rw [if_neg hc]
        exact .inr ⟨by omega, by omega, aO, cO, hO⟩
    case round =>
      rcases hrel with ⟨rfl, hc, hO1⟩ | ⟨hm, hc, aJ, cJ, hO1⟩
      · clear hO
        have hO := hO1
        clear hO1
        obtain ⟨z, hz⟩ : ∃ z, u.span * 256 = z := ⟨_, rfl⟩
        have b1 : IntKind.u32.wrap ((u.span : Int) * 256) = (z : Int) := by simp [IntKind.wrap, IntKind.bits, IntKind.signed]; omega
        have HZ : Hid (t = { u.move with span := z }) := by show _ = _; rw [← HTN.out, ← hz]; unfold Go.Kc.Ws.norm; rw [if_pos hc]
        have hz2 : 16777216 ≤ z := by omega
        have HP : Hid (u.move.p = u.p) := by show _ = _; unfold Go.Kc.Ws.move; split <;> rfl
        have HC := Lib.hid hc
        have HZ2 := Lib.hid hz2
        have d1 : decide ((u.span : Int) < 16777216) = true := decide_eq_true (by omega)
        clear hz hc hz2 q6 q7 q8
        go_wp2_with (first
          | ((with_reducible refine gLoad ?_); first | refine ldX hO 0 rfl rfl (tA rfl) (tS rfl) ?_ | refine ldC hO 0 rfl rfl (tA rfl) rfl ?_)
          | ((with_reducible refine gStore ?_); first | (refine stX hO 0 rfl rfl rfl rfl rfl (tS rfl) ?_; clear hO; intro ww hO) | (refine stC hO 0 rfl rfl rfl (ltb rfl) rfl (tS rfl) ?_; clear hO; intro ww hO))
          | (go_at_call 47; refine (move_calls rfl u hO HK4.out HK1.out HK2.out rfl HK3.out).mono ?_; rintro e ww ⟨a2, c2, rfl, hO2⟩; clear hO; have hO := hO2; clear hO2))
        go_roundg 0
        case measure => omega
        case rel =>
          right
          rw [HZ.out]
          refine ⟨by omega, HZ2.out, a2, c2, ?_⟩
          rw [← HP.out] at hO
          exact hO
      · clear hO
        have hO := hO1
        clear hO1
        have d1 : decide ((t.span : Int) < 16777216) = false := decide_eq_false (by omega)
        clear hc hm q6 q7 q8
        go_wp2_with (first
          | ((with_reducible refine gLoad ?_); first | refine ldX hO 0 rfl rfl (tA rfl) (tS rfl) ?_ | refine ldC hO 0 rfl rfl (tA rfl) rfl ?_)
          | ((with_reducible refine gStore ?_); first | (refine stX hO 0 rfl rfl rfl rfl rfl (tS rfl) ?_; clear hO; intro ww hO) | (refine stC hO 0 rfl rfl rfl (ltb rfl) rfl (tS rfl) ?_; clear hO; intro ww hO)))
        go_ret
        exact ⟨aJ, cJ, rfl, hO⟩
end Go.Proofs.YtniibdglodnhoaaDoor

/- Walks: coder.Encode's closure, slices.IndexFunc and ContainsFunc of bits. -/
namespace Go.Own
open Go.RowKit Go.Opn
/-- a block of one cell can be read -/
theorem Own.rd1 {w0 w : World} {L : List Res} (hO : Own w0 w L) (i : Nat) {b : Nat} {v : Value} {T : TypeId} (hi : L[i]? = some (.blk b (.cells #[v] T (0,0)))) : Rd w 1 (some ⟨b, 0, none⟩) 1 1 [v] :=
  rd_of_cells rfl (Nat.le_refl _) (by simp [maxLen]) fun j hj => by
    obtain rfl : j = 0 := by omega
    exact cell_of_one (hO.blk i hi)
end Go.Own
namespace Go.Proofs.YtniibdglodnhoaaDoor
open Go.RowKit Go.Own Go.Bv Go.Ord Go.Eq Go.Opn Go.Pb

def okI (n : Int) (x : Bt) : Bool := decide (0 ≤ x.at_) && decide (x.at_ < n)
set_option maxHeartbeats 1000000 in
set_option maxRecDepth 100000 in
theorem bad_calls (n : Int) (x : Bt) (nb : Nat) (w : World) (hR : Rd w 1 (some ⟨nb, 0, none⟩) 1 1 [.int .i64 n]) :
    Calls Tryd.prog 44 #[.agg x.C, .pointer (some ⟨nb, 0, none⟩)] w fun e w' => e = .returned (.bool (!okI n x)) ∧ Below w.heap.size w w' := by
  have hO := Own.start w
  obtain ⟨p, b⟩ := x
  have HR := Lib.hid hR
  clear hR
  have hg : ([.int .i64 n] : List Value)[0]? = some (.int .i64 n) := rfl
  have HG := Lib.hid hg
  clear hg
  generalize hW : w = wn at hO HR ⊢
  clear hW w
  by_cases h1 : p < 0
  · have e1 : decide (p < 0) = true := decide_eq_true h1
    have e : okI n ⟨p, b⟩ = false := by unfold okI; rw [decide_eq_false (by dsimp only; omega)]; rfl
    rw [e]
    clear e h1
    go_enter Tryd.func44, Tryd.ntmps44
    go_wp2_with (first
      | ((with_reducible refine gBox ?_); first | (refine bxA hO rfl ?_; clear hO; intro xb ww hO) | (refine bx1 hO rfl rfl ?_; clear hO; intro xb ww hO))
      | ((with_reducible refine gG ?_); refine wpList_want rfl ?_)
      | ((with_reducible refine gLoad ?_); first | refine ldX hO 0 rfl rfl (tA rfl) (tS rfl) ?_ | refine ldC hO 0 rfl rfl (tA rfl) rfl ?_))
    go_ret
    exact ⟨rfl, hO.below⟩
  · have e1 : decide (p < 0) = false := decide_eq_false h1
    by_cases h2 : n ≤ p
    · have e2 : decide (n ≤ p) = true := decide_eq_true h2
      have e : okI n ⟨p, b⟩ = false := by unfold okI; rw [decide_eq_false (p := p < n) (by omega), Bool.and_false]
      rw [e]
      clear e h1 h2
      go_enter Tryd.func44, Tryd.ntmps44
      go_wp2_with (first
        | ((with_reducible refine gBox ?_); first | (refine bxA hO rfl ?_; clear hO; intro xb ww hO) | (refine bx1 hO rfl rfl ?_; clear hO; intro xb ww hO))
        | ((with_reducible refine gG ?_); refine wpList_want rfl ?_)
        | ((with_reducible refine gLoad ?_); first | refine ldX hO 0 rfl rfl (tA rfl) (tS rfl) ?_ | refine ldC hO 0 rfl rfl (tA rfl) rfl ?_)
        | ((with_reducible refine gLoad ?_); refine ld_rd (hO.rd HR.out) rfl (HG.out) (tA rfl) ?_))
      go_ret
      exact ⟨rfl, hO.below⟩
    · have e2 : decide (n ≤ p) = false := decide_eq_false h2
      have e : okI n ⟨p, b⟩ = true := by unfold okI; rw [decide_eq_true (p := p < n) (by omega), decide_eq_true (p := 0 ≤ p) (by omega)]; rfl
      rw [e]
      clear e h1 h2
      go_enter Tryd.func44, Tryd.ntmps44
      go_wp2_with (first
        | ((with_reducible refine gBox ?_); first | (refine bxA hO rfl ?_; clear hO; intro xb ww hO) | (refine bx1 hO rfl rfl ?_; clear hO; intro xb ww hO))
        | ((with_reducible refine gG ?_); refine wpList_want rfl ?_)
        | ((with_reducible refine gLoad ?_); first | refine ldX hO 0 rfl rfl (tA rfl) (tS rfl) ?_ | refine ldC hO 0 rfl rfl (tA rfl) rfl ?_)
        | ((with_reducible refine gLoad ?_); refine ld_rd (hO.rd HR.out) rfl (HG.out) (tA rfl) ?_))
      go_ret
      exact ⟨rfl, hO.below⟩

theorem okI_hit {n : Int} {l : List Bt} {k : Nat} (hk : k < l.length) (h : okI n l[k] = false) : l.all (okI n) = false := by
  cases h2 : l.all (okI n) with
  | false => rfl
  | true =>
    rw [List.all_eq_true] at h2
    have := h2 l[k] (List.getElem_mem hk)
    rw [h] at this
    cases this
theorem okI_next {n : Int} {l : List Bt} {k : Nat} (hk : k < l.length) (h : (l.take k).all (okI n) = true) (h1 : okI n l[k] = true) : (l.take (k + 1)).all (okI n) = true := by
  rw [List.take_succ_eq_append_getElem hk, List.all_append, h]
  simp [h1]

set_option maxHeartbeats 1000000 in
set_option maxRecDepth 100000 in
theorem indexb_calls (a : Option Addr) (m cap : Nat) (l : List Bt) (n : Int) (nb : Nat) (w : World) (hR : Rd w 2 a m cap (bts l)) (hN : Rd w 1 (some ⟨nb, 0, none⟩) 1 1 [.int .i64 n]) :
    Calls Tryd.prog 59 #[.slice a m cap, .func (.func 44) #[] #[.pointer (some ⟨nb, 0, none⟩)]] w fun e w' => (∃ r : Int, e = .returned (.int .i64 r) ∧ decide (0 ≤ r) = !(l.all (okI n))) ∧ Below w.heap.size w w' := by
  have hO := Own.start w
  have hlen : l.length = m := by have := hR.len; rw [bts_length] at this; omega
  have hmax : m ≤ maxLen := Nat.le_trans hR.le hR.max
  unfold maxLen at hmax
  have HR := Lib.hid hR
  have HN0 := Lib.hid hN
  have HL := Lib.hid hlen
  clear hR hlen hN
  generalize hW : w = wn at hO HR HN0 ⊢
  clear hW w
  go_enter Tryd.func59, Tryd.ntmps59
  go_wp2
  go_loopg [8] m (fun r c wr => ∃ k : Nat, r = m - k ∧ k ≤ m ∧ c = .int .i64 k ∧ Hid ((l.take k).all (okI n) = true) ∧ Own wn wr [])
  case atStart => exact ⟨0, rfl, by omega, rfl, rfl, hO⟩
  case round =>
    obtain ⟨k, rfl, hk, rfl, HA, hO1⟩ := hrel
    clear hO
    have hO := hO1
    clear hO1
    by_cases hlt : k < m
    · have hb0 : decide ((k : Int) < (m : Int)) = true := by simp; omega
      have hkl : k < l.length := by rw [HL.out]; exact hlt
      obtain ⟨ba, off, rfl⟩ := HR.out.place (by omega)
      have HX := Lib.hid (List.getElem?_eq_getElem hkl)
      have HN : Hid (okI n l[k] = true → (l.take (k + 1)).all (okI n) = true) := fun h => okI_next hkl HA.out h
      have HB : Hid (okI n l[k] = false → l.all (okI n) = false) := fun h => okI_hit hkl h
      generalize l[k] = p at *
      cases hm : okI n p
      all_goals
        have HM := Lib.hid hm
        clear hm
        go_wp2_with (first
          | ((with_reducible refine gLoad (T := 87) ?_); refine ld_bt (hO.rd HR.out) HX.out rfl (by omega) (tA rfl) (tS rfl) ?_)
          | (go_at_call 44; refine (bad_calls n p nb _ (hO.rd HN0.out)).mono ?_; rw [HM.out]; rintro e w1 ⟨rfl, hb⟩; replace hO := hO.call hb; clear hb))
      · go_ret
        refine ⟨⟨_, rfl, ?_⟩, hO.below⟩
        rw [HB.out HM.out]
        simp
      · go_roundg (m - (k + 1))
        case measure => omega
        case rel => exact ⟨k + 1, rfl, by omega, by go_num, HN.out HM.out, hO⟩
    · obtain rfl : k = m := by omega
      go_wp2
      go_ret
      refine ⟨⟨_, rfl, ?_⟩, hO.below⟩
      have := HA.out
      rw [List.take_of_length_le (by rw [HL.out]; omega)] at this
      rw [this]
      rfl

set_option maxHeartbeats 1000000 in
theorem containsb_calls (a : Option Addr) (m cap : Nat) (l : List Bt) (n : Int) (nb : Nat) (w : World) (hR : Rd w 2 a m cap (bts l)) (hN : Rd w 1 (some ⟨nb, 0, none⟩) 1 1 [.int .i64 n]) :
    Calls Tryd.prog 45 #[.slice a m cap, .func (.func 44) #[] #[.pointer (some ⟨nb, 0, none⟩)]] w fun e w' => e = .returned (.bool (!(l.all (okI n)))) ∧ Below w.heap.size w w' := by
  have HR := Lib.hid hR
  have HN0 := Lib.hid hN
  clear hR hN
  go_enter Tryd.func45, Tryd.ntmps45
  go_wp2_with (go_at_call 59; refine (indexb_calls _ _ _ l n nb _ HR.out HN0.out).mono ?_; rintro e w1 ⟨⟨r, rfl, hr⟩, hb⟩; have HX := Lib.hid hr; have HBB := Lib.hid hb; clear hr hb)
  go_ret
  exact ⟨by rw [← HX.out]; rfl, HBB.out⟩
end Go.Proofs.YtniibdglodnhoaaDoor

/- Walk: coder.Encode. -/
namespace Go.Kc
open Go.Pb
def prs (l : List Bt) : List (Nat × Bool) := l.map fun x => (x.at_.toNat, x.b)
theorem prs_length (l : List Bt) : (prs l).length = l.length := by simp [prs]
theorem prs_take (l : List Bt) (k : Nat) : prs (l.take k) = (prs l).take k := by unfold prs; rw [List.map_take]
theorem prs_next {l : List Bt} {k : Nat} (hk : k < l.length) : prs (l.take (k + 1)) = prs (l.take k) ++ [(l[k].at_.toNat, l[k].b)] := by
  unfold prs
  rw [List.take_succ_eq_append_getElem hk, List.map_append]; rfl
theorem ws_snoc (s : Ws) (l : List (Nat × Bool)) (x : Nat × Bool) : s.run (l ++ [x]) = (s.run l).step x.1 x.2 := by simp [Ws.run]
theorem holds_one {n : Nat} {l : List (Nat × Bool)} (hw : within n l) : Holds ((Ws.start n).run l) (enc n l).V (enc n l).k 1 := by
  have hw' : within (start n).p.length l := by rw [start_len]; exact hw
  have hsim := sim_run (sim_start n) (start_good n) hw'
  obtain ⟨f1, f2, f3, _⟩ := run_facts (start_good n) hw'
  obtain ⟨h1, h2, h3, h4, h5, h6⟩ := hsim.holds
  have hlo := f1.lo
  refine ⟨h1, h2, h3, h4, ?_, ?_⟩
  · exact Nat.le_trans (Nat.add_le_add_left (by omega) _) h5
  · omega
theorem within_take {n : Nat} {l : List (Nat × Bool)} (h : within n l) (k : Nat) : within n (l.take k) := fun x hx => h x (List.mem_of_mem_take hx)
/-- what the walk wants of each beginning -/
theorem run_all {n : Nat} {l : List (Nat × Bool)} (h : within n l) (hl : l.length ≤ 1048576) : Sim ((Ws.start n).run l) (enc n l) ∧ (enc n l).Good ∧ (enc n l).p.length = n ∧ ((Ws.start n).run l).p.length = n ∧ (enc n l).k ≤ 1000000 := by
  have hw' : within (start n).p.length l := by rw [start_len]; exact h
  have hsim := sim_run (sim_start n) (start_good n) hw'
  obtain ⟨f1, f2, f3, f4⟩ := enc_facts h
  refine ⟨hsim, f1, f3, ?_, by omega⟩
  rw [hsim.p]; exact f3
theorem mv_facts {n : Nat} {l : List (Nat × Bool)} (h : within n l) (hl : l.length ≤ 1048576) (j : Nat) (hj : j < 5) {t : Ws} (ht : Ws.moves j ((Ws.start n).run l) = t) : t.low < 8589934592 ∧ t.kept < 256 ∧ 1 ≤ t.many ∧ t.out.length + t.many ≤ 10000000 := by
  subst ht
  have hh := moves_holds (holds_one h) j
  obtain ⟨_, _, _, f4⟩ := enc_facts h
  have h1 := hh.low
  have h2 := hh.len
  exact ⟨by omega, hh.kept, hh.many, by omega⟩
end Go.Kc
namespace Go.Proofs.YtniibdglodnhoaaDoor
open Go.RowKit Go.Own Go.Bv Go.Ord Go.Eq Go.Opn Go.Pb

theorem within_ok {n : Nat} {l : List Bt} (h : l.all (okI (n : Int)) = true) : Go.Kc.within n (Go.Kc.prs l) := by
  intro x hx
  unfold Go.Kc.prs at hx
  obtain ⟨y, hy, rfl⟩ := List.mem_map.1 hx
  have := List.all_eq_true.1 h y hy
  simp only [okI, Bool.and_eq_true, decide_eq_true_eq] at this
  dsimp only
  omega

set_option maxHeartbeats 4000000 in
set_option maxRecDepth 100000 in
theorem encode_ok (n : Nat) (hn : n ≤ 1024) (a : Option Addr) (m cap : Nat) (l : List Bt) (w : World) (hR : Rd w 2 a m cap (bts l)) (hm : m ≤ 1048576) (hl : l.all (okI (n : Int)) = true) (M : Nat) (T : List (BitVec 8)) (hT : Go.Kc.encT n (Go.Kc.prs l) = T) (hM : T.length = M) :
    Calls Tryd.prog 26 #[.int .i64 (n : Int), .slice a m cap] w fun e w' => ∃ a' c', e = .returned (.tuple #[.slice a' M c', .int .i64 0]) ∧ Below w.heap.size w w' ∧ w'.ownsRow w.heap.size 5 1 (.slice a' M c') M (u8s T) := by
  have hO := Own.start w
  have hlen : l.length = m := by have := hR.len; rw [bts_length] at this; omega
  have hnT : newT (n : Int) = List.replicate n 1024 := by unfold newT; rw [if_pos (by omega), Int.toNat_natCast]
  have hnE : newE (n : Int) = 0 := by unfold newE; rw [if_pos (by omega)]
  have HNEW := Lib.hid (fun w => new_calls (n : Int) w n (List.replicate n 1024) 0 (by rw [hnT, List.length_replicate]) hnT hnE)
  have hw := within_ok hl
  have HW := Lib.hid hw
  have HALL := Lib.hid hl
  have HLN := Lib.hid hlen
  have hT5 := Go.Kc.writes hw
  rw [hT] at hT5
  have HT5 := Lib.hid hT5
  have HTM := Lib.hid hM
  have HR := Lib.hid hR
  have hmx : ((1048576 : Int) < (m : Int)) = False := eq_false (by omega)
  have dmx : decide ((1048576 : Int) < (m : Int)) = false := decide_eq_false (by omega)
  clear hR hlen hnT hnE hw hl hT hM hT5 hmx
  generalize hWW : w = wn at hO HR ⊢
  clear hWW w
  go_enter Tryd.func26, Tryd.ntmps26
  go_wp2_with (first
    | ((with_reducible refine gBox ?_); first | (refine bxA hO rfl ?_; clear hO; intro xb ww hO) | (refine bx1 hO rfl rfl ?_; clear hO; intro xb ww hO))
    | ((with_reducible refine gLoad ?_); first | refine ldX hO 0 rfl rfl (tA rfl) (tS rfl) ?_ | refine ldC hO 0 rfl rfl (tA rfl) rfl ?_)
    | (go_at_call 43; refine (HNEW.out _).mono ?_; rintro e ww ⟨a1, c1, rfl, hb, hr⟩; replace hO := hO.addRow hb hr; clear hb hr)
    | (go_at_call 45; refine (containsb_calls _ _ _ l (n : Int) xb _ (hO.rd HR.out) (hO.rd1 1 rfl)).mono ?_; rw [HALL.out]; rintro e ww ⟨rfl, hb⟩; replace hO := hO.call hb; clear hb)
    | ((with_reducible refine gBld (T := 96) ?_); refine own_bld (wC (.slice a1 n c1) 0 4294967295 0 1 (.slice none 0 0)) (by kernel_rfl) ?_))
  have hO2 : Own wn _ [.blk xb (.cells (wC (.slice a1 n c1) 0 4294967295 0 1 (.slice none 0 0)) 96 (0,0)), .sl 5 1 (.slice none 0 0) 0 [], .sl 3 1 (.slice a1 n c1) n (i64s (List.replicate n 1024))] := (hO.take2.addRow (Below.refl _ _) (World.ownsRow_nil _ _ _ _)).swap
  clear hO
  have hO := hO2
  clear hO2
  go_loopg [36] m (fun r c wr => ∃ (k : Nat) (s : Go.Kc.Ws) (aO : Option Addr) (cO : Nat), r = m - k ∧ k ≤ m ∧ c = .int .i64 k ∧ Hid ((Go.Kc.Ws.start n).run (Go.Kc.prs (l.take k)) = s) ∧
    Own wn wr [.blk xb (.cells (wC (.slice a1 n c1) s.low s.span s.kept s.many (.slice aO s.out.length cO)) 96 (0,0)), .sl 5 1 (.slice aO s.out.length cO) s.out.length (u8s s.out), .sl 3 1 (.slice a1 n c1) n (i64s s.p)])
  case atStart => exact ⟨0, Go.Kc.Ws.start n, none, 0, rfl, by omega, rfl, rfl, hO⟩
  case round =>
    obtain ⟨k, s, aO, cO, rfl, hk, rfl, HS, hO1⟩ := hrel
    clear hO
    have hO := hO1
    clear hO1
    by_cases hlt : k < m
    · have hb0 : decide ((k : Int) < (m : Int)) = true := by simp; omega
      have hkl : k < l.length := by rw [HLN.out]; exact hlt
      obtain ⟨ba, off, rfl⟩ := HR.out.place (by omega)
      have hx := List.getElem?_eq_getElem hkl
      have hok := List.all_eq_true.1 HALL.out _ (List.getElem_mem hkl)
      have hnx := Go.Kc.prs_next hkl
      generalize l[k] = x at hx hok hnx
      obtain ⟨pos, b⟩ := x
      simp only [okI, Bool.and_eq_true, decide_eq_true_eq] at hok
      obtain ⟨p, rfl⟩ : ∃ p : Nat, pos = (p : Int) := ⟨pos.toNat, by omega⟩
      have hpn : p < n := by omega
      have hra := Go.Kc.run_all (n := n) (l := Go.Kc.prs (l.take k)) (by rw [Go.Kc.prs_take]; exact Go.Kc.within_take HW.out k) (by rw [Go.Kc.prs_length, List.length_take]; omega)
      rw [HS.out] at hra
      have hst : (Go.Kc.Ws.start n).run (Go.Kc.prs (l.take (k + 1))) = s.step p b := by
        rw [hnx, Go.Kc.ws_snoc, HS.out, Int.toNat_natCast]
      obtain ⟨t, ht⟩ : ∃ t, s.step p b = t := ⟨_, rfl⟩
      rw [ht] at hst
      have HX := Lib.hid hx
      have HRA := Lib.hid hra
      have HST := Lib.hid hst
      have HTT := Lib.hid ht
      have HPN := Lib.hid hpn
      clear hx hok hnx hra hst ht hpn
      go_wp2_with (first
        | ((with_reducible refine gAlloc (T := 87) ?_); refine own_alloc hO _ _ ibtz ?_; clear hO; intro bx ww hO)
        | ((with_reducible refine gLoad (T := 87) ?_); refine ld_bt (hO.rd HR.out) HX.out rfl (by omega) (tA rfl) (tS rfl) ?_)
        | ((with_reducible refine gLoad ?_); first | refine ldX hO 0 rfl rfl (tA rfl) (tS rfl) ?_ | refine ldC hO 0 rfl rfl (tA rfl) rfl ?_)
        | ((with_reducible refine gStore ?_); first | (refine stX hO 0 rfl rfl rfl rfl rfl (tS rfl) ?_; clear hO; intro ww hO) | (refine stC hO 0 rfl rfl rfl (ltb rfl) rfl (tS rfl) ?_; clear hO; intro ww hO))
        | (go_at_call 46; refine (put_calls s _ HRA.out.1 HRA.out.2.1 p b (by rw [HRA.out.2.2.1]; exact HPN.out) HRA.out.2.2.2.2 HRA.out.2.2.2.1.symm t HTT.out hO.tail).mono ?_; rintro e ww ⟨a2, c2, rfl, hO2⟩; clear hO; have hO := hO2; clear hO2))
      go_roundg (m - (k + 1))
      case measure => omega
      case rel => exact ⟨k + 1, t, a2, c2, rfl, by omega, by go_num, HST, hO⟩
    · obtain rfl : k = m := by omega
      have HS2 : Hid ((Go.Kc.Ws.start n).run (Go.Kc.prs l) = s) := by
        have h := HS.out
        rw [List.take_of_length_le (by rw [HLN.out]; omega)] at h
        exact h
      clear HS
      have hmv : ∀ j, j < 5 → ∀ t, Go.Kc.Ws.moves j s = t → t.low < 8589934592 ∧ t.kept < 256 ∧ 1 ≤ t.many ∧ t.out.length + t.many ≤ 10000000 := fun j hj t ht =>
        Go.Kc.mv_facts HW.out (by rw [Go.Kc.prs_length, HLN.out]; exact hm) j hj (by rw [HS2.out]; exact ht)
      have HMV := Lib.hid hmv
      rw [HS2.out] at HT5
      clear hmv HS2
      go_wp2
      go_loopg [47] 5 (fun r c wr => ∃ (j : Nat) (t : Go.Kc.Ws) (aO : Option Addr) (cO : Nat), r = 5 - j ∧ j ≤ 5 ∧ c = .int .i64 j ∧ Hid (Go.Kc.Ws.moves j s = t) ∧
        Own wn wr [.blk xb (.cells (wC (.slice a1 n c1) t.low t.span t.kept t.many (.slice aO t.out.length cO)) 96 (0,0)), .sl 5 1 (.slice aO t.out.length cO) t.out.length (u8s t.out), .sl 3 1 (.slice a1 n c1) n (i64s s.p)])
      case atStart => exact ⟨0, s, aO, cO, rfl, by omega, rfl, rfl, hO⟩
      case round =>
        obtain ⟨j, t, aO, cO, rfl, hj, rfl, HJ, hO1⟩ := hrel
        clear hO
        have hO := hO1
        clear hO1
        by_cases hj5 : j < 5
        · have hb0 : decide ((j : Int) < 5) = true := decide_eq_true (by omega)
          have hf := HMV.out j hj5 t HJ.out
          have HF := Lib.hid hf
          have HN2 : Hid (Go.Kc.Ws.moves (j + 1) s = t.move) := by
            show Go.Kc.Ws.move _ = _
            rw [HJ.out]
          have HSP : Hid (t.move.span = t.span) := by show _ = _; unfold Go.Kc.Ws.move; split <;> rfl
          clear hf
          go_wp2_with (first
            | (go_at_call 47; refine (move_calls rfl t hO HF.out.1 HF.out.2.1 HF.out.2.2.1 rfl HF.out.2.2.2).mono ?_; rintro e ww ⟨a2, c2, rfl, hO2⟩; clear hO; have hO := hO2; clear hO2))
          go_roundg (5 - (j + 1))
          case measure => omega
          case rel => exact ⟨j + 1, t.move, a2, c2, rfl, by omega, by go_num, HN2, by rw [HSP.out]; exact hO⟩
        · obtain rfl : j = 5 := by omega
          have HTT : Hid (t.out = T) := by show _ = _; rw [← HT5.out, HJ.out]
          rw [HTT.out, HTM.out] at hO
          go_wp2_with (first
            | ((with_reducible refine gLoad ?_); first | refine ldX hO 0 rfl rfl (tA rfl) (tS rfl) ?_ | refine ldC hO 0 rfl rfl (tA rfl) rfl ?_))
          go_ret2
          exact ⟨aO, cO, rfl, hO.below, hO.row 1 rfl⟩
end Go.Proofs.YtniibdglodnhoaaDoor

/- Walk: coder.Encode, whatever it is given; live. -/
namespace Go.Proofs.YtniibdglodnhoaaDoor
open Go.RowKit Go.Own Go.Bv Go.Ord Go.Eq Go.Opn Go.Pb

def encE (x : Int) (l : List Bt) : Int := if 0 ≤ x ∧ x ≤ 1024 then (if l.length ≤ 1048576 then (if l.all (okI x) then 0 else 4) else 3) else 1
def encO (x : Int) (l : List Bt) : List (BitVec 8) := if encE x l = 0 then Go.Kc.encT x.toNat (Go.Kc.prs l) else []

set_option maxHeartbeats 4000000 in
set_option maxRecDepth 100000 in
theorem encode_calls (x : Int) (a : Option Addr) (m cap : Nat) (l : List Bt) (w : World) (hR : Rd w 2 a m cap (bts l)) (M : Nat) (T : List (BitVec 8)) (E : Int) (hE : encE x l = E) (hT : encO x l = T) (hM : T.length = M) :
    Calls Tryd.prog 26 #[.int .i64 x, .slice a m cap] w fun e w' => ∃ a' c', e = .returned (.tuple #[.slice a' M c', .int .i64 E]) ∧ Below w.heap.size w w' ∧ w'.ownsRow w.heap.size 5 1 (.slice a' M c') M (u8s T) := by
  have hlen : l.length = m := by have := hR.len; rw [bts_length] at this; omega
  by_cases hx : 0 ≤ x ∧ x ≤ 1024
  · obtain ⟨n, rfl⟩ : ∃ n : Nat, x = (n : Int) := ⟨x.toNat, by omega⟩
    have hnT : newT (n : Int) = List.replicate n 1024 := by unfold newT; rw [if_pos (by omega), Int.toNat_natCast]
    have hnE : newE (n : Int) = 0 := by unfold newE; rw [if_pos (by omega)]
    have HNEW := Lib.hid (fun w => new_calls (n : Int) w n (List.replicate n 1024) 0 (by rw [hnT, List.length_replicate]) hnT hnE)
    by_cases hm : m ≤ 1048576
    · cases hl : l.all (okI (n : Int))
      · have e1 : E = 4 := by rw [← hE]; unfold encE; rw [if_pos hx, if_pos (by omega), hl]; rfl
        have e2 : T = [] := by rw [← hT]; unfold encO; rw [hE, e1]; rfl
        have e3 : M = 0 := by rw [← hM, e2]; rfl
        subst e1 e2 e3
        have hO := Own.start w
        have HALL := Lib.hid hl
        have HR := Lib.hid hR
        have dmx : decide ((1048576 : Int) < (m : Int)) = false := decide_eq_false (by omega)
        clear hE hT hM hnT hnE hl hR hx hlen hm
        generalize hWW : w = wn at hO HR ⊢
        clear hWW w
        go_enter Tryd.func26, Tryd.ntmps26
        go_wp2_with (first
          | ((with_reducible refine gBox ?_); first | (refine bxA hO rfl ?_; clear hO; intro xb ww hO) | (refine bx1 hO rfl rfl ?_; clear hO; intro xb ww hO))
          | ((with_reducible refine gLoad ?_); first | refine ldX hO 0 rfl rfl (tA rfl) (tS rfl) ?_ | refine ldC hO 0 rfl rfl (tA rfl) rfl ?_)
          | (go_at_call 43; refine (HNEW.out _).mono ?_; rintro e ww ⟨a1, c1, rfl, hb, hr⟩; replace hO := hO.addRow hb hr; clear hb hr)
          | (go_at_call 45; refine (containsb_calls _ _ _ l (n : Int) xb _ (hO.rd HR.out) (hO.rd1 1 rfl)).mono ?_; rw [HALL.out]; rintro e ww ⟨rfl, hb⟩; replace hO := hO.call hb; clear hb))
        go_ret2
        exact ⟨none, 0, rfl, hO.below, World.ownsRow_nil _ _ _ _⟩
      · have e1 : E = 0 := by rw [← hE]; unfold encE; rw [if_pos hx, if_pos (by omega), hl]; rfl
        have e2 : Go.Kc.encT n (Go.Kc.prs l) = T := by rw [← hT]; unfold encO; rw [hE, e1, Int.toNat_natCast]; rfl
        subst e1
        exact encode_ok n (by omega) a m cap l w hR hm hl M T e2 hM
    · have e1 : E = 3 := by rw [← hE]; unfold encE; rw [if_pos hx, if_neg (by omega)]
      have e2 : T = [] := by rw [← hT]; unfold encO; rw [hE, e1]; rfl
      have e3 : M = 0 := by rw [← hM, e2]; rfl
      subst e1 e2 e3
      have hO := Own.start w
      have dmx : decide ((1048576 : Int) < (m : Int)) = true := decide_eq_true (by omega)
      clear hE hT hM hnT hnE hR hx hlen hm
      generalize hWW : w = wn at hO ⊢
      clear hWW w
      go_enter Tryd.func26, Tryd.ntmps26
      go_wp2_with (first
        | ((with_reducible refine gBox ?_); first | (refine bxA hO rfl ?_; clear hO; intro xb ww hO) | (refine bx1 hO rfl rfl ?_; clear hO; intro xb ww hO))
        | ((with_reducible refine gLoad ?_); first | refine ldX hO 0 rfl rfl (tA rfl) (tS rfl) ?_ | refine ldC hO 0 rfl rfl (tA rfl) rfl ?_)
        | (go_at_call 43; refine (HNEW.out _).mono ?_; rintro e ww ⟨a1, c1, rfl, hb, hr⟩; replace hO := hO.addRow hb hr; clear hb hr))
      go_ret2
      exact ⟨none, 0, rfl, hO.below, World.ownsRow_nil _ _ _ _⟩
  · have e1 : E = 1 := by rw [← hE]; unfold encE; rw [if_neg hx]
    have e2 : T = [] := by rw [← hT]; unfold encO; rw [hE, e1]; rfl
    have e3 : M = 0 := by rw [← hM, e2]; rfl
    subst e1 e2 e3
    have hnT : newT x = [] := by unfold newT; rw [if_neg hx]
    have hnE : newE x = 1 := by unfold newE; rw [if_neg hx]
    have HNEW := Lib.hid (fun w => new_calls x w 0 [] 1 (by rw [hnT]; rfl) hnT hnE)
    have hO := Own.start w
    clear hE hT hM hnT hnE hR hx hlen
    generalize hWW : w = wn at hO ⊢
    clear hWW w
    go_enter Tryd.func26, Tryd.ntmps26
    go_wp2_with (first
      | ((with_reducible refine gBox ?_); first | (refine bxA hO rfl ?_; clear hO; intro xb ww hO) | (refine bx1 hO rfl rfl ?_; clear hO; intro xb ww hO))
      | ((with_reducible refine gLoad ?_); first | refine ldX hO 0 rfl rfl (tA rfl) (tS rfl) ?_ | refine ldC hO 0 rfl rfl (tA rfl) rfl ?_)
      | (go_at_call 43; refine (HNEW.out _).mono ?_; rintro e ww ⟨a1, c1, rfl, hb, hr⟩; replace hO := hO.addRow hb hr; clear hb hr))
    go_ret2
    exact ⟨none, 0, rfl, hO.below, World.ownsRow_nil _ _ _ _⟩
end Go.Proofs.YtniibdglodnhoaaDoor

/- Walk: live of the coder's laws; cells of bits; SameBytes. -/
namespace Go.Own
open Go.RowKit Go.Bv Go.Ord Go.Eq
section
variable {P : Program} {ops : Array Oper} {Q : Exit → Act → World → Prop} {a : Act} {w : World} {rest : List Oper}
variable {d : Option Tmp} {ty : TypeId} {pos : String} {aft : Array Edge}
/-- string(b) -/
theorem cnvS {s t e : TypeId} {x : Operand} {ao : Option Addr} {n cap : Nat} {bs : List (BitVec 8)} (hR : Rd w 1 ao n cap (Go.Bv.u8s bs)) (hs : P.underlying s = some (.slice e)) (he : P.underlying e = some (.int .u8)) (ht : P.underlying t = some .string) (hx : a.eval x = .slice ao n cap)
    (h : wpList P ops Q rest (a.put d (.string (strB bs))) w) :
    wpList P ops Q ({ dst := d, op := .convert s t x, type := ty, pos := pos, after := aft, guard := none } :: rest) a w :=
  Go.Bva.step_val (run_value hx (run_bytes_string w hs he ht hR)) h
end
end Go.Own
namespace Go.Proofs.YtniibdglodnhoaaDoor
open Go.RowKit Go.Own Go.Bv Go.Ord Go.Eq Go.Opn Go.Pb

theorem bt_cells {w0 w : World} {L : List Res} (hO : Own w0 w L) {b o n c k : Nat} {l : List Bt} {x : Bt} (hR : Rd w0 2 (some ⟨b, o, none⟩) n c (bts l)) (hx : l[k]? = some x) : w.cell? ⟨b, o + k * 2, none⟩ = some (.int .i64 x.at_) ∧ w.cell? ⟨b, o + k * 2 + 1, none⟩ = some (.bool x.b) := by
  obtain ⟨hk, he⟩ := List.getElem?_eq_some_iff.1 hx
  have hl : l.length * 2 = n * 2 := by rw [← bts_length, hR.len]
  obtain ⟨b', o', he2, _, hc⟩ := (hO.rd hR).at' (by omega)
  simp only [Option.some.injEq, Addr.mk.injEq, and_true] at he2
  obtain ⟨rfl, rfl⟩ := he2
  have h0 := bts_get l k hk 0 (.int .i64 x.at_) (by rw [he]; rfl)
  have h1 := bts_get l k hk 1 (.bool x.b) (by rw [he]; rfl)
  exact ⟨by rw [hc _ (by omega)]; exact h0, by rw [Nat.add_assoc, hc _ (by omega)]; exact h1⟩

set_option maxHeartbeats 1000000 in
theorem same_calls (a1 a2 : Option Addr) (n1 c1 n2 c2 : Nat) (b1 b2 : List (BitVec 8)) (w : World) (h1 : Rd w 1 a1 n1 c1 (u8s b1)) (h2 : Rd w 1 a2 n2 c2 (u8s b2)) :
    Calls Tryd.prog 9 #[.slice a1 n1 c1, .slice a2 n2 c2] w fun e w' => e = .returned (.bool (decide (b1 = b2))) ∧ w = w' := by
  have r1 := run_bytes_string (P := Tryd.prog) w Tryd.underlying28 Tryd.underlying5 Tryd.underlying9 h1
  have r2 := run_bytes_string (P := Tryd.prog) w Tryd.underlying28 Tryd.underlying5 Tryd.underlying9 h2
  clear h1 h2
  go_enter Tryd.func9, Tryd.ntmps9
  go_wp2
  go_ret
  exact ⟨by rw [strB_beq]; rfl, rfl⟩

theorem live_text : encE 1 [] = 0 ∧ encO 1 [] = [0, 0, 0, 0, 0] := ⟨by decide, by decide⟩

end Go.Proofs.YtniibdglodnhoaaDoor

/- Tokens as bits, plain. No program in sight. -/
namespace Go.Pz
open Go.Pb Go.Mt

/-- a number's bits by a tree: N is the number with a one ahead of its bits; the last k of them -/
def numT (N tree : Nat) : Nat → List Bt
  | 0 => []
  | k + 1 => ⟨((tree + N / 2 ^ (k + 1) : Nat) : Int), decide (N / 2 ^ k % 2 = 1)⟩ :: numT N tree k
theorem numT_length (N tree : Nat) : ∀ k, (numT N tree k).length = k
  | 0 => rfl
  | k + 1 => by simp [numT, numT_length N tree k]
theorem numT_at {N tree w : Nat} (hN : N < 2 ^ (w + 1)) (hN2 : 2 ^ w ≤ N) : ∀ k, k ≤ w → ∀ x ∈ numT N tree k, (tree : Int) + 1 ≤ x.at_ ∧ x.at_ < (tree : Int) + 2 ^ w
  | 0, _, x, hx => by cases hx
  | k + 1, hk, x, hx => by
    rcases List.mem_cons.1 hx with rfl | hx
    · have h1 : N / 2 ^ (k + 1) < 2 ^ w := by
        rw [Nat.div_lt_iff_lt_mul (Nat.pow_pos (by decide)), ← Nat.pow_add]
        exact Nat.lt_of_lt_of_le hN (Nat.pow_le_pow_right (by decide) (by omega))
      have h2 : 1 ≤ N / 2 ^ (k + 1) := by
        rw [Nat.le_div_iff_mul_le (Nat.pow_pos (by decide)), Nat.one_mul]
        exact Nat.le_trans (Nat.pow_le_pow_right (by decide) hk) hN2
      dsimp only
      refine ⟨by omega, ?_⟩
      have : ((N / 2 ^ (k + 1) : Nat) : Int) < ((2 ^ w : Nat) : Int) := by exact_mod_cast h1
      push_cast at this ⊢
      omega
    · exact numT_at hN hN2 k (by omega) x hx
def bitsOf (t : Tok) : List Bt := if t.len = 0 then ⟨0, false⟩ :: numT (256 + t.lit.toNat) 0 8 else ⟨0, true⟩ :: (numT (16 + (t.len - 3).toNat) 256 4 ++ numT (256 + (t.dist - 1).toNat) 272 8)
def bitsAll (l : List Tok) : List Bt := l.flatMap bitsOf
theorem bitsAll_append (l r : List Tok) : bitsAll (l ++ r) = bitsAll l ++ bitsAll r := by simp [bitsAll]
theorem bitsAll_next {l : List Tok} {k : Nat} (h : k < l.length) : bitsAll (l.take (k + 1)) = bitsAll (l.take k) ++ bitsOf l[k] := by
  rw [take_succ' h, bitsAll_append]; simp [bitsAll]
theorem bitsOf_length (t : Tok) : (bitsOf t).length = if t.len = 0 then 9 else 13 := by
  unfold bitsOf
  split
  · rw [List.length_cons, numT_length]
  · rw [List.length_cons, List.length_append, numT_length, numT_length]
theorem bitsAll_length_le (l : List Tok) : (bitsAll l).length ≤ 13 * l.length := by
  induction l with
  | nil => simp [bitsAll]
  | cons t r ih =>
    have : bitsAll (t :: r) = bitsOf t ++ bitsAll r := by simp [bitsAll]
    rw [this, List.length_append, bitsOf_length, List.length_cons]
    split <;> omega
/-! ### the length ahead -/
def le4 (n : Nat) : List (BitVec 8) := [BitVec.ofNat 8 n, BitVec.ofNat 8 (n / 256), BitVec.ofNat 8 (n / 65536), BitVec.ofNat 8 (n / 16777216)]
def packT (b : List (BitVec 8)) : List (BitVec 8) := le4 b.length ++ Go.Kc.encT 528 (Go.Kc.prs (bitsAll (tokens b)))
def lg4 (b : List (BitVec 8)) : Nat := (b.getD 0 0).toNat + 256 * (b.getD 1 0).toNat + 65536 * (b.getD 2 0).toNat + 16777216 * (b.getD 3 0).toNat
def longE (b : List (BitVec 8)) : Int := if b.length < 9 then 2 else if 65536 < lg4 b then 2 else 0
def longV (b : List (BitVec 8)) : Nat := if b.length < 9 then 0 else if 65536 < lg4 b then 0 else lg4 b
theorem or_i64 (a b s : Nat) (ha : a < 2 ^ s) (hs : s ≤ 24) (hb : b < 256) : Go.bits .or .i64 (a : Int) ((b * 2 ^ s : Nat) : Int) = ((a + b * 2 ^ s : Nat) : Int) := by
  have hp : 2 ^ s ≤ 16777216 := Nat.le_trans (Nat.pow_le_pow_right (by decide) hs) (by decide)
  have hbs : b * 2 ^ s ≤ 256 * 16777216 := Nat.mul_le_mul (by omega) hp
  have h1 : (BitVec.ofInt 64 (a : Int)).toNat = a := by
    rw [BitVec.ofInt_natCast, BitVec.toNat_ofNat]; exact Nat.mod_eq_of_lt (by omega)
  have h2 : (BitVec.ofInt 64 ((b * 2 ^ s : Nat) : Int)).toNat = b * 2 ^ s := by
    rw [BitVec.ofInt_natCast, BitVec.toNat_ofNat]; exact Nat.mod_eq_of_lt (by omega)
  show IntKind.i64.wrap ((BitVec.ofInt 64 (a : Int) ||| BitVec.ofInt 64 ((b * 2 ^ s : Nat) : Int)).toNat : Int) = _
  rw [BitVec.toNat_or, h1, h2, ← Nat.shiftLeft_eq, Nat.or_comm, ← Nat.shiftLeft_add_eq_or_of_lt ha, Nat.shiftLeft_eq, IntKind.wrap_i64]
  omega
theorem bits_within {m : Nat} : ∀ {l : List Tok}, okFrom m l → ∀ x ∈ bitsAll l, 0 ≤ x.at_ ∧ x.at_ < 528 := by
  intro l
  induction l generalizing m with
  | nil => intro _ x hx; simp [bitsAll] at hx
  | cons t r ih =>
    intro h x hx
    have e : bitsAll (t :: r) = bitsOf t ++ bitsAll r := by simp [bitsAll]
    rw [e] at hx
    rcases List.mem_append.1 hx with hx | hx
    · have ht := h.1
      unfold bitsOf at hx
      split at hx
      · rcases List.mem_cons.1 hx with rfl | hx
        · exact ⟨by decide, by decide⟩
        · have hl := t.lit.isLt
          have := numT_at (N := 256 + t.lit.toNat) (tree := 0) (w := 8) (by omega) (by omega) 8 (by omega) x hx
          have e8 : ((2 : Int) ^ 8) = 256 := by decide
          omega
      · rename_i h0
        have hk : 3 ≤ t.len ∧ t.len ≤ 18 ∧ 1 ≤ t.dist ∧ t.dist ≤ 256 := by
          unfold Tok.ok at ht; omega
        rcases List.mem_cons.1 hx with rfl | hx
        · exact ⟨by decide, by decide⟩
        · rcases List.mem_append.1 hx with hx | hx
          · have := numT_at (N := 16 + (t.len - 3).toNat) (tree := 256) (w := 4) (by omega) (by omega) 4 (by omega) x hx
            have e8 : ((2 : Int) ^ 4) = 16 := by decide
            omega
          · have := numT_at (N := 256 + (t.dist - 1).toNat) (tree := 272) (w := 8) (by omega) (by omega) 8 (by omega) x hx
            have e8 : ((2 : Int) ^ 8) = 256 := by decide
            omega
    · exact ih h.2 x hx
theorem and1_i64 (a : Nat) (ha : a < 9223372036854775808) : Go.bits .and .i64 (a : Int) 1 = ((a % 2 : Nat) : Int) := by
  have h1 : (BitVec.ofInt 64 (a : Int)).toNat = a := by
    rw [BitVec.ofInt_natCast, BitVec.toNat_ofNat]; exact Nat.mod_eq_of_lt (by omega)
  show IntKind.i64.wrap ((BitVec.ofInt 64 (a : Int) &&& BitVec.ofInt 64 1).toNat : Int) = _
  rw [BitVec.toNat_and, h1, show (BitVec.ofInt 64 1).toNat = 1 from rfl, Nat.and_one_is_mod, IntKind.wrap_i64]
  omega
theorem or1_i64 (a b : Nat) (ha : a < 1000000000) (hb : b < 2) : Go.bits .or .i64 ((a : Int) * 2) (b : Int) = ((a * 2 + b : Nat) : Int) := by
  have h1 : (BitVec.ofInt 64 ((a * 2 : Nat) : Int)).toNat = a * 2 := by
    rw [BitVec.ofInt_natCast, BitVec.toNat_ofNat]; exact Nat.mod_eq_of_lt (by omega)
  have h2 : (BitVec.ofInt 64 (b : Int)).toNat = b := by
    rw [BitVec.ofInt_natCast, BitVec.toNat_ofNat]; exact Nat.mod_eq_of_lt (by omega)
  rw [show ((a : Int) * 2) = ((a * 2 : Nat) : Int) by omega]
  show IntKind.i64.wrap ((BitVec.ofInt 64 ((a * 2 : Nat) : Int) ||| BitVec.ofInt 64 (b : Int)).toNat : Int) = _
  rw [BitVec.toNat_or, h1, h2, show a * 2 = a <<< 1 by rw [Nat.shiftLeft_eq], ← Nat.shiftLeft_add_eq_or_of_lt (by omega), Nat.shiftLeft_eq, IntKind.wrap_i64]
  omega
theorem node_next (N k : Nat) : N / 2 ^ (k + 1) * 2 + N / 2 ^ k % 2 = N / 2 ^ k := by
  rw [Nat.pow_succ, ← Nat.div_div_eq_div_mul]; omega
theorem bit_same {N n w k : Nat} (h : 2 ^ w + n = N) (hk : k < w) : n / 2 ^ k % 2 = N / 2 ^ k % 2 := by
  obtain ⟨j, rfl⟩ : ∃ j, w = k + (j + 1) := ⟨w - k - 1, by omega⟩
  rw [← h, Nat.pow_add, Nat.mul_comm, Nat.add_comm, Nat.add_mul_div_right _ _ (Nat.pow_pos (by decide)), Nat.pow_succ]
  omega
end Go.Pz

/- The reader: what holds of it all along; what is read of a text by a list of places. No program in sight. -/
namespace Go.Kc
structure Rok (n : Nat) (b : List (BitVec 8)) (r : Rr) : Prop where
  len : r.p.length = n
  may : r.p.all mayB = true
  lo : 16777216 ≤ r.span
  hi : r.span < 4294967296
  code : r.code < r.span
  used : r.used ≤ b.length
theorem rok_open {n : Nat} {b : List (BitVec 8)} (h : mayOpen b) : Rok n b (open_ n b) := by
  obtain ⟨h1, _, h3⟩ := h
  have hv := val_lt ((b.drop 1).take 4)
  have hl : ((b.drop 1).take 4).length = 4 := by simp; omega
  rw [hl] at hv
  refine ⟨by simp [open_], by simp only [open_]; rw [List.all_replicate]; simp [mayB], by simp only [open_]; decide, by simp only [open_]; decide, ?_, h1⟩
  show val ((b.drop 1).take 4) < 4294967295
  have h4 : (256 : Nat) ^ 4 = 4294967296 := by decide
  rw [h4] at hv
  generalize val ((b.drop 1).take 4) = v at *
  omega
theorem rok_part {n : Nat} {b : List (BitVec 8)} {r : Rr} (h : Rok n b r) {a : Nat} (ha : a < n) : 253952 ≤ r.part a ∧ r.part a + 253952 ≤ r.span := by
  have g : Rc.Good ⟨r.p, 0, r.span, 0⟩ := ⟨h.may, h.lo, h.hi⟩
  obtain ⟨b1, b2, _⟩ := part_bounds g (a := a) (by rw [show (Rc.mk r.p 0 r.span 0).p = r.p from rfl, h.len]; exact ha)
  exact ⟨b1, b2⟩
theorem rok_mid {n : Nat} {b : List (BitVec 8)} {r : Rr} (h : Rok n b r) {a : Nat} (ha : a < n) : (r.mid a).code < (r.mid a).span ∧ 253952 ≤ (r.mid a).span ∧ (r.mid a).span < 4294967296 ∧ (r.mid a).p.length = n ∧ (r.mid a).p.all mayB = true := by
  obtain ⟨b1, b2⟩ := rok_part h ha
  have h1 := h.code
  have h2 := h.hi
  refine ⟨?_, ?_, ?_, by simp only [Rr.mid, List.length_set]; exact h.len, ?_⟩
  · simp only [Rr.mid]
    cases hs : r.set a
    · have := of_decide_eq_false hs
      simp; omega
    · have := of_decide_eq_true hs
      simp; omega
  · simp only [Rr.mid]; cases r.set a <;> simp <;> omega
  · simp only [Rr.mid]; cases r.set a <;> simp <;> omega
  · exact all_set h.may (may_learn _ (all_get h.may (by rw [h.len]; exact ha)))
theorem rok_next {n : Nat} {b : List (BitVec 8)} {r : Rr} (h : Rok n b r) {a : Nat} (ha : a < n) (hm : r.may b a) : Rok n b (r.next b a) := by
  obtain ⟨m1, m2, m3, m4, m5⟩ := rok_mid h ha
  have hu := h.used
  have hmu : (r.mid a).used = r.used := rfl
  unfold Rr.next Rr.norm
  split
  · rename_i hlt
    have hlen := hm hlt
    have hx := (b.getD r.used 0).isLt
    refine ⟨m4, m5, by dsimp only; omega, by dsimp only; omega, ?_, by dsimp only; omega⟩
    dsimp only
    rw [hmu]
    generalize (b.getD r.used 0).toNat = x at *
    omega
  · exact ⟨m4, m5, by omega, m3, m1, by rw [hmu]; exact hu⟩

/-- what is read, place by place: the bits, the state behind, or what stops it -/
def readN (n : Nat) (b : List (BitVec 8)) : Rr → List Int → Except Int (List Bool × Rr)
  | r, [] => .ok ([], r)
  | r, x :: l =>
    if 0 ≤ x ∧ x < (n : Int) then
      (if (r.mid x.toNat).span < 16777216 ∧ b.length ≤ r.used then .error 2 else
        match readN n b (r.next b x.toNat) l with
        | .ok (q, t) => .ok (r.set x.toNat :: q, t)
        | .error e => .error e)
    else .error 4
theorem may_iff {r : Rr} {b : List (BitVec 8)} {a : Nat} : r.may b a ↔ ¬ ((r.mid a).span < 16777216 ∧ b.length ≤ r.used) := by
  unfold Rr.may
  constructor
  · rintro h ⟨h1, h2⟩
    have := h h1
    omega
  · intro h h1
    by_cases h2 : r.used < b.length
    · exact h2
    · exact absurd ⟨h1, by omega⟩ h
end Go.Kc

/- The coder, plain: what is read of any text by any list of places; the document's writer. No program in sight. -/
namespace Go.Kc
/-- why a place is not read (0: it is) -/
def nxtE (n : Nat) (b : List (BitVec 8)) (r : Rr) (x : Int) : Int :=
  if 0 ≤ x ∧ x < (n : Int) then (if (r.mid x.toNat).span < 16777216 ∧ b.length ≤ r.used then 2 else 0) else 4
structure Rs where
  q : List Bool
  r : Rr
  e : Int
def Rs.step (n : Nat) (b : List (BitVec 8)) (s : Rs) (x : Int) : Rs :=
  if s.e = 0 then (if nxtE n b s.r x = 0 then ⟨s.q ++ [s.r.set x.toNat], s.r.next b x.toNat, 0⟩ else ⟨s.q, s.r, nxtE n b s.r x⟩) else s
def rdS (n : Nat) (b : List (BitVec 8)) (l : List Int) : Rs := l.foldl (Rs.step n b) ⟨[], open_ n b, 0⟩
theorem rdS_snoc (n : Nat) (b : List (BitVec 8)) (l : List Int) (x : Int) : rdS n b (l ++ [x]) = (rdS n b l).step n b x := by simp [rdS]
theorem rdS_next (n : Nat) (b : List (BitVec 8)) (l : List Int) (k : Nat) (hk : k < l.length) : rdS n b (l.take (k + 1)) = (rdS n b (l.take k)).step n b l[k] := by
  rw [List.take_succ_eq_append_getElem hk, rdS_snoc]
theorem step_stuck {n : Nat} {b : List (BitVec 8)} {s : Rs} (h : s.e ≠ 0) : ∀ l : List Int, l.foldl (Rs.step n b) s = s
  | [] => rfl
  | x :: l => by
    have e : s.step n b x = s := by unfold Rs.step; rw [if_neg h]
    rw [List.foldl_cons, e]; exact step_stuck h l
theorem rdS_stuck {n : Nat} {b : List (BitVec 8)} {l : List Int} {k : Nat} (h : (rdS n b (l.take k)).e ≠ 0) : rdS n b l = rdS n b (l.take k) := by
  have e : l = l.take k ++ l.drop k := (List.take_append_drop k l).symm
  conv => lhs; rw [e]
  unfold rdS at *
  rw [List.foldl_append]
  exact step_stuck h _
theorem nxtE_ok {n : Nat} {b : List (BitVec 8)} {r : Rr} {x : Int} (h : nxtE n b r x = 0) : ∃ a : Nat, x = (a : Int) ∧ a < n ∧ r.may b a := by
  unfold nxtE at h
  split at h
  · rename_i h1
    split at h
    · cases h
    · rename_i h2
      refine ⟨x.toNat, by omega, by omega, ?_⟩
      rw [may_iff]; exact h2
  · cases h
theorem nxtE_cases (n : Nat) (b : List (BitVec 8)) (r : Rr) (x : Int) : (nxtE n b r x = 0) ∨ (nxtE n b r x = 2 ∧ ∃ a : Nat, x = (a : Int) ∧ a < n ∧ ¬ r.may b a) ∨ (nxtE n b r x = 4 ∧ (x < 0 ∨ (n : Int) ≤ x)) := by
  unfold nxtE
  split
  · rename_i h1
    split
    · rename_i h2
      exact .inr (.inl ⟨rfl, x.toNat, by omega, by omega, by rw [may_iff]; exact fun h => h h2⟩)
    · exact .inl rfl
  · exact .inr (.inr ⟨rfl, by omega⟩)
theorem rok_rdS {n : Nat} {b : List (BitVec 8)} (ho : mayOpen b) (l : List Int) : ∀ k, k ≤ l.length → Rok n b (rdS n b (l.take k)).r
  | 0, _ => by rw [List.take_zero]; exact rok_open ho
  | k + 1, hk => by
    have ih : Rok n b (rdS n b (l.take k)).r := rok_rdS ho l k (by omega)
    rw [rdS_next n b l k (by omega)]
    unfold Rs.step
    split
    · split
      · rename_i h
        obtain ⟨a, e, ha, hm⟩ := nxtE_ok h
        dsimp only
        rw [e, Int.toNat_natCast]
        exact rok_next ih ha hm
      · exact ih
    · exact ih
theorem rdS_len {n : Nat} {b : List (BitVec 8)} (l : List Int) : ∀ k, k ≤ l.length → (rdS n b (l.take k)).e = 0 → (rdS n b (l.take k)).q.length = k
  | 0, _, _ => by rw [List.take_zero]; rfl
  | k + 1, hk, h => by
    rw [rdS_next n b l k (by omega)] at h ⊢
    unfold Rs.step at h ⊢
    split at h
    · rename_i h0
      rw [if_pos h0]
      split at h
      · rename_i h1
        rw [if_pos h1]
        simp [rdS_len l k (by omega) h0]
      · rename_i h1; exact absurd h h1
    · rename_i h0; exact absurd h h0
instance (b : List (BitVec 8)) : Decidable (mayOpen b) := by unfold mayOpen; infer_instance
/-- why a text is not begun to be read -/
def opE (x : Int) (b : List (BitVec 8)) : Int := if 0 ≤ x ∧ x ≤ 1024 then (if mayOpen b then 0 else 2) else 1
def decE (x : Int) (b : List (BitVec 8)) (l : List Int) : Int := if opE x b = 0 then (rdS x.toNat b l).e else opE x b
def decQ (x : Int) (b : List (BitVec 8)) (l : List Int) : List Bool := if decE x b l = 0 then (rdS x.toNat b l).q else []
def decU (x : Int) (b : List (BitVec 8)) (l : List Int) : Nat := if decE x b l = 0 then (rdS x.toNat b l).r.used else 0
theorem opE_ok {x : Int} {b : List (BitVec 8)} (h : opE x b = 0) : ∃ n : Nat, x = (n : Int) ∧ n ≤ 1024 ∧ mayOpen b := by
  unfold opE at h
  split at h
  · split at h
    · exact ⟨x.toNat, by omega, by omega, by assumption⟩
    · cases h
  · cases h

/-! ### the document's writer -/
/-- one more -/
theorem val_zeros (l : List (BitVec 8)) (j : Nat) : val (l ++ List.replicate j 0#8) = val l * 256 ^ j := by
  induction j with
  | zero => simp
  | succ j ih =>
    rw [List.replicate_succ', ← List.append_assoc, val_snoc, ih, Nat.pow_succ]
    simp only [BitVec.toNat_ofNat, Nat.zero_mod, Nat.add_zero]
    rw [Nat.mul_comm 256, Nat.mul_assoc]
/-- what the loop keeps: j octets at the end are 0 already -/
theorem more_hit {b : List (BitVec 8)} {n j : Nat} (hn : b.length = n) (hj : j < n) (h : val b + 1 = (val (b.take (n - j)) + 1) * 256 ^ j) (hx : (b[n - j - 1]'(by omega)).toNat < 255) :
    b.take (n - j - 1) ++ [b[n - j - 1]'(by omega) + 1#8] ++ List.replicate j 0#8 = be n (val b + 1) := by
  have e1 : (b.take (n - j - 1) ++ [b[n - j - 1]'(by omega) + 1#8] ++ List.replicate j 0#8).length = n := by simp; omega
  have e2 : val (b.take (n - j - 1) ++ [b[n - j - 1]'(by omega) + 1#8] ++ List.replicate j 0#8) = val b + 1 := by
    rw [val_zeros, h]
    congr 1
    have e : n - j = (n - j - 1) + 1 := by omega
    conv => rhs; rw [e, List.take_succ_eq_append_getElem (by omega), val_snoc]
    rw [val_snoc, BitVec.toNat_add, Nat.mod_eq_of_lt (by simp; omega)]
    simp; omega
  have e3 := be_val (b.take (n - j - 1) ++ [b[n - j - 1]'(by omega) + 1#8] ++ List.replicate j 0#8)
  rw [e1, e2] at e3
  exact e3.symm
theorem more_miss {b : List (BitVec 8)} {n j : Nat} (hn : b.length = n) (hj : j < n) (h : val b + 1 = (val (b.take (n - j)) + 1) * 256 ^ j) (hx : ¬ (b[n - j - 1]'(by omega)).toNat < 255) :
    val b + 1 = (val (b.take (n - (j + 1))) + 1) * 256 ^ (j + 1) := by
  rw [h]
  have e : n - j = (n - j - 1) + 1 := by omega
  rw [e, List.take_succ_eq_append_getElem (by omega), val_snoc]
  have := (b[n - j - 1]'(by omega)).isLt
  have hx2 : (b[n - j - 1]'(by omega)).toNat = 255 := by omega
  rw [hx2, Nat.pow_succ, show n - (j + 1) = n - j - 1 by omega]
  rw [Nat.mul_comm (256 ^ j) 256, ← Nat.mul_assoc]
  congr 1
  omega
theorem more_end {b : List (BitVec 8)} {n : Nat} (hn : b.length = n) (h : val b + 1 = (val (b.take (n - n)) + 1) * 256 ^ n) : List.replicate n 0#8 = be n (val b + 1) := by
  rw [Nat.sub_self, List.take_zero] at h
  have : val ([] : List (BitVec 8)) = 0 := rfl
  rw [this, Nat.zero_add, Nat.one_mul] at h
  rw [h]
  have e := be_mod n (256 ^ n)
  rw [Nat.mod_self] at e
  rw [← e]
  have h2 := be_val (List.replicate n 0#8)
  have h3 : val (List.replicate n 0#8) = 0 := by
    have := val_zeros [] n
    rw [List.nil_append] at this
    rw [this]; exact Nat.zero_mul _
  rw [List.length_replicate, h3] at h2
  exact h2.symm
theorem rc_room {n : Nat} {l : List (Nat × Bool)} (hw : within n l) : (enc n l).V + (enc n l).span ≤ 4294967296 * 256 ^ (enc n l).k := by
  have hw' : within (Kc.start n).p.length l := by rw [start_len]; exact hw
  obtain ⟨_, h2, _⟩ := run_facts (start_good n) hw'
  have h := h2.hi
  have e1 : (Kc.start n).k = 0 := rfl
  have e2 : (Kc.start n).V = 0 := rfl
  have e3 : (Kc.start n).span = 4294967295 := rfl
  rw [e1, e2, e3, Nat.sub_zero] at h
  exact Nat.le_trans h (Nat.mul_le_mul_right _ (by omega))
/-- an octet more behind a text -/
theorem be_more (k V : Nat) : be (1 + k) (V / 4294967296) ++ [BitVec.ofNat 8 (V % 4294967296 / 16777216)] = be (1 + (k + 1)) (V * 256 / 4294967296) := by
  have e : 1 + (k + 1) = (1 + k) + 1 := by omega
  rw [e, be]
  have e1 : V * 256 / 4294967296 / 256 = V / 4294967296 := by omega
  rw [e1]
  congr 2
  apply BitVec.eq_of_toNat_eq
  rw [BitVec.toNat_ofNat, BitVec.toNat_ofNat, show 2 ^ 8 = 256 from rfl]
  omega
end Go.Kc

/- Unpacking, plain. No program in sight. -/
namespace Go.Pz
open Go.Pb Go.Mt Go.Kc

structure Us where
  r : Rr
  bad : Bool
def ub (b : List (BitVec 8)) (s : Us) (a : Nat) : Bool × Us :=
  if s.bad then (false, s) else if nxtE 528 b s.r (a : Int) = 0 then (s.r.set a, ⟨s.r.next b a, false⟩) else (false, ⟨s.r, true⟩)
def un (b : List (BitVec 8)) (tree : Nat) : Nat → Nat → Us → Nat × Us
  | 0, node, s => (node, s)
  | k + 1, node, s => un b tree k (node * 2 + (ub b s (tree + node)).1.toNat) (ub b s (tree + node)).2
def utok (b : List (BitVec 8)) (s : Us) (out : List (BitVec 8)) (most : Nat) : Us × List (BitVec 8) :=
  let x := ub b s 0
  if x.1 = false then
    let y := un b 0 8 1 x.2
    (y.2, out ++ [BitVec.ofNat 8 (y.1 - 256)])
  else
    let y := un b 256 4 1 x.2
    let z := un b 272 8 1 y.2
    if out.length < z.1 - 256 + 1 ∨ most - out.length < y.1 - 16 + 3 then (⟨z.2.r, true⟩, out) else (z.2, again (z.1 - 256 + 1) (y.1 - 16 + 3) out)
def uloop (b : List (BitVec 8)) (n : Nat) : Nat → Us → List (BitVec 8) → Us × List (BitVec 8)
  | 0, s, out => (s, out)
  | f + 1, s, out => if s.bad = false ∧ out.length < n then uloop b n f (utok b s out n).1 (utok b s out n).2 else (s, out)
/-- why octets are not unpacked -/
def unE (b : List (BitVec 8)) (most : Int) : Int :=
  if most < 0 then 1 else if longE b ≠ 0 then longE b else if most < (longV b : Int) then 3 else if opE 528 (b.drop 4) ≠ 0 then 2 else
    if (uloop (b.drop 4) (longV b) (longV b) ⟨open_ 528 (b.drop 4), false⟩ []).1.bad = true ∨ (uloop (b.drop 4) (longV b) (longV b) ⟨open_ 528 (b.drop 4), false⟩ []).1.r.used ≠ b.length - 4 then 2 else 0
def unT (b : List (BitVec 8)) (most : Int) : List (BitVec 8) := if unE b most = 0 then (uloop (b.drop 4) (longV b) (longV b) ⟨open_ 528 (b.drop 4), false⟩ []).2 else []

theorem ub_rok {b : List (BitVec 8)} {s : Us} (h : Rok 528 b s.r) (a : Nat) : Rok 528 b (ub b s a).2.r := by
  unfold ub
  split
  · exact h
  · split
    · rename_i h0
      obtain ⟨k, e, hk, hm⟩ := nxtE_ok h0
      obtain rfl : a = k := by omega
      exact rok_next h hk hm
    · exact h
theorem un_rok {b : List (BitVec 8)} {tree : Nat} : ∀ (k node : Nat) {s : Us}, Rok 528 b s.r → Rok 528 b (un b tree k node s).2.r
  | 0, _, _, h => h
  | k + 1, _, _, h => un_rok k _ (ub_rok h _)
theorem un_lt {b : List (BitVec 8)} {tree : Nat} : ∀ (k node : Nat) (s : Us), node * 2 ^ k ≤ (un b tree k node s).1 ∧ (un b tree k node s).1 < (node + 1) * 2 ^ k
  | 0, node, s => by simp [un]
  | k + 1, node, s => by
    have ih := un_lt (b := b) (tree := tree) k (node * 2 + (ub b s (tree + node)).1.toNat) (ub b s (tree + node)).2
    have hb : (ub b s (tree + node)).1.toNat ≤ 1 := by cases (ub b s (tree + node)).1 <;> simp
    show _ ≤ (un b tree k _ _).1 ∧ (un b tree k _ _).1 < _
    generalize (un b tree k (node * 2 + (ub b s (tree + node)).1.toNat) (ub b s (tree + node)).2).1 = v at *
    generalize (ub b s (tree + node)).1.toNat = t at *
    rw [Nat.pow_succ]
    generalize 2 ^ k = p at *
    obtain ⟨i1, i2⟩ := ih
    constructor
    · refine Nat.le_trans ?_ i1
      rw [← Nat.mul_assoc, Nat.mul_right_comm]
      exact Nat.mul_le_mul_right _ (by omega)
    · refine Nat.lt_of_lt_of_le i2 ?_
      rw [show (node + 1) * (p * 2) = ((node + 1) * 2) * p by rw [← Nat.mul_assoc, Nat.mul_right_comm]]
      exact Nat.mul_le_mul_right _ (by omega)
theorem utok_rok {b : List (BitVec 8)} {s : Us} (h : Rok 528 b s.r) (out : List (BitVec 8)) (most : Nat) : Rok 528 b (utok b s out most).1.r := by
  unfold utok
  have h1 := ub_rok h 0
  dsimp only
  split
  · exact un_rok _ _ h1
  · split
    · exact un_rok _ _ (un_rok _ _ h1)
    · exact un_rok _ _ (un_rok _ _ h1)
/-- a token that is not refused adds something, and no more than is let -/
theorem utok_len {b : List (BitVec 8)} {s : Us} {out : List (BitVec 8)} {most : Nat} (hl : out.length < most) :
    (utok b s out most).2.length ≤ most ∧ ((utok b s out most).1.bad = false → out.length < (utok b s out most).2.length) ∧ out.length ≤ (utok b s out most).2.length := by
  unfold utok
  dsimp only
  split
  · simp; omega
  · split
    · dsimp only; exact ⟨by omega, fun h => by simp at h, Nat.le_refl _⟩
    · rename_i h
      rw [again_length]
      omega
theorem uloop_end {b : List (BitVec 8)} {n : Nat} : ∀ (f : Nat) (s : Us) (out : List (BitVec 8)), out.length ≤ n → n ≤ out.length + f →
    ((uloop b n f s out).1.bad = true ∨ (uloop b n f s out).2.length = n) ∧ (uloop b n f s out).2.length ≤ n
  | 0, s, out, h1, h2 => ⟨.inr (by show out.length = n; omega), h1⟩
  | f + 1, s, out, h1, h2 => by
    unfold uloop
    split
    · rename_i h
      obtain ⟨l1, l2, l3⟩ := utok_len (b := b) (s := s) h.2
      by_cases hb : (utok b s out n).1.bad = false
      · exact uloop_end f _ _ l1 (by have := l2 hb; omega)
      · have hb' : (utok b s out n).1.bad = true := by simpa using hb
        have e : uloop b n f (utok b s out n).1 (utok b s out n).2 = ((utok b s out n).1, (utok b s out n).2) := by
          cases f with
          | zero => rfl
          | succ f => unfold uloop; rw [if_neg (by rw [hb']; simp)]
        rw [e]
        exact ⟨.inl hb', l1⟩
    · rename_i h
      refine ⟨?_, h1⟩
      by_cases hb : s.bad = true
      · exact .inl hb
      · refine .inr ?_
        have : s.bad = false := by simpa using hb
        have h2 : ¬ out.length < n := fun h' => h ⟨this, h'⟩
        show out.length = n
        omega
theorem uloop_stop {b : List (BitVec 8)} {n : Nat} {s : Us} {out : List (BitVec 8)} (h : s.bad = true ∨ n ≤ out.length) : ∀ f, uloop b n f s out = (s, out)
  | 0 => rfl
  | f + 1 => by
    unfold uloop
    rw [if_neg]
    rintro ⟨h1, h2⟩
    rcases h with h | h
    · rw [h1] at h; cases h
    · omega
theorem unT_facts (b : List (BitVec 8)) (most : Int) : (unE b most = 0 → longE b = 0 ∧ (unT b most).length = longV b ∧ (longV b : Int) ≤ most ∧ 0 ≤ most) ∧
    (unE b most ≠ 0 → unT b most = [] ∧ (unE b most = 2 ∨ unE b most = 3 ∧ longE b = 0 ∧ most < (longV b : Int) ∨ unE b most = 1 ∧ most < 0)) := by
  have hlE : longE b = 0 ∨ longE b = 2 := by unfold longE; split; exact .inr rfl; split; exact .inr rfl; exact .inl rfl
  constructor
  · intro h
    have hT : unT b most = (uloop (b.drop 4) (longV b) (longV b) ⟨open_ 528 (b.drop 4), false⟩ []).2 := by unfold unT; rw [if_pos h]
    unfold unE at h
    split at h
    · cases h
    · rename_i h1
      split at h
      · rename_i h2; exact absurd h h2
      · rename_i h2
        split at h
        · cases h
        · rename_i h3
          split at h
          · cases h
          · split at h
            · cases h
            · rename_i h5
              obtain ⟨e1, _⟩ := uloop_end (b := b.drop 4) (longV b) ⟨open_ 528 (b.drop 4), false⟩ [] (n := longV b) (by simp) (by simp)
              refine ⟨by simpa using h2, ?_, by omega, by omega⟩
              rw [hT]
              exact e1.resolve_left fun hb => h5 (.inl hb)
  · intro h
    refine ⟨by unfold unT; rw [if_neg h], ?_⟩
    unfold unE at h ⊢
    split
    · exact .inr (.inr ⟨rfl, by assumption⟩)
    · split
      · rename_i h2; exact .inl (hlE.resolve_left h2)
      · rename_i h2
        split
        · exact .inr (.inl ⟨rfl, by simpa using h2, by assumption⟩)
        · split
          · exact .inl rfl
          · split
            · exact .inl rfl
            · rename_i h1 h3 h4 h5
              rw [if_neg h1, if_neg h2, if_neg h3, if_neg h4, if_neg h5] at h
              exact absurd rfl h
end Go.Pz

/- What was packed is unpacked. No program in sight. -/
namespace Go.Kc
/-- without its last octet a text is not read to its end -/
theorem short_run2 {n : Nat} {l : List (Nat × Bool)} (hw : within n l) (hk : 0 < (enc n l).k) {b : List (BitVec 8)} (hb : b = (encT n l).take (4 + (enc n l).k)) :
    mayOpen b ∧ ∃ j, ∃ hj : j < l.length, (∀ i (hi : i < j), (rdN b (open_ n b) ((l.take i).map Prod.fst)).set (l[i]'(by omega)).1 = (l[i]'(by omega)).2 ∧ (rdN b (open_ n b) ((l.take i).map Prod.fst)).may b (l[i]'(by omega)).1) ∧ ¬ (rdN b (open_ n b) ((l.take j).map Prod.fst)).may b l[j].1 := by
  have hlen : b.length = 4 + (enc n l).k := by rw [hb, List.length_take, encT_length]; omega
  have hp5 : b.take 5 = (encT n l).take 5 := by rw [hb, List.take_take, Nat.min_eq_left (by omega)]
  obtain ⟨o1, o2⟩ := begins_open hw (by omega) hp5
  refine ⟨o1, ?_⟩
  obtain ⟨l1, x, l2, hl, e1, e2⟩ := last_norm (l := l) (s := start n) hk
  have hw1 : within (start n).p.length l1 := fun y hy => by rw [start_len]; exact hw y (by rw [hl]; simp [hy])
  obtain ⟨g1, _, g3, _⟩ := run_facts (start_good n) hw1
  have hx : x.1 < ((start n).run l1).p.length := by rw [g3, start_len]; exact hw x (by rw [hl]; simp)
  have hstep := later_step g1 x.2 hx
  have hmid := later_mid g1 x.2 hx
  have hfin : Later (((start n).run l1).step x.1 x.2) (enc n l) := by
    have e : enc n l = (((start n).run l1).step x.1 x.2).run l2 := by unfold enc; rw [hl, run_append]; rfl
    rw [e]
    refine (run_facts (step_good g1 x.2 hx) fun y hy => ?_).2.1
    rw [step_len, g3, start_len]
    exact hw y (by rw [hl]; simp [hy])
  have hmf : Later (((start n).run l1).mid x.1 x.2) (enc n l) := (later_norm _).trans hfin
  have hmk : (((start n).run l1).mid x.1 x.2).k = ((start n).run l1).k := rfl
  have hK : ((start n).run l1).k + 1 = (enc n l).k := e1
  -- the text's number
  have hval : val b = (enc n l).V / 256 := by
    rw [hb]
    unfold encT
    rw [show 5 + (enc n l).k = (4 + (enc n l).k) + 1 by omega, be_take, Nat.pow_one, val_be]
    have := (enc_facts hw).2.1
    omega
  have hbt : b.take (5 + (((start n).run l1).mid x.1 x.2).k) = b := List.take_of_length_le (by rw [hmk]; omega)
  have hv : (((start n).run l1).mid x.1 x.2).V ≤ val (b.take (5 + (((start n).run l1).mid x.1 x.2).k)) ∧ val (b.take (5 + (((start n).run l1).mid x.1 x.2).k)) < (((start n).run l1).mid x.1 x.2).V + (((start n).run l1).mid x.1 x.2).span := by
    rw [hbt, hval]
    have h1 := hmf.lo
    have h2 := hmf.hi
    rw [hmk, show (enc n l).k - ((start n).run l1).k = 1 by omega, Nat.pow_one] at h1 h2
    have h3 := (enc_facts hw).1.lo
    omega
  have hb' : 5 + (((start n).run l1).mid x.1 x.2).k ≤ b.length := by rw [hmk]; omega
  obtain ⟨r1, r2⟩ := met_run (start_good n) hw1 o2 hmid hb' hv
  obtain ⟨_, m2, _, m4, _⟩ := met_mid r2 g1 hx (Later.refl _) hb' hv
  have hj : l1.length < l.length := by rw [hl]; simp
  have hlj : l[l1.length] = x := by simp [hl]
  have htk : ∀ i, i ≤ l1.length → l.take i = l1.take i := fun i hi => by rw [hl, List.take_append_of_le_length hi]
  refine ⟨l1.length, hj, fun i hi => ?_, ?_⟩
  · have h1 := r1 i hi
    rw [htk i (by omega)]
    have : l[i]'(by omega) = l1[i] := by simp [hl, List.getElem_append_left hi]
    rw [this]; exact h1
  · rw [htk _ (Nat.le_refl _), List.take_length, hlj]
    intro hmay
    have hlt : (((start n).run l1).mid x.1 x.2).span < 16777216 := by
      have h1 : (((start n).run l1).step x.1 x.2).k = ((start n).run l1).k + 1 := by rw [e2]; exact e1.symm
      unfold Rc.step Rc.norm at h1
      split at h1
      · assumption
      · rw [hmk] at h1; omega
    have := hmay (by rw [m2]; exact hlt)
    have hu := r2.used
    omega

/-- bits that are read, one by one -/
def Reads (b : List (BitVec 8)) : Rr → List (Nat × Bool) → Prop
  | _, [] => True
  | r, x :: l => r.set x.1 = x.2 ∧ r.may b x.1 ∧ Reads b (r.next b x.1) l
/-- bits of which one is not read any more -/
def Stops (b : List (BitVec 8)) : Rr → List (Nat × Bool) → Prop
  | _, [] => False
  | r, x :: l => ¬ r.may b x.1 ∨ (r.set x.1 = x.2 ∧ r.may b x.1 ∧ Stops b (r.next b x.1) l)
def ends (b : List (BitVec 8)) (r : Rr) (l : List (Nat × Bool)) : Rr := rdN b r (l.map Prod.fst)
theorem ends_cons (b : List (BitVec 8)) (r : Rr) (x : Nat × Bool) (l : List (Nat × Bool)) : ends b r (x :: l) = ends b (r.next b x.1) l := rfl
theorem ends_append (b : List (BitVec 8)) : ∀ (r : Rr) (l m : List (Nat × Bool)), ends b r (l ++ m) = ends b (ends b r l) m
  | _, [], _ => rfl
  | r, x :: l, m => ends_append b (r.next b x.1) l m
theorem reads_append {b : List (BitVec 8)} : ∀ {r : Rr} {l m : List (Nat × Bool)}, Reads b r (l ++ m) → Reads b r l ∧ Reads b (ends b r l) m
  | _, [], _, h => ⟨trivial, h⟩
  | r, x :: l, m, h => by
    obtain ⟨h1, h2, h3⟩ := h
    obtain ⟨i1, i2⟩ := reads_append (l := l) h3
    exact ⟨⟨h1, h2, i1⟩, i2⟩
theorem stops_append {b : List (BitVec 8)} : ∀ {r : Rr} {l m : List (Nat × Bool)}, Stops b r (l ++ m) → Stops b r l ∨ (Reads b r l ∧ Stops b (ends b r l) m)
  | _, [], _, h => .inr ⟨trivial, h⟩
  | r, x :: l, m, h => by
    rcases h with h | ⟨h1, h2, h3⟩
    · exact .inl (.inl h)
    · rcases stops_append (l := l) h3 with i | ⟨i1, i2⟩
      · exact .inl (.inr ⟨h1, h2, i⟩)
      · exact .inr ⟨⟨h1, h2, i1⟩, i2⟩
theorem reads_of {b : List (BitVec 8)} : ∀ {l : List (Nat × Bool)} {r : Rr}, (∀ j (hj : j < l.length), (rdN b r ((l.take j).map Prod.fst)).set l[j].1 = l[j].2 ∧ (rdN b r ((l.take j).map Prod.fst)).may b l[j].1) → Reads b r l
  | [], _, _ => trivial
  | x :: l, r, h => by
    obtain ⟨h1, h2⟩ := h 0 (by simp)
    exact ⟨h1, h2, reads_of (l := l) fun j hj => h (j + 1) (by simpa using hj)⟩
theorem stops_of {b : List (BitVec 8)} : ∀ (j : Nat) {l : List (Nat × Bool)} {r : Rr} (hj : j < l.length), (∀ i (hi : i < j), (rdN b r ((l.take i).map Prod.fst)).set (l[i]'(by omega)).1 = (l[i]'(by omega)).2 ∧ (rdN b r ((l.take i).map Prod.fst)).may b (l[i]'(by omega)).1) →
    ¬ (rdN b r ((l.take j).map Prod.fst)).may b l[j].1 → Stops b r l
  | _, [], _, hj, _, _ => by simp at hj
  | 0, x :: l, r, _, _, h => .inl h
  | j + 1, x :: l, r, hj, h, hn => by
    obtain ⟨h1, h2⟩ := h 0 (by omega)
    exact .inr ⟨h1, h2, stops_of j (l := l) (by simpa using hj) (fun i hi => h (i + 1) (by omega)) hn⟩
end Go.Kc
namespace Go.Pz
open Go.Pb Go.Mt Go.Kc

theorem ub_good {b : List (BitVec 8)} {r : Rr} {a : Nat} (ha : a < 528) (hm : r.may b a) : ub b ⟨r, false⟩ a = (r.set a, ⟨r.next b a, false⟩) := by
  have h : nxtE 528 b r (a : Int) = 0 := by
    unfold nxtE
    rw [if_pos (by omega), if_neg (by rw [Int.toNat_natCast]; exact may_iff.1 hm)]
  unfold ub
  rw [if_neg (by simp), if_pos h]
theorem ub_stop {b : List (BitVec 8)} {r : Rr} {a : Nat} (hm : ¬ r.may b a) : ub b ⟨r, false⟩ a = (false, ⟨r, true⟩) := by
  have h : ¬ nxtE 528 b r (a : Int) = 0 := by
    intro h
    obtain ⟨k, e, _, hk⟩ := nxtE_ok h
    obtain rfl : a = k := by omega
    exact hm hk
  unfold ub
  rw [if_neg (by simp), if_neg h]
theorem un_bad {b : List (BitVec 8)} {tree : Nat} {r : Rr} : ∀ k node, (un b tree k node ⟨r, true⟩).2 = ⟨r, true⟩
  | 0, _ => rfl
  | k + 1, node => un_bad k _
theorem un_good {b : List (BitVec 8)} {N tree w : Nat} (hN : N < 2 ^ (w + 1)) (hN2 : 2 ^ w ≤ N) (ht : tree + 2 ^ w ≤ 528) : ∀ k, k ≤ w → ∀ r, Reads b r (prs (numT N tree k)) → un b tree k (N / 2 ^ k) ⟨r, false⟩ = (N, ⟨ends b r (prs (numT N tree k)), false⟩)
  | 0, _, r, _ => by simp [un, ends, numT, prs, rdN]
  | k + 1, hk, r, h => by
    have hpl : tree + N / 2 ^ (k + 1) < 528 := by
      have := (numT_at hN hN2 (tree := tree) (k + 1) hk ⟨((tree + N / 2 ^ (k + 1) : Nat) : Int), decide (N / 2 ^ k % 2 = 1)⟩ (by simp [numT])).2
      dsimp only at this
      have h2 : ((2 ^ w : Nat) : Int) = (2 : Int) ^ w := by push_cast; rfl
      omega
    have e : prs (numT N tree (k + 1)) = (tree + N / 2 ^ (k + 1), decide (N / 2 ^ k % 2 = 1)) :: prs (numT N tree k) := by
      show (((tree + N / 2 ^ (k + 1) : Nat) : Int).toNat, decide (N / 2 ^ k % 2 = 1)) :: prs (numT N tree k) = _
      rw [Int.toNat_natCast]
    rw [e] at h ⊢
    obtain ⟨h1, h2, h3⟩ := h
    dsimp only at h1 h2 h3
    have hu := ub_good hpl h2
    have ih := un_good hN hN2 ht k (by omega) _ h3
    show un b tree k (N / 2 ^ (k + 1) * 2 + (ub b ⟨r, false⟩ (tree + N / 2 ^ (k + 1))).1.toNat) (ub b ⟨r, false⟩ (tree + N / 2 ^ (k + 1))).2 = _
    rw [hu, h1]
    dsimp only
    have hb : (decide (N / 2 ^ k % 2 = 1)).toNat = N / 2 ^ k % 2 := by
      have := Nat.mod_lt (N / 2 ^ k) (show 0 < 2 by decide)
      by_cases h : N / 2 ^ k % 2 = 1
      · rw [h]; rfl
      · have h0 : N / 2 ^ k % 2 = 0 := by omega
        rw [h0]; rfl
    rw [hb, node_next, ih, ends_cons]
theorem un_stop {b : List (BitVec 8)} {N tree w : Nat} (hN : N < 2 ^ (w + 1)) (hN2 : 2 ^ w ≤ N) (ht : tree + 2 ^ w ≤ 528) : ∀ k, k ≤ w → ∀ r, Stops b r (prs (numT N tree k)) → (un b tree k (N / 2 ^ k) ⟨r, false⟩).2.bad = true
  | 0, _, r, h => by cases h
  | k + 1, hk, r, h => by
    have hpl : tree + N / 2 ^ (k + 1) < 528 := by
      have := (numT_at hN hN2 (tree := tree) (k + 1) hk ⟨((tree + N / 2 ^ (k + 1) : Nat) : Int), decide (N / 2 ^ k % 2 = 1)⟩ (by simp [numT])).2
      dsimp only at this
      have h2 : ((2 ^ w : Nat) : Int) = (2 : Int) ^ w := by push_cast; rfl
      omega
    have e : prs (numT N tree (k + 1)) = (tree + N / 2 ^ (k + 1), decide (N / 2 ^ k % 2 = 1)) :: prs (numT N tree k) := by
      show (((tree + N / 2 ^ (k + 1) : Nat) : Int).toNat, decide (N / 2 ^ k % 2 = 1)) :: prs (numT N tree k) = _
      rw [Int.toNat_natCast]
    rw [e] at h
    show (un b tree k (N / 2 ^ (k + 1) * 2 + (ub b ⟨r, false⟩ (tree + N / 2 ^ (k + 1))).1.toNat) (ub b ⟨r, false⟩ (tree + N / 2 ^ (k + 1))).2).2.bad = true
    rcases h with h | ⟨h1, h2, h3⟩
    · dsimp only at h
      rw [ub_stop h]
      dsimp only
      rw [un_bad]
    · dsimp only at h1 h2 h3
      rw [ub_good hpl h2, h1]
      dsimp only
      have hb : (decide (N / 2 ^ k % 2 = 1)).toNat = N / 2 ^ k % 2 := by
        have := Nat.mod_lt (N / 2 ^ k) (show 0 < 2 by decide)
        by_cases h : N / 2 ^ k % 2 = 1
        · rw [h]; rfl
        · have h0 : N / 2 ^ k % 2 = 0 := by omega
          rw [h0]; rfl
      rw [hb, node_next]
      exact un_stop hN hN2 ht k (by omega) _ h3
theorem prs_app (l r : List Bt) : prs (l ++ r) = prs l ++ prs r := by simp [prs]
theorem utok_good {b : List (BitVec 8)} {r : Rr} {out : List (BitVec 8)} {most : Nat} {t : Tok} (hok : t.ok out.length) (hsz : out.length + t.size ≤ most) (h : Reads b r (prs (bitsOf t))) : utok b ⟨r, false⟩ out most = (⟨ends b r (prs (bitsOf t)), false⟩, Tok.tell out t) := by
  obtain ⟨lit, len, dist⟩ := t
  unfold Tok.ok at hok
  dsimp only at hok
  by_cases h0 : len = 0
  · subst h0
    have e : prs (bitsOf ⟨lit, 0, dist⟩) = (0, false) :: prs (numT (256 + lit.toNat) 0 8) := by simp [bitsOf, prs]
    rw [e] at h ⊢
    obtain ⟨h1, h2, h3⟩ := h
    dsimp only at h1 h2 h3
    have hl := lit.isLt
    have hu := un_good (N := 256 + lit.toNat) (tree := 0) (w := 8) (by omega) (by omega) (by omega) 8 (by omega) _ h3
    rw [show (256 + lit.toNat) / 2 ^ 8 = 1 by omega] at hu
    unfold utok
    dsimp only
    rw [ub_good (by omega) h2, h1]
    dsimp only
    rw [if_pos rfl, hu, ends_cons]
    dsimp only
    have : BitVec.ofNat 8 (256 + lit.toNat - 256) = lit := by
      apply BitVec.eq_of_toNat_eq; rw [BitVec.toNat_ofNat]; omega
    rw [this]
    rfl
  · have hk : 3 ≤ len ∧ len ≤ 18 ∧ 1 ≤ dist ∧ dist ≤ 256 ∧ dist ≤ (out.length : Int) := by omega
    obtain ⟨k1, k2, k3, k4, k5⟩ := hk
    have e : prs (bitsOf ⟨lit, len, dist⟩) = (0, true) :: (prs (numT (16 + (len - 3).toNat) 256 4) ++ prs (numT (256 + (dist - 1).toNat) 272 8)) := by
      unfold bitsOf
      dsimp only
      rw [if_neg h0, ← prs_app]; rfl
    rw [e] at h ⊢
    obtain ⟨h1, h2, h3⟩ := h
    dsimp only at h1 h2 h3
    obtain ⟨h4, h5⟩ := reads_append h3
    have hu := un_good (N := 16 + (len - 3).toNat) (tree := 256) (w := 4) (by omega) (by omega) (by omega) 4 (by omega) _ h4
    have hz := un_good (N := 256 + (dist - 1).toNat) (tree := 272) (w := 8) (by omega) (by omega) (by omega) 8 (by omega) _ h5
    rw [show (16 + (len - 3).toNat) / 2 ^ 4 = 1 by omega] at hu
    rw [show (256 + (dist - 1).toNat) / 2 ^ 8 = 1 by omega] at hz
    unfold Tok.size at hsz
    dsimp only at hsz
    rw [if_neg h0] at hsz
    unfold utok
    dsimp only
    rw [ub_good (by omega) h2, h1]
    dsimp only
    rw [if_neg (by simp), hu]
    dsimp only
    rw [hz]
    dsimp only
    rw [if_neg (by omega), ends_cons, ends_append]
    unfold Tok.tell
    dsimp only
    rw [if_neg h0, show 256 + (dist - 1).toNat - 256 + 1 = dist.toNat by omega, show 16 + (len - 3).toNat - 16 + 3 = len.toNat by omega]
set_option maxHeartbeats 1000000 in
theorem utok_stop {b : List (BitVec 8)} {r : Rr} {out : List (BitVec 8)} {most m : Nat} {t : Tok} (hok : t.ok m) (h : Stops b r (prs (bitsOf t))) : (utok b ⟨r, false⟩ out most).1.bad = true := by
  obtain ⟨lit, len, dist⟩ := t
  unfold Tok.ok at hok
  dsimp only at hok
  by_cases h0 : len = 0
  · subst h0
    have e : prs (bitsOf ⟨lit, 0, dist⟩) = (0, false) :: prs (numT (256 + lit.toNat) 0 8) := by simp [bitsOf, prs]
    rw [e] at h
    unfold utok
    dsimp only
    rcases h with h | ⟨h1, h2, h3⟩
    · dsimp only at h
      rw [ub_stop h]
      dsimp only
      rw [if_pos rfl]
      dsimp only
      rw [un_bad]
    · dsimp only at h1 h2 h3
      have hl := lit.isLt
      have hu := un_stop (N := 256 + lit.toNat) (tree := 0) (w := 8) (by omega) (by omega) (by omega) 8 (by omega) _ h3
      rw [show (256 + lit.toNat) / 2 ^ 8 = 1 by omega] at hu
      rw [ub_good (by omega) h2, h1]
      dsimp only
      rw [if_pos rfl]
      exact hu
  · have hk : 3 ≤ len ∧ len ≤ 18 ∧ 1 ≤ dist ∧ dist ≤ 256 := by omega
    obtain ⟨k1, k2, k3, k4⟩ := hk
    have e : prs (bitsOf ⟨lit, len, dist⟩) = (0, true) :: (prs (numT (16 + (len - 3).toNat) 256 4) ++ prs (numT (256 + (dist - 1).toNat) 272 8)) := by
      unfold bitsOf
      dsimp only
      rw [if_neg h0, ← prs_app]; rfl
    rw [e] at h
    unfold utok
    dsimp only
    rcases h with h | ⟨h1, h2, h3⟩
    · dsimp only at h
      rw [ub_stop h]
      dsimp only
      rw [if_pos rfl]
      dsimp only
      rw [un_bad]
    · dsimp only at h1 h2 h3
      rw [ub_good (by omega) h2, h1]
      dsimp only
      rw [if_neg (by simp)]
      have key : (un b 272 8 1 (un b 256 4 1 ⟨r.next b 0, false⟩).2).2.bad = true := by
        rcases stops_append h3 with h4 | ⟨h4, h5⟩
        · have hu := un_stop (N := 16 + (len - 3).toNat) (tree := 256) (w := 4) (by omega) (by omega) (by omega) 4 (by omega) _ h4
          rw [show (16 + (len - 3).toNat) / 2 ^ 4 = 1 by omega] at hu
          generalize (un b 256 4 1 ⟨r.next b 0, false⟩).2 = s at *
          obtain ⟨sr, sb⟩ := s
          dsimp only at hu
          subst hu
          rw [un_bad]
        · have hu := un_good (N := 16 + (len - 3).toNat) (tree := 256) (w := 4) (by omega) (by omega) (by omega) 4 (by omega) _ h4
          have hz := un_stop (N := 256 + (dist - 1).toNat) (tree := 272) (w := 8) (by omega) (by omega) (by omega) 8 (by omega) _ h5
          rw [show (16 + (len - 3).toNat) / 2 ^ 4 = 1 by omega] at hu
          rw [show (256 + (dist - 1).toNat) / 2 ^ 8 = 1 by omega] at hz
          rw [hu]
          dsimp only
          exact hz
      split
      · rfl
      · exact key
theorem bitsAll_cons (t : Tok) (l : List Tok) : bitsAll (t :: l) = bitsOf t ++ bitsAll l := by simp [bitsAll]
theorem uloop_good {b : List (BitVec 8)} {n : Nat} : ∀ (l : List Tok) (f : Nat) (r : Rr) (out : List (BitVec 8)), okFrom out.length l → out.length + told l = n → l.length ≤ f → Reads b r (prs (bitsAll l)) →
    uloop b n f ⟨r, false⟩ out = (⟨ends b r (prs (bitsAll l)), false⟩, l.foldl Tok.tell out)
  | [], f, r, out, _, h2, _, _ => by
    rw [uloop_stop (.inr (by rw [← h2, told_nil]; exact Nat.le_refl _))]
    simp [bitsAll, prs, ends, rdN]
  | t :: l, 0, r, out, _, _, h, _ => by simp at h
  | t :: l, f + 1, r, out, h1, h2, h3, h4 => by
    rw [told_cons] at h2
    have hs := Tok.ok_size h1.1
    rw [bitsAll_cons, prs_app] at h4 ⊢
    obtain ⟨h5, h6⟩ := reads_append h4
    have ht := utok_good (most := n) h1.1 (by omega) h5
    have hl := tell_length (b := out) (t := t) (Tok.ok_len h1.1).1
    unfold uloop
    rw [if_pos ⟨rfl, by omega⟩, ht]
    dsimp only
    rw [uloop_good l f _ _ (by rw [hl]; exact h1.2) (by rw [hl]; omega) (by simpa using h3) h6, ends_append]
    rfl
theorem uloop_bad {b : List (BitVec 8)} {n : Nat} : ∀ (l : List Tok) (f : Nat) (r : Rr) (out : List (BitVec 8)), okFrom out.length l → out.length + told l = n → l.length ≤ f → Stops b r (prs (bitsAll l)) → (uloop b n f ⟨r, false⟩ out).1.bad = true
  | [], f, r, out, _, _, _, h => by simp [bitsAll, prs] at h; cases h
  | t :: l, 0, r, out, _, _, h, _ => by simp at h
  | t :: l, f + 1, r, out, h1, h2, h3, h4 => by
    rw [told_cons] at h2
    have hs := Tok.ok_size h1.1
    rw [bitsAll_cons, prs_app] at h4
    unfold uloop
    rw [if_pos ⟨rfl, by omega⟩]
    rcases stops_append h4 with h5 | ⟨h5, h6⟩
    · have hb := utok_stop (out := out) (most := n) h1.1 h5
      rw [uloop_stop (.inl hb)]
      exact hb
    · have ht := utok_good (most := n) h1.1 (by omega) h5
      have hl := tell_length (b := out) (t := t) (Tok.ok_len h1.1).1
      rw [ht]
      dsimp only
      exact uloop_bad l f _ _ (by rw [hl]; exact h1.2) (by rw [hl]; omega) (by simpa using h3) h6
end Go.Pz

/- What Unpack says of what was packed. No program in sight. -/
namespace Go.Pz
open Go.Pb Go.Mt Go.Kc

theorem lg4_le4 (n : Nat) (hn : n ≤ 65536) (X : List (BitVec 8)) : lg4 (le4 n ++ X) = n := by
  unfold lg4 le4
  simp only [List.cons_append, List.getD_cons_zero, List.getD_cons_succ, BitVec.toNat_ofNat]
  omega
theorem le4_length (n : Nat) : (le4 n).length = 4 := rfl
theorem long_le4 (n : Nat) (hn : n ≤ 65536) (X : List (BitVec 8)) (hX : 5 ≤ X.length) : longE (le4 n ++ X) = 0 ∧ longV (le4 n ++ X) = n := by
  have hl : ¬ (le4 n ++ X).length < 9 := by rw [List.length_append, le4_length]; omega
  have h6 : ¬ 65536 < lg4 (le4 n ++ X) := by rw [lg4_le4 n hn]; omega
  unfold longE longV
  rw [if_neg hl, if_neg h6, if_neg hl, if_neg h6, lg4_le4 n hn]
  exact ⟨rfl, rfl⟩
theorem within_toks {m : Nat} {l : List Tok} (h : okFrom m l) : within 528 (prs (bitsAll l)) := by
  intro x hx
  unfold prs at hx
  obtain ⟨y, hy, rfl⟩ := List.mem_map.1 hx
  have := bits_within h y hy
  dsimp only
  omega
/-- what is known of a packed text -/
structure Packed (bs : List (BitVec 8)) (n : Nat) (L : List Tok) (B : List (Nat × Bool)) : Prop where
  toks : tokens bs = L
  len : bs.length = n
  bits : prs (bitsAll L) = B
  ok : okFrom 0 L
  told : told L = n
  text : text L = bs
  few : L.length ≤ n
  wit : within 528 B
theorem packed (bs : List (BitVec 8)) : Packed bs bs.length (tokens bs) (prs (bitsAll (tokens bs))) := by
  obtain ⟨s1, s2, s3⟩ := tokens_spec bs
  have := told_bounds 0 _ s1
  exact ⟨rfl, rfl, rfl, s1, s2, s3, by omega, within_toks s1⟩
theorem opE_zero {b : List (BitVec 8)} (h : mayOpen b) : opE 528 b = 0 := by unfold opE; rw [if_pos (by omega), if_pos h]
theorem back_core {bs : List (BitVec 8)} {n : Nat} {L : List Tok} {B : List (Nat × Bool)} (h : Packed bs n L B) (more : List (BitVec 8)) :
    mayOpen (encT 528 B ++ more) ∧ uloop (encT 528 B ++ more) n n ⟨open_ 528 (encT 528 B ++ more), false⟩ [] = (⟨ends (encT 528 B ++ more) (open_ 528 (encT 528 B ++ more)) B, false⟩, bs) ∧ (ends (encT 528 B ++ more) (open_ 528 (encT 528 B ++ more)) B).used = (encT 528 B).length := by
  have hbeg : Begins 528 B (encT 528 B ++ more) := by
    refine ⟨by rw [List.length_append, encT_length]; omega, ?_⟩
    rw [List.take_append_of_le_length (by rw [encT_length]; exact Nat.le_refl _), List.take_of_length_le (by rw [encT_length]; exact Nat.le_refl _)]
  obtain ⟨r1, r2, r3⟩ := back_run h.wit hbeg B.length
  simp only [List.take_length] at r2 r3
  refine ⟨r1, ?_, ?_⟩
  · have hr := reads_of r2
    rw [← h.bits] at hr ⊢
    have := uloop_good (n := n) L n (open_ 528 (encT 528 (prs (bitsAll L)) ++ more)) [] h.ok (by rw [h.told]; simp) h.few hr
    rw [this]
    have e : L.foldl Tok.tell [] = bs := h.text
    rw [e]
  · rw [encT_length]; exact r3
theorem un_back (bs more : List (BitVec 8)) (hn : bs.length ≤ 65536) : unE (packT bs ++ more) bs.length = (if more.length = 0 then 0 else 2) ∧ (more = [] → unT (packT bs) bs.length = bs) := by
  have hp := packed bs
  have ht : packT bs = le4 bs.length ++ encT 528 (prs (bitsAll (tokens bs))) := rfl
  obtain ⟨c1, c2, c3⟩ := back_core hp more
  generalize prs (bitsAll (tokens bs)) = B at *
  generalize tokens bs = L at *
  have hX5 : 5 ≤ (encT 528 B).length := by rw [encT_length]; omega
  have e4 : (packT bs ++ more).drop 4 = encT 528 B ++ more := by rw [ht, List.append_assoc]; rfl
  obtain ⟨l1, l2⟩ := long_le4 bs.length hn (encT 528 B ++ more) (by rw [List.length_append]; omega)
  rw [← List.append_assoc, ← ht] at l1 l2
  have hE : unE (packT bs ++ more) bs.length = (if more.length = 0 then 0 else 2) := by
    unfold unE
    rw [if_neg (by omega), l1, if_neg (by simp), l2, if_neg (by omega), e4, opE_zero c1, if_neg (by simp), c2]
    dsimp only
    rw [c3]
    have hl : (packT bs ++ more).length - 4 = (encT 528 B).length + more.length := by
      rw [ht, List.length_append, List.length_append, le4_length]; omega
    rw [hl]
    by_cases hm : more.length = 0
    · rw [if_pos hm, if_neg (by rintro (h | h); cases h; exact h (by omega))]
    · rw [if_neg hm, if_pos (.inr (by omega))]
  refine ⟨hE, fun hm => ?_⟩
  subst hm
  rw [List.append_nil] at *
  have hE0 : unE (packT bs) bs.length = 0 := by rw [hE]; rfl
  unfold unT
  rw [hE0, if_pos rfl, l2, e4, List.append_nil, c2]
theorem un_less (bs : List (BitVec 8)) (hn : bs.length ≤ 65536) (h0 : 0 < bs.length) : unE (packT bs) ((bs.length : Int) - 1) = 3 := by
  have ht : packT bs = le4 bs.length ++ encT 528 (prs (bitsAll (tokens bs))) := rfl
  obtain ⟨l1, l2⟩ := long_le4 bs.length hn (encT 528 (prs (bitsAll (tokens bs)))) (by rw [encT_length]; omega)
  rw [← ht] at l1 l2
  unfold unE
  rw [if_neg (by omega), l1, if_neg (by simp), l2, if_pos (by omega)]
theorem un_cut (bs : List (BitVec 8)) (hn : bs.length ≤ 65536) : unE ((packT bs).take ((packT bs).length - 1)) bs.length = 2 := by
  have hp := packed bs
  have ht : packT bs = le4 bs.length ++ encT 528 (prs (bitsAll (tokens bs))) := rfl
  generalize prs (bitsAll (tokens bs)) = B at *
  generalize tokens bs = L at *
  have hlen : (packT bs).length = 9 + (enc 528 B).k := by rw [ht, List.length_append, encT_length, le4_length]; omega
  by_cases hk : (enc 528 B).k = 0
  · have hl : longE ((packT bs).take ((packT bs).length - 1)) = 2 := by
      unfold longE
      rw [if_pos (by rw [List.length_take]; omega)]
    unfold unE
    rw [if_neg (by omega), hl, if_pos (by decide)]
  · have e : (packT bs).take ((packT bs).length - 1) = le4 bs.length ++ (encT 528 B).take (4 + (enc 528 B).k) := by
      rw [hlen, ht, List.take_append, le4_length, List.take_of_length_le (by rw [le4_length]; omega), show 9 + (enc 528 B).k - 1 - 4 = 4 + (enc 528 B).k by omega]
    obtain ⟨b', hb'⟩ : ∃ b', (encT 528 B).take (4 + (enc 528 B).k) = b' := ⟨_, rfl⟩
    rw [hb'] at e
    have hbl : b'.length = 4 + (enc 528 B).k := by rw [← hb', List.length_take, encT_length]; omega
    obtain ⟨o1, j, hj, h1, h2⟩ := short_run2 hp.wit (by omega) hb'.symm
    have hst := stops_of j hj h1 h2
    rw [← hp.bits] at hst
    have hbad := uloop_bad (n := bs.length) L bs.length (open_ 528 b') [] hp.ok (by rw [hp.told]; simp) hp.few hst
    obtain ⟨l1, l2⟩ := long_le4 bs.length hn b' (by omega)
    have e4 : (le4 bs.length ++ b').drop 4 = b' := rfl
    rw [e]
    unfold unE
    rw [if_neg (by omega), l1, if_neg (by simp), l2, if_neg (by omega), e4, opE_zero o1, if_neg (by simp), if_pos (.inl hbad)]
end Go.Pz

/- A text absorbed, octets squeezed out. No program in sight. -/
namespace Go.Proofs.YtniibdglodnhoaaDoor
open Go.RowKit Go.Own Go.Bv Go.Eq

/-- what is at a place of a text, its end and zeros behind it -/
def byteAt (b : List (BitVec 8)) (j : Nat) : BitVec 8 := if j < b.length then b.getD j 0 else if j = b.length then 128 else 0
theorem byteAt_lt {b : List (BitVec 8)} {j : Nat} (h : j < b.length) : byteAt b j = b[j] := by
  unfold byteAt; rw [if_pos h]; simp [h]
theorem byteAt_eq (b : List (BitVec 8)) : byteAt b b.length = 128 := by simp [byteAt]
theorem byteAt_gt {b : List (BitVec 8)} {j : Nat} (h : b.length < j) : byteAt b j = 0 := by
  unfold byteAt; rw [if_neg (by omega), if_neg (by omega)]
theorem byteAt_drop {b : List (BitVec 8)} (n j : Nat) (h : n ≤ b.length) : byteAt (b.drop n) j = byteAt b (n + j) := by
  unfold byteAt
  rw [List.length_drop]
  by_cases h1 : j < b.length - n
  · rw [if_pos h1, if_pos (show n + j < b.length by omega)]; simp
  · rw [if_neg h1, if_neg (show ¬ n + j < b.length by omega)]
    by_cases h2 : j = b.length - n
    · rw [if_pos h2, if_pos (show n + j = b.length by omega)]
    · rw [if_neg h2, if_neg (show ¬ n + j = b.length by omega)]

namespace St
/-- one octet taken in, the k'th of eight -/
def xput (s : St) (k : Nat) (c : BitVec 8) : St :=
  if k < 4 then { s with a := s.a ^^^ c.setWidth 32 <<< (k % 4 * 8) } else { s with b := s.b ^^^ c.setWidth 32 <<< (k % 4 * 8) }
/-- so many of eight octets from a place on -/
def mixK (s : St) (b : List (BitVec 8)) (at_ : Nat) : Nat → St
  | 0 => s
  | k + 1 => (mixK s b at_ k).xput k (byteAt b (at_ + k))
def mixAt (s : St) (b : List (BitVec 8)) (at_ : Nat) : St := mixK s b at_ 8
def blk4 (x y z t : BitVec 8) : BitVec 32 := of4 x y z t
theorem mixAt_eq (s : St) (b : List (BitVec 8)) (p : Nat) : mixAt s b p =
    { s with a := s.a ^^^ of4 (byteAt b p) (byteAt b (p + 1)) (byteAt b (p + 2)) (byteAt b (p + 3)), b := s.b ^^^ of4 (byteAt b (p + 4)) (byteAt b (p + 5)) (byteAt b (p + 6)) (byteAt b (p + 7)) } := by
  have key : ∀ (v : BitVec 32) (x y z t : BitVec 8), (((v ^^^ x.setWidth 32 <<< 0) ^^^ y.setWidth 32 <<< 8) ^^^ z.setWidth 32 <<< 16) ^^^ t.setWidth 32 <<< 24 = v ^^^ of4 x y z t := by
    intro v x y z t
    unfold of4
    apply BitVec.eq_of_getLsbD_eq
    intro i hi
    simp only [BitVec.getLsbD_xor, BitVec.getLsbD_setWidth, BitVec.getLsbD_or, BitVec.getLsbD_shiftLeft, hi, decide_true, Bool.true_and]
    have e : ∀ (u : BitVec 8) (j : Nat), 8 ≤ j → u.getLsbD j = false := fun u j hj => BitVec.getLsbD_of_ge u j hj
    by_cases h1 : i < 8
    · simp [h1, show i < 16 by omega, show i < 24 by omega, hi]
    · by_cases h2 : i < 16
      · simp [h1, h2, e x i (by omega), show i < 24 by omega, show i - 8 < 32 by omega, hi]
      · by_cases h3 : i < 24
        · simp [h1, h2, h3, e x i (by omega), e y (i - 8) (by omega), hi, show i - 16 < 32 by omega]
        · simp [h1, h2, h3, e x i (by omega), e y (i - 8) (by omega), e z (i - 16) (by omega), hi]
  simp only [mixAt, mixK, xput]
  simp only [show (0 : Nat) < 4 from by decide, show (1 : Nat) < 4 from by decide, show (2 : Nat) < 4 from by decide, show (3 : Nat) < 4 from by decide, show ¬ (4 : Nat) < 4 from by decide, show ¬ (5 : Nat) < 4 from by decide, show ¬ (6 : Nat) < 4 from by decide, show ¬ (7 : Nat) < 4 from by decide, if_true, if_false]
  have k1 := key s.a (byteAt b (p + 0)) (byteAt b (p + 1)) (byteAt b (p + 2)) (byteAt b (p + 3))
  have k2 := key s.b (byteAt b (p + 4)) (byteAt b (p + 5)) (byteAt b (p + 6)) (byteAt b (p + 7))
  simp only [Nat.reduceMod, Nat.reduceMul] at k1 k2 ⊢
  simp only [Nat.add_zero] at k1 k2 ⊢
  rw [k1, k2]

/-- so many blocks absorbed -/
def absK (s : St) (b : List (BitVec 8)) : Nat → St
  | 0 => s
  | k + 1 => (mixAt (absK s b k) b (8 * k)).perm
def absorb (s : St) (b : List (BitVec 8)) : St := absK s b (b.length / 8 + 1)

theorem mixAt_inj {s t : St} {b : List (BitVec 8)} {p : Nat} (h : mixAt s b p = mixAt t b p) : s = t := by
  rw [mixAt_eq, mixAt_eq] at h
  simp only [St.mk.injEq] at h
  obtain ⟨h1, h2, h3, h4⟩ := h
  have c1 := congrArg (· ^^^ of4 (byteAt b p) (byteAt b (p + 1)) (byteAt b (p + 2)) (byteAt b (p + 3))) h1
  have c2 := congrArg (· ^^^ of4 (byteAt b (p + 4)) (byteAt b (p + 5)) (byteAt b (p + 6)) (byteAt b (p + 7))) h2
  simp only [xx] at c1 c2
  cases s; cases t; simp_all
theorem absK_inj {s t : St} {b : List (BitVec 8)} : ∀ {k : Nat}, absK s b k = absK t b k → s = t
  | 0, h => h
  | k + 1, h => absK_inj (mixAt_inj (perm_inj h))
theorem absorb_inj {s t : St} {b : List (BitVec 8)} (h : absorb s b = absorb t b) : s = t := absK_inj h

theorem absK_drop (s : St) (b : List (BitVec 8)) (h : 8 ≤ b.length) : ∀ k, absK s b (k + 1) = absK (mixAt s b 0).perm (b.drop 8) k
  | 0 => rfl
  | k + 1 => by
    show (mixAt (absK s b (k + 1)) b (8 * (k + 1))).perm = (mixAt (absK (mixAt s b 0).perm (b.drop 8) k) (b.drop 8) (8 * k)).perm
    rw [absK_drop s b h k]
    generalize absK (mixAt s b 0).perm (b.drop 8) k = u
    rw [mixAt_eq u b, mixAt_eq u (b.drop 8)]
    have e : ∀ j, byteAt (b.drop 8) (8 * k + j) = byteAt b (8 * (k + 1) + j) := fun j => by
      rw [byteAt_drop _ _ h, show 8 + (8 * k + j) = 8 * (k + 1) + j by omega]
    have e0 := e 0
    simp only [Nat.add_zero] at e0
    rw [e0, e 1, e 2, e 3, e 4, e 5, e 6, e 7]
theorem absorb_drop (s : St) (b : List (BitVec 8)) (h : 8 ≤ b.length) : absorb s b = absorb (mixAt s b 0).perm (b.drop 8) := by
  unfold absorb
  rw [absK_drop s b h, List.length_drop, show (b.length - 8) / 8 + 1 = b.length / 8 by omega]

theorem octs4_inj' {x y : BitVec 32} (h : octs4 x = octs4 y) : x = y := by
  unfold octs4 at h
  simp only [List.cons.injEq, and_true] at h
  obtain ⟨h0, h1, h2, h3⟩ := h
  rw [← of4_octs4 x, ← of4_octs4 y, h0, h1, h2, h3]
theorem of4_inj {x y z t x' y' z' t' : BitVec 8} (h : of4 x y z t = of4 x' y' z' t') : x = x' ∧ y = y' ∧ z = z' ∧ t = t' := by
  have := congrArg octs4 h
  rw [octs4_of4, octs4_of4] at this
  simpa using this

theorem bytes_inj {b c : List (BitVec 8)} (hb : b.length < 8) (hc : c.length < 8) (h : ∀ j, j < 8 → byteAt b j = byteAt c j) : b = c := by
  have hl : b.length = c.length := by
    have aux : ∀ {b c : List (BitVec 8)}, c.length < 8 → (∀ j, j < 8 → byteAt b j = byteAt c j) → ¬ b.length < c.length := by
      intro b c hc h hlt
      have := h c.length hc
      rw [byteAt_eq, byteAt_gt hlt] at this
      exact absurd this (by decide)
    have h1 := aux (b := b) (c := c) hc h
    have h2 := aux (b := c) (c := b) hb (fun j hj => (h j hj).symm)
    omega
  apply List.ext_getElem hl
  intro i h1 h2
  have := h i (by omega)
  rwa [byteAt_lt h1, byteAt_lt h2] at this
theorem absorb_short {s : St} {b c : List (BitVec 8)} (hb : b.length < 8) (hc : c.length < 8) (h : absorb s b = absorb s c) : b = c := by
  have e : ∀ d : List (BitVec 8), d.length < 8 → absorb s d = (mixAt s d 0).perm := by
    intro d hd
    unfold absorb
    rw [show d.length / 8 + 1 = 1 by omega]
    rfl
  rw [e b hb, e c hc] at h
  have h := perm_inj h
  rw [mixAt_eq, mixAt_eq] at h
  simp only [St.mk.injEq] at h
  obtain ⟨h1, h2, _, _⟩ := h
  have c1 := congrArg (s.a ^^^ ·) h1
  have c2 := congrArg (s.b ^^^ ·) h2
  simp only [← BitVec.xor_assoc, BitVec.xor_self, BitVec.zero_xor, Nat.zero_add] at c1 c2
  obtain ⟨a0, a1, a2, a3⟩ := of4_inj c1
  obtain ⟨a4, a5, a6, a7⟩ := of4_inj c2
  refine bytes_inj hb hc fun j hj => ?_
  obtain rfl | rfl | rfl | rfl | rfl | rfl | rfl | rfl : j = 0 ∨ j = 1 ∨ j = 2 ∨ j = 3 ∨ j = 4 ∨ j = 5 ∨ j = 6 ∨ j = 7 := by omega
  all_goals assumption

/-- permuted so often -/
def permN : Nat → St → St
  | 0, s => s
  | k + 1, s => (permN k s).perm
theorem permN_succ : ∀ (k : Nat) (s : St), permN (k + 1) s = permN k s.perm
  | 0, _ => rfl
  | k + 1, s => by
    show (permN (k + 1) s).perm = (permN k s.perm).perm
    rw [permN_succ k s]
/-- what comes of so many eights -/
def sqK (s : St) : Nat → List (BitVec 8)
  | 0 => []
  | k + 1 => sqK s k ++ (octs4 (permN k s).a ++ octs4 (permN k s).b)
theorem sqK_length (s : St) : ∀ k, (sqK s k).length = 8 * k
  | 0 => rfl
  | k + 1 => by simp [sqK, sqK_length s k, octs4_length]; omega
theorem sqK_succ (s : St) : ∀ k, sqK s (k + 1) = (octs4 s.a ++ octs4 s.b) ++ sqK s.perm k
  | 0 => by simp [sqK, permN]
  | k + 1 => by
    show sqK s (k + 1) ++ (octs4 (permN (k + 1) s).a ++ octs4 (permN (k + 1) s).b) = _
    rw [sqK_succ s k, permN_succ]
    simp [sqK]
theorem sqK_add (s : St) (k j : Nat) : ∃ r, sqK s (k + j) = sqK s k ++ r := by
  induction j with
  | zero => exact ⟨[], by simp⟩
  | succ j ih =>
    obtain ⟨r, hr⟩ := ih
    exact ⟨r ++ (octs4 (permN (k + j) s).a ++ octs4 (permN (k + j) s).b), by show sqK s (k + j) ++ (octs4 (permN (k + j) s).a ++ octs4 (permN (k + j) s).b) = _; rw [hr, List.append_assoc]⟩
def squeeze (s : St) (n : Nat) : List (BitVec 8) := (sqK s ((n + 7) / 8)).take n
theorem squeeze_length (s : St) (n : Nat) : (squeeze s n).length = n := by
  unfold squeeze; rw [List.length_take, sqK_length]; omega
theorem squeeze_of (s : St) {n k : Nat} (h : n ≤ 8 * k) : squeeze s n = (sqK s k).take n := by
  unfold squeeze
  obtain ⟨r, hr⟩ := sqK_add s ((n + 7) / 8) (k - (n + 7) / 8)
  rw [show (n + 7) / 8 + (k - (n + 7) / 8) = k by omega] at hr
  rw [hr, List.take_append_of_le_length (by rw [sqK_length]; omega)]
theorem squeeze_take (s : St) (n m : Nat) : (squeeze s (n + m)).take n = squeeze s n := by
  rw [squeeze_of s (n := n) (k := (n + m + 7) / 8) (by omega)]
  unfold squeeze
  rw [List.take_take, Nat.min_eq_left (by omega)]
theorem squeeze_drop (s : St) (n : Nat) : (squeeze s (n + 8)).drop 8 = squeeze s.perm n := by
  rw [squeeze_of s (n := n + 8) (k := (n + 7) / 8 + 1) (by omega), sqK_succ, List.drop_take, List.drop_left' (by simp [octs4_length])]
  rfl
end St
end Go.Proofs.YtniibdglodnhoaaDoor

/- Sealed texts: a number's octets, the stream, the tag. No program in sight. -/
namespace Go.Proofs.YtniibdglodnhoaaDoor
open Go.RowKit Go.Own Go.Bv Go.Eq

def eight (n : BitVec 64) : List (BitVec 8) := [n.setWidth 8, (n >>> 8).setWidth 8, (n >>> 16).setWidth 8, (n >>> 24).setWidth 8, (n >>> 32).setWidth 8, (n >>> 40).setWidth 8, (n >>> 48).setWidth 8, (n >>> 56).setWidth 8]
theorem eight_length (n : BitVec 64) : (eight n).length = 8 := rfl
theorem eight_get (n : BitVec 64) (k : Nat) (hk : k < 8) : (u8s (eight n))[k]? = some (.int .u8 ((n.toNat : Int) / ((2 ^ (8 * k) : Nat) : Int) % 256)) := by
  obtain rfl | rfl | rfl | rfl | rfl | rfl | rfl | rfl : k = 0 ∨ k = 1 ∨ k = 2 ∨ k = 3 ∨ k = 4 ∨ k = 5 ∨ k = 6 ∨ k = 7 := by omega
  all_goals simp [u8s, eight, Nat.shiftRight_eq_div_pow]
namespace St
def stream (k : St) (n : BitVec 64) (long : Nat) : List (BitVec 8) := (k.absorb (eight n ++ [1#8])).squeeze long
def tag (k : St) (n : BitVec 64) (t : List (BitVec 8)) : St := k.absorb ((eight n ++ [2#8]) ++ t)
def xors (a b : List (BitVec 8)) : List (BitVec 8) := List.zipWith (· ^^^ ·) a b
def hide (k : St) (n : BitVec 64) (b : List (BitVec 8)) : List (BitVec 8) := xors b (k.stream n b.length)
theorem stream_length (k : St) (n : BitVec 64) (long : Nat) : (k.stream n long).length = long := squeeze_length _ _
theorem hide_length (k : St) (n : BitVec 64) (b : List (BitVec 8)) : (k.hide n b).length = b.length := by
  unfold hide xors
  rw [List.length_zipWith, stream_length]; omega
theorem xors_xors : ∀ (a b : List (BitVec 8)), a.length ≤ b.length → xors (xors a b) b = a
  | [], _, _ => rfl
  | x :: a, [], h => by simp at h
  | x :: a, y :: b, h => by
    show ((x ^^^ y) ^^^ y) :: xors (xors a b) b = x :: a
    rw [xors_xors a b (by simpa using h), BitVec.xor_assoc, BitVec.xor_self, BitVec.xor_zero]
theorem hide_hide (k : St) (n : BitVec 64) (b : List (BitVec 8)) : k.hide n (k.hide n b) = b := by
  unfold hide
  rw [show (xors b (k.stream n b.length)).length = b.length from hide_length k n b]
  exact xors_xors _ _ (by rw [stream_length]; exact Nat.le_refl _)
theorem hide_inj {k : St} {n : BitVec 64} {a b : List (BitVec 8)} (h : k.hide n a = k.hide n b) : a = b := by
  rw [← hide_hide k n a, h, hide_hide]
theorem tag_short {k : St} {n : BitVec 64} {a b : List (BitVec 8)} (ha : a.length ≤ 6) (hb : b.length ≤ 6) (h : k.tag n a = k.tag n b) : a = b := by
  unfold tag at h
  rw [List.append_assoc, List.append_assoc] at h
  have e : ∀ c : List (BitVec 8), absorb k (eight n ++ c) = absorb (mixAt k (eight n) 0).perm c := fun c => by
    rw [absorb_drop k (eight n ++ c) (by rw [List.length_append, eight_length]; omega), List.drop_left' (eight_length n)]
    congr 2
  rw [e, e] at h
  have := absorb_short (by simp; omega) (by simp; omega) h
  simpa using this
theorem stream_take (k : St) (n : BitVec 64) (m more : Nat) : (k.stream n (m + more)).take m = k.stream n m := squeeze_take _ _ _
theorem hide_get {k : St} {n : BitVec 64} {b : List (BitVec 8)} {i : Nat} (more : Nat) (h : i < b.length) : (k.hide n b)[i]? = some (b[i] ^^^ ((k.stream n (b.length + more))[i]'(by rw [stream_length]; omega))) := by
  have e : (k.stream n b.length)[i]'(by rw [stream_length]; exact h) = (k.stream n (b.length + more))[i]'(by rw [stream_length]; omega) := by
    have := congrArg (·[i]?) (stream_take k n b.length more)
    simp only [List.getElem?_take_of_lt h] at this
    rw [List.getElem?_eq_getElem (by rw [stream_length]; omega), List.getElem?_eq_getElem (by rw [stream_length]; exact h)] at this
    exact (Option.some.inj this).symm
  unfold hide xors
  rw [List.getElem?_zipWith, List.getElem?_eq_getElem h, List.getElem?_eq_getElem (by rw [stream_length]; exact h), ← e]
end St
/-- how a ring, and a box, lie in memory -/
def ringC (s : St) (n : BitVec 64) : Array Value := #[.int .u32 (s.a.toNat : Int), .int .u32 (s.b.toNat : Int), .int .u32 (s.c.toNat : Int), .int .u32 (s.d.toNat : Int), .int .u64 (n.toNat : Int)]
def boxC (n : BitVec 64) (v : Value) (s : St) : Array Value := #[.int .u64 (n.toNat : Int), v, .int .u32 (s.a.toNat : Int), .int .u32 (s.b.toNat : Int), .int .u32 (s.c.toNat : Int), .int .u32 (s.d.toNat : Int)]
end Go.Proofs.YtniibdglodnhoaaDoor

/- A number of eight octets, the lowest one first. No program in sight. Arms on u64 as bit vectors. -/
namespace Go.Proofs.YtniibdglodnhoaaDoor
open Go.RowKit Go.Own Go.Bv Go.Eq

def num (bs : List (BitVec 8)) : Nat → BitVec 64
  | 0 => 0#64
  | k + 1 => num bs k ||| ((bs.getD k 0#8).setWidth 64 <<< (8 * k))
def numN (bs : List (BitVec 8)) : Nat → Nat
  | 0 => 0
  | k + 1 => numN bs k + 2 ^ (8 * k) * (bs.getD k 0#8).toNat
theorem numN_lt (bs : List (BitVec 8)) : ∀ k, numN bs k < 2 ^ (8 * k)
  | 0 => by simp [numN]
  | k + 1 => by
    have h := numN_lt bs k
    have hx : (bs.getD k 0#8).toNat ≤ 255 := by have := (bs.getD k 0#8).isLt; omega
    have h2 : 2 ^ (8 * k) * (bs.getD k 0#8).toNat ≤ 2 ^ (8 * k) * 255 := Nat.mul_le_mul_left _ hx
    have e : 2 ^ (8 * (k + 1)) = 2 ^ (8 * k) * 256 := by rw [Nat.mul_succ, Nat.pow_add]
    rw [e]
    show numN bs k + 2 ^ (8 * k) * (bs.getD k 0#8).toNat < _
    omega
theorem num_nat (bs : List (BitVec 8)) : ∀ k, k ≤ 8 → (num bs k).toNat = numN bs k
  | 0, _ => rfl
  | k + 1, hk => by
    have h := num_nat bs k (by omega)
    have hl := numN_lt bs k
    show (num bs k ||| ((bs.getD k 0#8).setWidth 64 <<< (8 * k))).toNat = numN bs k + 2 ^ (8 * k) * (bs.getD k 0#8).toNat
    have hx : (bs.getD k 0#8).toNat < 256 := (bs.getD k 0#8).isLt
    generalize (bs.getD k 0#8) = x at *
    have hp : 2 ^ (8 * k) ≤ 2 ^ 56 := Nat.pow_le_pow_right (by omega) (by omega)
    have h3 : 2 ^ (8 * k) * x.toNat ≤ 2 ^ (8 * k) * 255 := Nat.mul_le_mul_left _ (by omega)
    rw [BitVec.toNat_or, BitVec.toNat_shiftLeft, BitVec.toNat_setWidth, h, Nat.mod_eq_of_lt (show x.toNat < 2 ^ 64 by omega), Nat.shiftLeft_eq, Nat.mul_comm x.toNat, Nat.mod_eq_of_lt (by omega), Nat.or_comm, Nat.mul_comm, ← Nat.shiftLeft_eq, ← Nat.shiftLeft_add_eq_or_of_lt hl, Nat.add_comm]
theorem num_eight (n : BitVec 64) (r : List (BitVec 8)) : num (eight n ++ r) 8 = n := by
  apply BitVec.eq_of_toNat_eq
  rw [num_nat _ 8 (Nat.le_refl _)]
  have := n.isLt
  simp [numN, eight, Nat.shiftRight_eq_div_pow]
  omega
theorem eight_num (bs : List (BitVec 8)) (h : 8 ≤ bs.length) : eight (num bs 8) = bs.take 8 := by
  match bs, h with
  | x0 :: x1 :: x2 :: x3 :: x4 :: x5 :: x6 :: x7 :: r, _ =>
    have hn := num_nat (x0 :: x1 :: x2 :: x3 :: x4 :: x5 :: x6 :: x7 :: r) 8 (Nat.le_refl _)
    generalize num (x0 :: x1 :: x2 :: x3 :: x4 :: x5 :: x6 :: x7 :: r) 8 = n at hn
    simp [numN] at hn
    have h0 := x0.isLt
    have h1 := x1.isLt
    have h2 := x2.isLt
    have h3 := x3.isLt
    have h4 := x4.isLt
    have h5 := x5.isLt
    have h6 := x6.isLt
    have h7 := x7.isLt
    simp only [eight, List.take, List.cons.injEq, and_true]
    refine ⟨?_, ?_, ?_, ?_, ?_, ?_, ?_, ?_⟩ <;> apply BitVec.eq_of_toNat_eq <;> simp [Nat.shiftRight_eq_div_pow] <;> omega
/-- what a box of these octets is, and that it is written as them -/
theorem bytes_of (bs : List (BitVec 8)) (h : 24 ≤ bs.length) : eight (num bs 8) ++ (St.of ((bs.drop 8).take 16)).octs ++ bs.drop 24 = bs := by
  rw [eight_num bs (by omega), St.octs_of (by simp; omega), List.append_assoc, show bs.drop 24 = (bs.drop 8).drop 16 by rw [List.drop_drop], List.take_append_drop, List.take_append_drop]
theorem of_bytes (n : BitVec 64) (u : St) (t : List (BitVec 8)) : num (eight n ++ u.octs ++ t) 8 = n ∧ St.of (((eight n ++ u.octs ++ t).drop 8).take 16) = u ∧ (eight n ++ u.octs ++ t).drop 24 = t := by
  refine ⟨by rw [List.append_assoc]; exact num_eight n _, ?_, ?_⟩
  · rw [List.append_assoc, List.drop_left' (eight_length n), List.take_left' (St.octs_length u), St.of_octs]
  · rw [List.drop_left' (by rw [List.length_append, eight_length, St.octs_length])]
end Go.Proofs.YtniibdglodnhoaaDoor
namespace Go.Bva
open Go.RowKit Go.Bv
section
variable {P : Program} {ops : Array Oper} {Q : Exit → Act → World → Prop} {a : Act} {w : World} {rest : List Oper}
variable {d : Option Tmp} {ty : TypeId} {pos : String} {aft : Array Edge}
def bor64 (u v : BitVec 64) : BitVec 64 := u ||| v
def bshl64 (u : BitVec 64) (n : Nat) : BitVec 64 := u <<< n
def bw64 (u : BitVec 8) : BitVec 64 := u.setWidth 64
theorem or_u64 {t yt : TypeId} {x y : Operand} {u v : BitVec 64} (hx : a.eval x = .int .u64 (u.toNat : Int)) (hy : a.eval y = .int .u64 (v.toNat : Int))
    (h : wpList P ops Q rest (a.put d (.int .u64 ((bor64 u v).toNat : Int))) w) : wpList P ops Q ({ dst := d, op := .binOp .or t x y yt, type := ty, pos := pos, after := aft, guard := none } :: rest) a w := by
  unfold bor64 at h
  refine step_val ?_ h
  simp only [execOp, hx, hy]
  simp [go_sem, binOp, eqGuard, Op.intArith, or64]
theorem shl_u64 {t yt : TypeId} {x y : Operand} {u : BitVec 64} {k : IntKind} {n : Nat} (hx : a.eval x = .int .u64 (u.toNat : Int)) (hy : a.eval y = .int k (n : Int)) (hn : n < 64)
    (h : wpList P ops Q rest (a.put d (.int .u64 ((bshl64 u n).toNat : Int))) w) : wpList P ops Q ({ dst := d, op := .binOp .shl t x y yt, type := ty, pos := pos, after := aft, guard := none } :: rest) a w := by
  unfold bshl64 at h
  refine step_val ?_ h
  simp only [execOp, hx, hy]
  have h0 : ¬ ((n : Int) < 0) := by omega
  have hm : min n 64 = n := by omega
  have e : ∀ z : Int, IntKind.u64.wrap z = z % 18446744073709551616 := fun z => by simp [IntKind.wrap, IntKind.bits, IntKind.signed]
  simp [go_sem, binOp, eqGuard, Op.shift, e, Nat.shiftLeft_eq, hm, h0]
theorem cnv_8_64 {s t : TypeId} {x : Operand} {u : BitVec 8} (hs : P.underlying s = some (.int .u8)) (ht : P.underlying t = some (.int .u64)) (hx : a.eval x = .int .u8 (u.toNat : Int))
    (h : wpList P ops Q rest (a.put d (.int .u64 ((bw64 u).toNat : Int))) w) : wpList P ops Q ({ dst := d, op := .convert s t x, type := ty, pos := pos, after := aft, guard := none } :: rest) a w := by
  unfold bw64 at h
  refine step_val ?_ h
  have e : IntKind.u64.wrap (u.toNat : Int) = ((u.setWidth 64).toNat : Int) := by
    have e : ∀ z : Int, IntKind.u64.wrap z = z % 18446744073709551616 := fun z => by simp [IntKind.wrap, IntKind.bits, IntKind.signed]
    rw [e, BitVec.toNat_setWidth]; have := u.isLt; omega
  simp only [execOp, hx]
  have hc : (convert s t (.int IntKind.u8 (u.toNat : Int))).run P w = .ok (.int IntKind.u64 (IntKind.u64.wrap (u.toNat : Int))) w := by simp [convert, run_underlying hs, run_underlying ht, Conv.intToInt]
  simp [hc, e]
end
end Go.Bva

/- What is sealed, and what is opened of octets. Plain. No program in sight. -/
namespace Go.Pz
open Go.Pb Go.Mt Go.Kc
theorem bits_told {m : Nat} : ∀ {l : List Tok}, okFrom m l → (bitsAll l).length ≤ 9 * told l := by
  intro l
  induction l generalizing m with
  | nil => intro _; simp [bitsAll]
  | cons t r ih =>
    intro h
    have e : bitsAll (t :: r) = bitsOf t ++ bitsAll r := by simp [bitsAll]
    have := ih h.2
    have ht := h.1
    rw [e, List.length_append, bitsOf_length, told_cons]
    unfold Tok.ok at ht
    unfold Tok.size
    split <;> omega
theorem pack_length (b : List (BitVec 8)) : 9 ≤ (packT b).length ∧ (packT b).length ≤ 16 + 9 * b.length := by
  obtain ⟨s1, s2, _⟩ := tokens_spec b
  have h1 := bits_told s1
  obtain ⟨_, _, _, h4⟩ := enc_facts (within_toks s1)
  rw [prs_length] at h4
  unfold packT
  rw [List.length_append, encT_length]
  show _ ≤ 4 + (5 + _) ∧ 4 + (5 + _) ≤ _
  omega
/-- a greater bound changes nothing -/
theorem un_most (b : List (BitVec 8)) {m n : Int} (hm : (longV b : Int) ≤ m) (hn : (longV b : Int) ≤ n) : unE b m = unE b n ∧ unT b m = unT b n := by
  have e : unE b m = unE b n := by
    unfold unE
    rw [if_neg (c := m < 0) (by omega), if_neg (c := n < 0) (by omega), if_neg (c := m < (longV b : Int)) (by omega), if_neg (c := n < (longV b : Int)) (by omega)]
  exact ⟨e, by unfold unT; rw [e]⟩
theorem un_pack (b : List (BitVec 8)) (hb : b.length ≤ 65536) : unE (packT b) 65536 = 0 ∧ unT (packT b) 65536 = b := by
  obtain ⟨h1, h2⟩ := un_back b [] hb
  rw [List.append_nil] at h1
  have h3 := h2 rfl
  have h4 : unE (packT b) b.length = 0 := h1
  have hl : longV (packT b) = b.length := by
    have := ((unT_facts (packT b) b.length).1 h4).2.1
    rw [h3] at this
    exact this.symm
  obtain ⟨e1, e2⟩ := un_most (packT b) (m := 65536) (n := b.length) (by rw [hl]; omega) (by rw [hl]; omega)
  rw [e1, e2]
  exact ⟨h4, h3⟩
end Go.Pz
namespace Go.Proofs.YtniibdglodnhoaaDoor
open Go.RowKit Go.Own Go.Bv Go.Eq

def boxT (key : St) (n : BitVec 64) (b : List (BitVec 8)) : List (BitVec 8) := eight n ++ (key.tag n (key.hide n (Go.Pz.packT b))).octs ++ key.hide n (Go.Pz.packT b)
def sealT (key : St) (n : BitVec 64) (b : List (BitVec 8)) : List (BitVec 8) := boxT key n b ++ octs4 (Crc.sum (boxT key n b))
/-- why octets are no box of this key -/
def unboxE (key : St) (t : List (BitVec 8)) : Int :=
  if t.length < 24 then 2 else if 65560 < t.length then 3 else if St.of ((t.drop 8).take 16) = key.tag (num t 8) (t.drop 24) then 0 else 8
def unboxT (key : St) (t : List (BitVec 8)) : List (BitVec 8) := if unboxE key t = 0 then key.hide (num t 8) (t.drop 24) else []
/-- why octets are not opened -/
def soE (key : St) (b : List (BitVec 8)) : Int :=
  if 131072 < b.length then 3 else if openE b ≠ 0 then openE b else if unboxE key (openT b) ≠ 0 then unboxE key (openT b) else Go.Pz.unE (unboxT key (openT b)) 65536
def soT (key : St) (b : List (BitVec 8)) : List (BitVec 8) := if soE key b = 0 then Go.Pz.unT (unboxT key (openT b)) 65536 else []

theorem boxT_length (key : St) (n : BitVec 64) (b : List (BitVec 8)) : (boxT key n b).length = 24 + (Go.Pz.packT b).length := by
  unfold boxT
  rw [List.length_append, List.length_append, eight_length, St.octs_length, St.hide_length]
theorem sealT_length (key : St) (n : BitVec 64) (b : List (BitVec 8)) : (sealT key n b).length = 28 + (Go.Pz.packT b).length := by
  unfold sealT
  rw [List.length_append, boxT_length, octs4_length]
  omega
theorem sealT_sealL (key : St) (n : BitVec 64) (b : List (BitVec 8)) : sealT key n b = sealL (boxT key n b) := rfl
theorem unbox_box (key : St) (n : BitVec 64) (b : List (BitVec 8)) (hb : b.length ≤ 600) : unboxE key (boxT key n b) = 0 ∧ unboxT key (boxT key n b) = Go.Pz.packT b := by
  obtain ⟨h1, h2⟩ := Go.Pz.pack_length b
  have hl := boxT_length key n b
  obtain ⟨o1, o2, o3⟩ := of_bytes n (key.tag n (key.hide n (Go.Pz.packT b))) (key.hide n (Go.Pz.packT b))
  have e : unboxE key (boxT key n b) = 0 := by
    unfold unboxE
    rw [hl, if_neg (by omega), if_neg (by omega)]
    unfold boxT
    rw [o1, o2, o3, if_pos rfl]
  refine ⟨e, ?_⟩
  unfold unboxT
  rw [if_pos e]
  unfold boxT
  rw [o1, o3, St.hide_hide]
/-- what was sealed is opened -/
theorem so_seal (key : St) (n : BitVec 64) (b : List (BitVec 8)) (hb : b.length ≤ 600) : soE key (sealT key n b) = 0 ∧ soT key (sealT key n b) = b := by
  obtain ⟨h1, h2⟩ := Go.Pz.pack_length b
  obtain ⟨p1, p2⟩ := open_seal (boxT key n b)
  obtain ⟨u1, u2⟩ := unbox_box key n b hb
  obtain ⟨k1, k2⟩ := Go.Pz.un_pack b (by omega)
  have hl := sealT_length key n b
  rw [sealT_sealL] at hl ⊢
  have e : soE key (sealL (boxT key n b)) = 0 := by
    unfold soE
    rw [hl, if_neg (by omega), p2, p1, u1, u2, k1]
    simp
  refine ⟨e, ?_⟩
  unfold soT
  rw [if_pos e, p1, u2, k2]
/-- with one octet another one it is told -/
theorem so_told (key : St) (n : BitVec 64) (b : List (BitVec 8)) (hb : b.length ≤ 600) (k : Nat) (c : BitVec 8) (hk : k < (sealT key n b).length) (hc : (sealT key n b)[k] ≠ c) : soE key ((sealT key n b).set k c) = 7 ∧ soT key ((sealT key n b).set k c) = [] := by
  obtain ⟨h1, h2⟩ := Go.Pz.pack_length b
  have hl := sealT_length key n b
  obtain ⟨p1, p2⟩ := open_changed (boxT key n b) k c hk hc
  have e : soE key ((sealT key n b).set k c) = 7 := by
    unfold soE
    rw [List.length_set, hl, if_neg (by omega), sealT_sealL, p2]
    simp
  exact ⟨e, by unfold soT; rw [e]; rfl⟩
/-- with another tag it is told -/
theorem so_tag (key : St) (n : BitVec 64) (b : List (BitVec 8)) (hb : b.length ≤ 600) (k : Nat) (c : BitVec 8) (h8 : 8 ≤ k) (h24 : k < 24) (hk : k < (boxT key n b).length) (hc : (boxT key n b)[k] ≠ c) : soE key (sealL ((boxT key n b).set k c)) = 8 ∧ soT key (sealL ((boxT key n b).set k c)) = [] := by
  obtain ⟨h1, h2⟩ := Go.Pz.pack_length b
  have hl := boxT_length key n b
  obtain ⟨p1, p2⟩ := open_seal ((boxT key n b).set k c)
  have hs := sealL_length ((boxT key n b).set k c)
  rw [List.length_set, hl] at hs
  obtain ⟨o1, o2, o3⟩ := of_bytes n (key.tag n (key.hide n (Go.Pz.packT b))) (key.hide n (Go.Pz.packT b))
  have e : unboxE key ((boxT key n b).set k c) = 8 := by
    unfold unboxE
    rw [List.length_set, hl, if_neg (by omega), if_neg (by omega), if_neg]
    intro h
    -- the number and the text are as they were
    have hd : ((boxT key n b).set k c).drop 24 = (boxT key n b).drop 24 := List.drop_set_of_lt h24
    have ht : ((boxT key n b).set k c).take 8 = (boxT key n b).take 8 := by rw [List.take_set_of_le h8]
    have hn : num ((boxT key n b).set k c) 8 = num (boxT key n b) 8 := by
      have e1 := eight_num ((boxT key n b).set k c) (by rw [List.length_set, hl]; omega)
      have e2 := eight_num (boxT key n b) (by rw [hl]; omega)
      rw [ht, ← e2] at e1
      have h3 := num_eight (num ((boxT key n b).set k c) 8) []
      rw [List.append_nil, e1] at h3
      have h4 := num_eight (num (boxT key n b) 8) []
      rw [List.append_nil] at h4
      rw [← h3, h4]
    rw [hd, hn] at h
    have hb1 : num (boxT key n b) 8 = n := o1
    have hb3 : (boxT key n b).drop 24 = key.hide n (Go.Pz.packT b) := o3
    have hb2 : St.of (((boxT key n b).drop 8).take 16) = key.tag n (key.hide n (Go.Pz.packT b)) := o2
    rw [hb1, hb3, ← hb2] at h
    have h5 := congrArg St.octs h
    rw [St.octs_of (by rw [List.length_take, List.length_drop, List.length_set, hl]; omega), St.octs_of (by rw [List.length_take, List.length_drop, hl]; omega)] at h5
    have h6 := congrArg (fun l => l[k - 8]?) h5
    simp only [List.getElem?_take, List.getElem?_drop] at h6
    rw [if_pos (by omega), if_pos (by omega), show 8 + (k - 8) = k by omega, List.getElem?_set_self hk, List.getElem?_eq_getElem hk] at h6
    exact hc (Option.some.inj h6).symm
  have e2 : soE key (sealL ((boxT key n b).set k c)) = 8 := by
    unfold soE
    rw [hs, if_neg (by omega), p2, p1, e]
    simp
  exact ⟨e2, by unfold soT; rw [e2]; rfl⟩
/-- two numbers, two boxes -/
theorem sealT_ne {key key2 : St} {n m : BitVec 64} {a b : List (BitVec 8)} (h : n ≠ m) : sealT key n a ≠ sealT key2 m b := by
  intro e
  apply h
  have h1 : (sealT key n a).take 8 = eight n := by unfold sealT boxT; rw [List.append_assoc, List.append_assoc]; rfl
  have h2 : (sealT key2 m b).take 8 = eight m := by unfold sealT boxT; rw [List.append_assoc, List.append_assoc]; rfl
  rw [e, h2] at h1
  have h3 := num_eight n []
  have h4 := num_eight m []
  rw [List.append_nil] at h3 h4
  rw [← h3, ← h1, h4]
end Go.Proofs.YtniibdglodnhoaaDoor

/- A text with its end behind it, in eights. No program in sight. -/
namespace Go.Proofs.YtniibdglodnhoaaDoor
open Go.RowKit Go.Own Go.Bv Go.Eq

def padK (b : List (BitVec 8)) (i : Nat) : List (BitVec 8) := (b ++ [128#8]) ++ List.replicate i 0#8
theorem padK_length (b : List (BitVec 8)) (i : Nat) : (padK b i).length = b.length + 1 + i := by simp [padK]; omega
theorem padK_succ (b : List (BitVec 8)) (i : Nat) : padK b (i + 1) = padK b i ++ [0#8] := by
  unfold padK
  rw [List.replicate_succ', ← List.append_assoc]
theorem padK_zero (b : List (BitVec 8)) : padK b 0 = b ++ [128#8] := by simp [padK]
theorem padK_get (b : List (BitVec 8)) (i j : Nat) (h : j < b.length + 1 + i) : (padK b i)[j]? = some (byteAt b j) := by
  unfold padK byteAt
  by_cases h1 : j < b.length
  · rw [List.getElem?_append_left (by simp; omega), List.getElem?_append_left h1, if_pos h1]
    simp [h1]
  · rw [if_neg h1]
    by_cases h2 : j = b.length
    · subst h2
      rw [List.getElem?_append_left (by simp), if_pos rfl]
      simp
    · rw [List.getElem?_append_right (by simp; omega), List.getElem?_replicate]
      rw [if_pos (by simp; omega), if_neg h2]; rfl
theorem padK_four (b : List (BitVec 8)) (i p : Nat) (h : p + 4 ≤ b.length + 1 + i) : ((u8s (padK b i)).drop p).take 4 = u8s [byteAt b p, byteAt b (p + 1), byteAt b (p + 2), byteAt b (p + 3)] := by
  rw [← u8s_drop, ← u8s_take]
  congr 1
  apply List.ext_getElem?
  intro k
  rw [List.getElem?_take, List.getElem?_drop]
  by_cases hk : k < 4
  · rw [if_pos hk, padK_get b i (p + k) (by omega)]
    obtain rfl | rfl | rfl | rfl : k = 0 ∨ k = 1 ∨ k = 2 ∨ k = 3 := by omega
    all_goals rfl
  · rw [if_neg hk]
    symm
    exact List.getElem?_eq_none (by simp; omega)
namespace St
/-- half a block mixed in, and the other half -/
def mixA (s : St) (b : List (BitVec 8)) (p : Nat) : St := ⟨Go.Bva.bxor s.a (of4 (byteAt b p) (byteAt b (p + 1)) (byteAt b (p + 2)) (byteAt b (p + 3))), s.b, s.c, s.d⟩
def mixB (s : St) (b : List (BitVec 8)) (p : Nat) : St := ⟨s.a, Go.Bva.bxor s.b (of4 (byteAt b (p + 4)) (byteAt b (p + 5)) (byteAt b (p + 6)) (byteAt b (p + 7))), s.c, s.d⟩
theorem mix_halves (s : St) (b : List (BitVec 8)) (p : Nat) : mixAt s b p = (s.mixA b p).mixB b p := mixAt_eq s b p
end St
end Go.Proofs.YtniibdglodnhoaaDoor

/- Walks: the document's answer for layer 8: turned, round, Perm, octets, Octets, four, Of. -/
namespace Go.Proofs.YtniibdglodnhoaaDoor
open Go.RowKit Go.Own Go.Bv Go.Ord Go.Eq

theorem ofNat_succ (k : Nat) : BitVec.ofNat 32 k + BitVec.ofInt 32 1 = BitVec.ofNat 32 (k + 1) := by
  apply BitVec.eq_of_toNat_eq
  simp
theorem key_eq (k : Nat) : Go.Bva.bmul (Go.Bva.badd (BitVec.ofNat 32 k) (Go.Bva.bk 1)) (Go.Bva.bk 2654435769) = St.key (k + 1) := by
  unfold Go.Bva.bmul Go.Bva.badd Go.Bva.bk
  rw [ofNat_succ]; rfl

end Go.Proofs.YtniibdglodnhoaaDoor

/- Walks: the document's answer for layer 8: octets, Octets, four. -/
namespace Go.Proofs.YtniibdglodnhoaaDoor
open Go.RowKit Go.Own Go.Bv Go.Ord Go.Eq


def octsK (s : St) (k : Nat) : List (BitVec 8) := (s.l.take k).flatMap octs4
theorem octsK_all (s : St) : octsK s 4 = s.octs := by simp [octsK, St.l, St.octs]
theorem octsK_len (s : St) (k : Nat) (hk : k ≤ 4) : (octsK s k).length = 4 * k := by
  obtain rfl | rfl | rfl | rfl | rfl : k = 0 ∨ k = 1 ∨ k = 2 ∨ k = 3 ∨ k = 4 := by omega
  all_goals rfl
theorem octsK_succ (s : St) (k : Nat) (hk : k < 4) : octsK s (k + 1) = octsK s k ++ octs4 (s.w k) := by
  obtain rfl | rfl | rfl | rfl : k = 0 ∨ k = 1 ∨ k = 2 ∨ k = 3 := by omega
  all_goals rfl

theorem arr_index (s : St) (w : World) {k : Nat} (hk : k < 4) : (Instr.index 24 (.agg s.C) (.int .i64 (k : Int))).run Tryd.prog w = .ok (.int .u32 ((s.w k).toNat : Int)) w := by
  obtain rfl | rfl | rfl | rfl : k = 0 ∨ k = 1 ∨ k = 2 ∨ k = 3 := by omega
  all_goals kernel_rfl


theorem of4_int (x y z t : BitVec 8) : ((of4 x y z t).toNat : Int) = (x.toNat : Int) + 256 * (y.toNat : Int) + 65536 * (z.toNat : Int) + 16777216 * (t.toNat : Int) := by
  have h := octs4_eq (of4 x y z t)
  rw [octs4_of4] at h
  simp only [u8s, List.map_cons, List.map_nil, List.cons.injEq, Value.int.injEq, true_and, and_true] at h
  obtain ⟨h0, h1, h2, h3⟩ := h
  omega

end Go.Proofs.YtniibdglodnhoaaDoor

/- The walk of the document's Absorb. -/
namespace Go.Proofs.YtniibdglodnhoaaDoor
open Go.RowKit Go.Own Go.Bv Go.Ord Go.Eq

end Go.Proofs.YtniibdglodnhoaaDoor
