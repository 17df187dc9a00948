/- Of several texts of this claim, one behind the other: Kp Kx Kn Ko Kl Zm Kq Ka Zv Zb Zd Pa Vm Vn Sa Pb. -/
import Derived.Test.YtniibdglodnhoaaGreatDoorU2
import Derived.Test.YtniibdglodnhoaaGreatDoorA
import Derived.Test.YtniibdglodnhoaaGreatDoorPn

/- Walk: the writer's put. -/
namespace Go.Own
open Go.RowKit
/-- in any order -/
theorem Own.perm {w0 w : World} {L L' : List Res} (h : Own w0 w L) (hp : L.Perm L') : Own w0 w L' :=
  ⟨h.below, fun r hr => h.mem r (hp.mem_iff.2 hr), hp.pairwise h.apart (fun h => h.symm)⟩
/-- the first behind the two that follow -/
theorem Own.rot3 {w0 w : World} {L : List Res} {x y z : Res} (h : Own w0 w (x :: y :: z :: L)) : Own w0 w (y :: z :: x :: L) :=
  h.perm ((List.Perm.swap y x (z :: L)).trans (List.Perm.cons y (List.Perm.swap z x L)))
end Go.Own
namespace Go.Kc
theorem mid_bounds {s : Ws} {r : Rc} (h : Sim s r) (g : r.Good) {a : Nat} (b : Bool) (ha : a < r.p.length) :
    253952 ≤ s.part a ∧ s.part a + 253952 ≤ s.span ∧ s.low + s.span ≤ 8589934592 ∧ 16777216 ≤ s.span ∧ s.span < 4294967296 ∧ (s.mid a b).low + (s.mid a b).span ≤ 8589934592 ∧ 253952 ≤ (s.mid a b).span ∧ (s.mid a b).span < 4294967296 := by
  obtain ⟨b1, b2, _⟩ := part_bounds g ha
  have hpart : s.part a = r.part a := by unfold Ws.part Rc.part; rw [h.p, h.span]
  have hm := (sim_mid h g b ha)
  obtain ⟨m1, m2, _⟩ := mid_span g b ha
  have h6 := h.holds.low
  have h7 := hm.holds.low
  have g1 := g.lo
  have g2 := g.hi
  rw [hpart, h.span, hm.span]
  exact ⟨b1, b2, h6, g1, g2, h7, m1, m2⟩
end Go.Kc
namespace Go.Proofs.YtniibdglodnhoaaGreatDoor
open Go.RowKit Go.Own Go.Bv Go.Ord Go.Eq Go.Opn Go.Pb

theorem kc_may (p : Int) : Go.Kc.mayB p = mayB p := rfl
set_option maxHeartbeats 8000000 in
set_option maxRecDepth 100000 in
theorem put_calls {w0 w : World} {L : List Res} {wb : Nat} {aP : Option Addr} {n cP : Nat} {aO : Option Addr} {cO : Nat} (s : Go.Kc.Ws) (r : Go.Kc.Rc) (hs : Go.Kc.Sim s r) (g : r.Good) (a : Nat) (b : Bool) (ha : a < r.p.length) (hk : r.k ≤ 1000000) (hn : n = s.p.length) (t : Go.Kc.Ws) (ht : s.step a b = t)
    (hO : Own w0 w (.blk wb (.cells (wC (.slice aP n cP) s.low s.span s.kept s.many (.slice aO s.out.length cO)) 128 (0,0)) :: .sl 5 1 (.slice aO s.out.length cO) s.out.length (u8s s.out) :: .sl 3 1 (.slice aP n cP) n (i64s s.p) :: L)) :
    Calls Tryz.prog 89 #[.pointer (some ⟨wb, 0, none⟩), .agg (Bt.C ⟨(a : Int), b⟩)] w fun e w' => ∃ a' c', e = .returned (.int .i64 0) ∧
      Own w0 w' (.blk wb (.cells (wC (.slice aP n cP) t.low t.span t.kept t.many (.slice a' t.out.length c')) 128 (0,0)) :: .sl 5 1 (.slice a' t.out.length c') t.out.length (u8s t.out) :: .sl 3 1 (.slice aP n cP) n (i64s t.p) :: L) := by
  obtain ⟨q1, q2, q3, q4, q5, q6, q7, q8⟩ := Go.Kc.mid_bounds hs g b ha
  have hps : s.p.length = r.p.length := by rw [hs.p]
  have han : a < n := by omega
  have hmv := Go.Kc.all_get g.may ha
  rw [← hs.p, kc_may] at hmv
  have hH := hs.holds
  have hkept := hH.kept
  have hlen := hH.len
  have hmany := hH.many
  obtain ⟨pv, hpv⟩ : ∃ pv, s.p.getD a 0 = pv := ⟨_, rfl⟩
  obtain ⟨P, hP⟩ : ∃ P, s.part a = P := ⟨_, rfl⟩
  rw [hpv] at hmv
  rw [hP] at q1 q2
  have hg : (i64s s.p)[a]? = some (.int .i64 pv) := by
    rw [i64s_get s.p a (by omega), ← hpv, List.getD_eq_getElem?_getD, List.getElem?_eq_getElem (by omega)]; rfl
  have hset : (i64s s.p).set a (.int .i64 (learnI pv b)) = i64s (s.mid a b).p := by
    unfold Go.Kc.Ws.mid i64s
    dsimp only
    rw [List.map_set, hpv]; rfl
  have hsp : ∀ w, Calls Tryz.prog 111 #[.int .u32 (s.span : Int), .int .i64 pv] w fun e w' => e = .returned (.tuple #[.int .u32 (P : Int), .int .i64 0]) ∧ w = w' := fun w => by
    have h := split_calls (s.span : Int) pv w (by omega) (by omega)
    have e : splitOk (s.span : Int) pv = true := by unfold splitOk; rw [hmv, decide_eq_true (by omega)]; rfl
    have e2 : splitI (s.span : Int) pv = (P : Int) := by
      have hp0 := ((mayB_iff pv).1 hmv).1
      rw [← hP]
      unfold splitI Go.Kc.Ws.part
      rw [hpv, Int.natCast_mul, Int.natCast_ediv, Int.toNat_of_nonneg (by omega)]; rfl
    rw [e, if_pos rfl, if_pos rfl, e2] at h
    exact h
  have hln : ∀ w, Calls Tryz.prog 112 #[.int .i64 pv, .bool b] w fun e w' => e = .returned (.tuple #[.int .i64 (learnI pv b), .int .i64 0]) ∧ w = w' := fun w => by
    have h := Learn_calls pv b w
    rw [hmv, if_pos rfl, if_pos rfl] at h
    exact h
  have HSP := Lib.hid hsp
  have HLN := Lib.hid hln
  have HG := Lib.hid hg
  have HSET := Lib.hid hset
  have HT := Lib.hid ht
  have hsn : (Go.Kc.Ws.mid s a b).norm = t := ht
  have HTN := Lib.hid hsn
  have hmid1 : (s.mid a b).low = if b then s.low + P else s.low := by rw [← hP]; rfl
  have hmid2 : (s.mid a b).span = if b then s.span - P else P := by rw [← hP]; rfl
  have HM1 := Lib.hid hmid1
  have HM2 := Lib.hid hmid2
  have hmk : (s.mid a b).kept = s.kept ∧ (s.mid a b).many = s.many ∧ (s.mid a b).out = s.out := ⟨rfl, rfl, rfl⟩
  have HMK := Lib.hid hmk
  obtain ⟨u, hu⟩ : ∃ u, s.mid a b = u := ⟨_, rfl⟩
  rw [hu] at q6 q7 q8 HSET HTN HM1 HM2 HMK
  obtain ⟨low, hlow⟩ : ∃ x, s.low = x := ⟨_, rfl⟩
  obtain ⟨span, hspan⟩ : ∃ x, s.span = x := ⟨_, rfl⟩
  obtain ⟨kept, hkp⟩ : ∃ x, s.kept = x := ⟨_, rfl⟩
  obtain ⟨many, hmn⟩ : ∃ x, s.many = x := ⟨_, rfl⟩
  obtain ⟨M, hM⟩ : ∃ x, s.out.length = x := ⟨_, rfl⟩
  rw [hspan] at HSP HM2 q2 q3 q4 q5
  rw [hlow] at HM1 q3
  rw [hkp, hmn] at HMK
  rw [hkp] at hkept
  rw [hmn] at hlen hmany
  rw [hM] at hlen
  rw [hlow, hspan, hkp, hmn, hM] at hO
  have hOut : u.out.length = M := by rw [HMK.out.2.2, hM]
  have HOUT := Lib.hid hOut
  have hbnd : M + many ≤ 1000001 := by omega
  clear hs g hk hn ht hps hmv hH hpv hP hg hset hsp hln hsn hmid1 hmid2 hmk hu hlow hspan hkp hmn hM hOut hlen ha
  obtain ⟨gP, rfl⟩ := hO.slPlace 2 rfl (by omega)
  cases b
  · simp only [Bool.false_eq_true, if_true, if_false] at HM1 HM2
    have hm1 := HM1.out
    have hm2 := HM2.out
    subst hm1
    subst hm2
    clear HM1 HM2
    go_enter Tryz.func89, Tryz.ntmps89
    go_wp2_with (first
      | ((with_reducible refine gBox ?_); first | (refine bxA hO rfl ?_; clear hO; intro xb ww hO) | (refine bx1 hO rfl rfl ?_; clear hO; intro xb ww hO)))
    replace hO : Own w0 _ (.blk xb (.cells (Bt.C ⟨(a : Int), false⟩) 122 (0,0)) :: .blk wb (.cells (wC (.slice (some ⟨gP, 0, none⟩) n cP) u.low span kept many (.slice aO M cO)) 128 (0,0)) :: .sl 5 1 (.slice aO M cO) M (u8s s.out) :: .sl 3 1 (.slice (some ⟨gP, 0, none⟩) n cP) n (i64s s.p) :: L) := hO
    refine wp_region_textS (fun w' => Own w0 w' (.blk xb (.cells (Bt.C ⟨(a : Int), false⟩) 122 (0,0)) :: .blk wb (.cells (wC (.slice (some ⟨gP, 0, none⟩) n cP) u.low span kept many (.slice aO M cO)) 128 (0,0)) :: .sl 5 1 (.slice aO M cO) M (u8s s.out) :: .sl 3 1 (.slice (some ⟨gP, 0, none⟩) n cP) n (i64s s.p) :: L)) (fun op => match op with | .load _ _ => true | _ => false) (by kernel_rfl) (by kernel_rfl) hO.drew ?_
    replace hO := hO.drew
    generalize World.drew _ = wd at hO ⊢
    go_wp2_with (first
      | (((with_reducible refine gIL ?_); first | refine wpI_ldcS (fun w' hS => hS.blk 0 rfl) rfl rfl (tA rfl) rfl ?_ | refine wpI_ldcS (fun w' hS => hS.blk 1 rfl) rfl rfl (tA rfl) rfl ?_); first | (refine wpI_act (by simp only [Act.put, List.setIfInBounds_toArray, List.set_cons_succ, List.set_cons_zero]; rfl) ?_) | skip)
      | ((with_reducible refine gIL ?_); refine wpI_ld1S (fun w' hS => (hS.slCell 3 rfl (by omega)).trans HG.out) rfl rfl (tA rfl) ?_; first | (refine wpI_act (by simp only [Act.put, List.setIfInBounds_toArray, List.set_cons_succ, List.set_cons_zero]; rfl) ?_) | skip)
      | (go_at_call 111; refine (HSP.out _).mono ?_; rintro e ww ⟨rfl, rfl⟩)
      | ((with_reducible refine gLoad ?_); first | refine ldX hO 0 rfl rfl (tA rfl) (tS rfl) ?_ | refine ldC hO 0 rfl rfl (tA rfl) rfl ?_ | refine ldX hO 1 rfl rfl (tA rfl) (tS rfl) ?_ | refine ldC hO 1 rfl rfl (tA rfl) rfl ?_)
      | ((with_reducible refine gStore ?_); first | (refine stX hO 0 rfl rfl rfl rfl rfl (tS rfl) ?_; clear hO; intro ww hO) | (refine stC hO 0 rfl rfl rfl (ltb rfl) rfl (tS rfl) ?_; clear hO; intro ww hO) | (refine stX hO 1 rfl rfl rfl rfl rfl (tS rfl) ?_; clear hO; intro ww hO) | (refine stC hO 1 rfl rfl rfl (ltb rfl) rfl (tS rfl) ?_; clear hO; intro ww hO))
      | ((with_reducible refine gI ?_); refine wpI_step rfl rfl (by kernel_rfl) ?_; intro K hK; have HK := Lib.hid hK; clear hK) | ((with_reducible refine gI ?_); first | refine wpI_skip rfl ?_ | refine wpI_want rfl ?_) | ((with_reducible refine gOnlyK HK.out ?_ ?_); exact hO; clear HK K; first | (refine wpI_act (by simp only [Act.put, List.setIfInBounds_toArray, List.set_cons_succ, List.set_cons_zero]; rfl) ?_) | skip) | (with_reducible refine wpI_nil ?_))
    replace hO : Own w0 _ (.blk xb (.cells (Bt.C ⟨(a : Int), false⟩) 122 (0,0)) :: .blk wb (.cells (wC (.slice (some ⟨gP, 0, none⟩) n cP) u.low u.span kept many (.slice aO M cO)) 128 (0,0)) :: .sl 5 1 (.slice aO M cO) M (u8s s.out) :: .sl 3 1 (.slice (some ⟨gP, 0, none⟩) n cP) n (i64s s.p) :: L) := hO
    refine wp_region_textS (fun w' => Own w0 w' [.blk xb (.cells (Bt.C ⟨(a : Int), false⟩) 122 (0,0)), .blk wb (.cells (wC (.slice (some ⟨gP, 0, none⟩) n cP) u.low u.span kept many (.slice aO M cO)) 128 (0,0))]) (fun op => match op with | .load _ (.tmp 62) => false | .load _ _ => true | _ => false) (by kernel_rfl) (by kernel_rfl) hO.drew.take2 ?_
    replace hO := hO.drew
    generalize World.drew _ = wd2 at hO ⊢
    go_wp2_with (first
      | (((with_reducible refine gIL ?_); first | refine wpI_ldcS (fun w' hS => hS.blk 0 rfl) rfl rfl (tA rfl) rfl ?_ | refine wpI_ldcS (fun w' hS => hS.blk 1 rfl) rfl rfl (tA rfl) rfl ?_); first | (refine wpI_act (by simp only [Act.put, List.setIfInBounds_toArray, List.set_cons_succ, List.set_cons_zero]; rfl) ?_) | skip)
      | ((with_reducible refine gLoad (T := 3) ?_); refine ld_sl hO 3 rfl rfl HG.out (tA rfl) ?_)
      | (go_at_call 112; refine (HLN.out _).mono ?_; rintro e ww ⟨rfl, rfl⟩)
      | ((with_reducible refine gStore (T := 3) ?_); refine own_setElem hO 3 3 _ _ _ rfl rfl rfl (by omega) ii64s rfl ?_; clear hO; intro ww hO)
      | ((with_reducible refine gI ?_); refine wpI_step rfl rfl (by kernel_rfl) ?_; intro K hK; have HK := Lib.hid hK; clear hK) | ((with_reducible refine gI ?_); first | refine wpI_skip rfl ?_ | refine wpI_want rfl ?_) | ((with_reducible refine gOnlyK HK.out ?_ ?_); exact hO.take2; clear HK K; first | (refine wpI_act (by simp only [Act.put, List.setIfInBounds_toArray, List.set_cons_succ, List.set_cons_zero]; rfl) ?_) | skip) | (with_reducible refine wpI_nil ?_))
    replace hO : Own w0 _ (.blk xb (.cells (Bt.C ⟨(a : Int), false⟩) 122 (0,0)) :: .blk wb (.cells (wC (.slice (some ⟨gP, 0, none⟩) n cP) u.low u.span kept many (.slice aO M cO)) 128 (0,0)) :: .sl 5 1 (.slice aO M cO) M (u8s s.out) :: .sl 3 1 (.slice (some ⟨gP, 0, none⟩) n cP) n ((i64s s.p).set a (.int .i64 (learnI pv false))) :: L) := hO
    replace hO := hO.tail
    rw [HSET.out, ← HMK.out.1, ← HMK.out.2.1, ← HMK.out.2.2, ← HOUT.out] at hO
    have hk1 : u.kept < 256 := by rw [HMK.out.1]; exact hkept
    have hm1 : 1 ≤ u.many := by rw [HMK.out.2.1]; exact hmany
    have hm2 : u.out.length + u.many ≤ 10000000 := by rw [HMK.out.2.1, HOUT.out]; omega
    have hl1 : u.low < 8589934592 := by omega
    have HK1 := Lib.hid hk1
    have HK2 := Lib.hid hm1
    have HK3 := Lib.hid hm2
    have HK4 := Lib.hid hl1
    clear hk1 hm1 hm2 hl1 HMK HOUT HSET HT HG HLN HSP hkept hmany hbnd han q1 q2 q3 q4 q5
    go_loopg [] 1 (fun m wr => (m = 1 ∧ u.span < 16777216 ∧ Own w0 wr (.blk wb (.cells (wC (.slice (some ⟨gP, 0, none⟩) n cP) u.low u.span u.kept u.many (.slice aO u.out.length cO)) 128 (0,0)) :: .sl 5 1 (.slice aO u.out.length cO) u.out.length (u8s u.out) :: .sl 3 1 (.slice (some ⟨gP, 0, none⟩) n cP) n (i64s u.p) :: L)) ∨
      (m ≤ 1 ∧ 16777216 ≤ t.span ∧ ∃ aJ cJ, Own w0 wr (.blk wb (.cells (wC (.slice (some ⟨gP, 0, none⟩) n cP) t.low t.span t.kept t.many (.slice aJ t.out.length cJ)) 128 (0,0)) :: .sl 5 1 (.slice aJ t.out.length cJ) t.out.length (u8s t.out) :: .sl 3 1 (.slice (some ⟨gP, 0, none⟩) n cP) n (i64s t.p) :: L)))
    case atStart =>
      by_cases hc : u.span < 16777216
      · exact .inl ⟨rfl, hc, hO⟩
      · obtain rfl : u = t := by rw [← HTN.out]; unfold Go.Kc.Ws.norm; rw [if_neg hc]
        exact .inr ⟨by omega, by omega, aO, cO, hO⟩
    case round =>
      rcases hrel with ⟨rfl, hc, hO1⟩ | ⟨hm, hc, aJ, cJ, hO1⟩
      · clear hO
        have hO := hO1
        clear hO1
        obtain ⟨z, hz⟩ : ∃ z, u.span * 256 = z := ⟨_, rfl⟩
        have b1 : IntKind.u32.wrap ((u.span : Int) * 256) = (z : Int) := by simp [IntKind.wrap, IntKind.bits, IntKind.signed]; omega
        have HZ : Hid (t = { u.move with span := z }) := by show _ = _; rw [← HTN.out, ← hz]; unfold Go.Kc.Ws.norm; rw [if_pos hc]
        have hz2 : 16777216 ≤ z := by omega
        have HP : Hid (u.move.p = u.p) := by show _ = _; unfold Go.Kc.Ws.move; split <;> rfl
        have HC := Lib.hid hc
        have HZ2 := Lib.hid hz2
        have d1 : decide ((u.span : Int) < 16777216) = true := decide_eq_true (by omega)
        clear hz hc hz2 q6 q7 q8
        go_wp2_with (first
          | ((with_reducible refine gLoad ?_); first | refine ldX hO 0 rfl rfl (tA rfl) (tS rfl) ?_ | refine ldC hO 0 rfl rfl (tA rfl) rfl ?_)
          | ((with_reducible refine gStore ?_); first | (refine stX hO 0 rfl rfl rfl rfl rfl (tS rfl) ?_; clear hO; intro ww hO) | (refine stC hO 0 rfl rfl rfl (ltb rfl) rfl (tS rfl) ?_; clear hO; intro ww hO))
          | (go_at_call 90; refine (move_calls rfl u hO HK4.out HK1.out HK2.out rfl HK3.out).mono ?_; rintro e ww ⟨a2, c2, rfl, hO2⟩; clear hO; have hO := hO2; clear hO2))
        go_roundg 0
        case measure => omega
        case rel =>
          right
          rw [HZ.out]
          refine ⟨by omega, HZ2.out, a2, c2, ?_⟩
          rw [← HP.out] at hO
          exact hO
      · clear hO
        have hO := hO1
        clear hO1
        have d1 : decide ((t.span : Int) < 16777216) = false := decide_eq_false (by omega)
        clear hc hm q6 q7 q8
        go_wp2_with (first
          | ((with_reducible refine gLoad ?_); first | refine ldX hO 0 rfl rfl (tA rfl) (tS rfl) ?_ | refine ldC hO 0 rfl rfl (tA rfl) rfl ?_)
          | ((with_reducible refine gStore ?_); first | (refine stX hO 0 rfl rfl rfl rfl rfl (tS rfl) ?_; clear hO; intro ww hO) | (refine stC hO 0 rfl rfl rfl (ltb rfl) rfl (tS rfl) ?_; clear hO; intro ww hO)))
        go_ret
        exact ⟨aJ, cJ, rfl, hO⟩
  · simp only [Bool.false_eq_true, if_true, if_false] at HM1 HM2
    have a2 : IntKind.u64.wrap ((low : Int) + (P : Int)) = (u.low : Int) := by have x1 : u.low = low + P := HM1.out; simp [IntKind.wrap, IntKind.bits, IntKind.signed]; omega
    have a3 : IntKind.u32.wrap ((span : Int) - (P : Int)) = (u.span : Int) := by have x2 : u.span = span - P := HM2.out; simp [IntKind.wrap, IntKind.bits, IntKind.signed]; omega
    have a1 : IntKind.u64.wrap (P : Int) = (P : Int) := by simp [IntKind.wrap, IntKind.bits, IntKind.signed]; omega
    go_enter Tryz.func89, Tryz.ntmps89
    go_wp2_with (first
      | ((with_reducible refine gBox ?_); first | (refine bxA hO rfl ?_; clear hO; intro xb ww hO) | (refine bx1 hO rfl rfl ?_; clear hO; intro xb ww hO)))
    replace hO : Own w0 _ (.blk xb (.cells (Bt.C ⟨(a : Int), true⟩) 122 (0,0)) :: .blk wb (.cells (wC (.slice (some ⟨gP, 0, none⟩) n cP) low span kept many (.slice aO M cO)) 128 (0,0)) :: .sl 5 1 (.slice aO M cO) M (u8s s.out) :: .sl 3 1 (.slice (some ⟨gP, 0, none⟩) n cP) n (i64s s.p) :: L) := hO
    refine wp_region_textS (fun w' => Own w0 w' (.blk xb (.cells (Bt.C ⟨(a : Int), true⟩) 122 (0,0)) :: .blk wb (.cells (wC (.slice (some ⟨gP, 0, none⟩) n cP) low span kept many (.slice aO M cO)) 128 (0,0)) :: .sl 5 1 (.slice aO M cO) M (u8s s.out) :: .sl 3 1 (.slice (some ⟨gP, 0, none⟩) n cP) n (i64s s.p) :: L)) (fun op => match op with | .load _ _ => true | _ => false) (by kernel_rfl) (by kernel_rfl) hO.drew ?_
    replace hO := hO.drew
    generalize World.drew _ = wd at hO ⊢
    go_wp2_with (first
      | (((with_reducible refine gIL ?_); first | refine wpI_ldcS (fun w' hS => hS.blk 0 rfl) rfl rfl (tA rfl) rfl ?_ | refine wpI_ldcS (fun w' hS => hS.blk 1 rfl) rfl rfl (tA rfl) rfl ?_); first | (refine wpI_act (by simp only [Act.put, List.setIfInBounds_toArray, List.set_cons_succ, List.set_cons_zero]; rfl) ?_) | skip)
      | ((with_reducible refine gIL ?_); refine wpI_ld1S (fun w' hS => (hS.slCell 3 rfl (by omega)).trans HG.out) rfl rfl (tA rfl) ?_; first | (refine wpI_act (by simp only [Act.put, List.setIfInBounds_toArray, List.set_cons_succ, List.set_cons_zero]; rfl) ?_) | skip)
      | (go_at_call 111; refine (HSP.out _).mono ?_; rintro e ww ⟨rfl, rfl⟩)
      | ((with_reducible refine gLoad ?_); first | refine ldX hO 0 rfl rfl (tA rfl) (tS rfl) ?_ | refine ldC hO 0 rfl rfl (tA rfl) rfl ?_ | refine ldX hO 1 rfl rfl (tA rfl) (tS rfl) ?_ | refine ldC hO 1 rfl rfl (tA rfl) rfl ?_)
      | ((with_reducible refine gStore ?_); first | (refine stX hO 0 rfl rfl rfl rfl rfl (tS rfl) ?_; clear hO; intro ww hO) | (refine stC hO 0 rfl rfl rfl (ltb rfl) rfl (tS rfl) ?_; clear hO; intro ww hO) | (refine stX hO 1 rfl rfl rfl rfl rfl (tS rfl) ?_; clear hO; intro ww hO) | (refine stC hO 1 rfl rfl rfl (ltb rfl) rfl (tS rfl) ?_; clear hO; intro ww hO))
      | ((with_reducible refine gI ?_); refine wpI_step rfl rfl (by kernel_rfl) ?_; intro K hK; have HK := Lib.hid hK; clear hK) | ((with_reducible refine gI ?_); first | refine wpI_skip rfl ?_ | refine wpI_want rfl ?_) | ((with_reducible refine gOnlyK HK.out ?_ ?_); exact hO; clear HK K; first | (refine wpI_act (by simp only [Act.put, List.setIfInBounds_toArray, List.set_cons_succ, List.set_cons_zero]; rfl) ?_) | skip) | (with_reducible refine wpI_nil ?_))
    replace hO : Own w0 _ (.blk xb (.cells (Bt.C ⟨(a : Int), true⟩) 122 (0,0)) :: .blk wb (.cells (wC (.slice (some ⟨gP, 0, none⟩) n cP) u.low u.span kept many (.slice aO M cO)) 128 (0,0)) :: .sl 5 1 (.slice aO M cO) M (u8s s.out) :: .sl 3 1 (.slice (some ⟨gP, 0, none⟩) n cP) n (i64s s.p) :: L) := hO
    refine wp_region_textS (fun w' => Own w0 w' [.blk xb (.cells (Bt.C ⟨(a : Int), true⟩) 122 (0,0)), .blk wb (.cells (wC (.slice (some ⟨gP, 0, none⟩) n cP) u.low u.span kept many (.slice aO M cO)) 128 (0,0))]) (fun op => match op with | .load _ (.tmp 62) => false | .load _ _ => true | _ => false) (by kernel_rfl) (by kernel_rfl) hO.drew.take2 ?_
    replace hO := hO.drew
    generalize World.drew _ = wd2 at hO ⊢
    go_wp2_with (first
      | (((with_reducible refine gIL ?_); first | refine wpI_ldcS (fun w' hS => hS.blk 0 rfl) rfl rfl (tA rfl) rfl ?_ | refine wpI_ldcS (fun w' hS => hS.blk 1 rfl) rfl rfl (tA rfl) rfl ?_); first | (refine wpI_act (by simp only [Act.put, List.setIfInBounds_toArray, List.set_cons_succ, List.set_cons_zero]; rfl) ?_) | skip)
      | ((with_reducible refine gLoad (T := 3) ?_); refine ld_sl hO 3 rfl rfl HG.out (tA rfl) ?_)
      | (go_at_call 112; refine (HLN.out _).mono ?_; rintro e ww ⟨rfl, rfl⟩)
      | ((with_reducible refine gStore (T := 3) ?_); refine own_setElem hO 3 3 _ _ _ rfl rfl rfl (by omega) ii64s rfl ?_; clear hO; intro ww hO)
      | ((with_reducible refine gI ?_); refine wpI_step rfl rfl (by kernel_rfl) ?_; intro K hK; have HK := Lib.hid hK; clear hK) | ((with_reducible refine gI ?_); first | refine wpI_skip rfl ?_ | refine wpI_want rfl ?_) | ((with_reducible refine gOnlyK HK.out ?_ ?_); exact hO.take2; clear HK K; first | (refine wpI_act (by simp only [Act.put, List.setIfInBounds_toArray, List.set_cons_succ, List.set_cons_zero]; rfl) ?_) | skip) | (with_reducible refine wpI_nil ?_))
    replace hO : Own w0 _ (.blk xb (.cells (Bt.C ⟨(a : Int), true⟩) 122 (0,0)) :: .blk wb (.cells (wC (.slice (some ⟨gP, 0, none⟩) n cP) u.low u.span kept many (.slice aO M cO)) 128 (0,0)) :: .sl 5 1 (.slice aO M cO) M (u8s s.out) :: .sl 3 1 (.slice (some ⟨gP, 0, none⟩) n cP) n ((i64s s.p).set a (.int .i64 (learnI pv true))) :: L) := hO
    replace hO := hO.tail
    rw [HSET.out, ← HMK.out.1, ← HMK.out.2.1, ← HMK.out.2.2, ← HOUT.out] at hO
    have hk1 : u.kept < 256 := by rw [HMK.out.1]; exact hkept
    have hm1 : 1 ≤ u.many := by rw [HMK.out.2.1]; exact hmany
    have hm2 : u.out.length + u.many ≤ 10000000 := by rw [HMK.out.2.1, HOUT.out]; omega
    have hl1 : u.low < 8589934592 := by omega
    have HK1 := Lib.hid hk1
    have HK2 := Lib.hid hm1
    have HK3 := Lib.hid hm2
    have HK4 := Lib.hid hl1
    clear hk1 hm1 hm2 hl1 HMK HOUT HSET HT HG HLN HSP hkept hmany hbnd han q1 q2 q3 q4 q5 HM1 HM2 a1 a2 a3
    go_loopg [] 1 (fun m wr => (m = 1 ∧ u.span < 16777216 ∧ Own w0 wr (.blk wb (.cells (wC (.slice (some ⟨gP, 0, none⟩) n cP) u.low u.span u.kept u.many (.slice aO u.out.length cO)) 128 (0,0)) :: .sl 5 1 (.slice aO u.out.length cO) u.out.length (u8s u.out) :: .sl 3 1 (.slice (some ⟨gP, 0, none⟩) n cP) n (i64s u.p) :: L)) ∨
      (m ≤ 1 ∧ 16777216 ≤ t.span ∧ ∃ aJ cJ, Own w0 wr (.blk wb (.cells (wC (.slice (some ⟨gP, 0, none⟩) n cP) t.low t.span t.kept t.many (.slice aJ t.out.length cJ)) 128 (0,0)) :: .sl 5 1 (.slice aJ t.out.length cJ) t.out.length (u8s t.out) :: .sl 3 1 (.slice (some ⟨gP, 0, none⟩) n cP) n (i64s t.p) :: L)))
    case atStart =>
      by_cases hc : u.span < 16777216
      · exact .inl ⟨rfl, hc, hO⟩
      · obtain rfl : u = t := by rw [← HTN.out]; unfold Go.Kc.Ws.norm; rw [if_neg hc]
        exact .inr ⟨by omega, by omega, aO, cO, hO⟩
    case round =>
      rcases hrel with ⟨rfl, hc, hO1⟩ | ⟨hm, hc, aJ, cJ, hO1⟩
      · clear hO
        have hO := hO1
        clear hO1
        obtain ⟨z, hz⟩ : ∃ z, u.span * 256 = z := ⟨_, rfl⟩
        have b1 : IntKind.u32.wrap ((u.span : Int) * 256) = (z : Int) := by simp [IntKind.wrap, IntKind.bits, IntKind.signed]; omega
        have HZ : Hid (t = { u.move with span := z }) := by show _ = _; rw [← HTN.out, ← hz]; unfold Go.Kc.Ws.norm; rw [if_pos hc]
        have hz2 : 16777216 ≤ z := by omega
        have HP : Hid (u.move.p = u.p) := by show _ = _; unfold Go.Kc.Ws.move; split <;> rfl
        have HC := Lib.hid hc
        have HZ2 := Lib.hid hz2
        have d1 : decide ((u.span : Int) < 16777216) = true := decide_eq_true (by omega)
        clear hz hc hz2 q6 q7 q8
        go_wp2_with (first
          | ((with_reducible refine gLoad ?_); first | refine ldX hO 0 rfl rfl (tA rfl) (tS rfl) ?_ | refine ldC hO 0 rfl rfl (tA rfl) rfl ?_)
          | ((with_reducible refine gStore ?_); first | (refine stX hO 0 rfl rfl rfl rfl rfl (tS rfl) ?_; clear hO; intro ww hO) | (refine stC hO 0 rfl rfl rfl (ltb rfl) rfl (tS rfl) ?_; clear hO; intro ww hO))
          | (go_at_call 90; refine (move_calls rfl u hO HK4.out HK1.out HK2.out rfl HK3.out).mono ?_; rintro e ww ⟨a2, c2, rfl, hO2⟩; clear hO; have hO := hO2; clear hO2))
        go_roundg 0
        case measure => omega
        case rel =>
          right
          rw [HZ.out]
          refine ⟨by omega, HZ2.out, a2, c2, ?_⟩
          rw [← HP.out] at hO
          exact hO
      · clear hO
        have hO := hO1
        clear hO1
        have d1 : decide ((t.span : Int) < 16777216) = false := decide_eq_false (by omega)
        clear hc hm q6 q7 q8
        go_wp2_with (first
          | ((with_reducible refine gLoad ?_); first | refine ldX hO 0 rfl rfl (tA rfl) (tS rfl) ?_ | refine ldC hO 0 rfl rfl (tA rfl) rfl ?_)
          | ((with_reducible refine gStore ?_); first | (refine stX hO 0 rfl rfl rfl rfl rfl (tS rfl) ?_; clear hO; intro ww hO) | (refine stC hO 0 rfl rfl rfl (ltb rfl) rfl (tS rfl) ?_; clear hO; intro ww hO)))
        go_ret
        exact ⟨aJ, cJ, rfl, hO⟩
end Go.Proofs.YtniibdglodnhoaaGreatDoor

/- Walks: coder.Encode's closure, slices.IndexFunc and ContainsFunc of bits. -/
namespace Go.Own
open Go.RowKit Go.Opn
/-- a block of one cell can be read -/
theorem Own.rd1 {w0 w : World} {L : List Res} (hO : Own w0 w L) (i : Nat) {b : Nat} {v : Value} {T : TypeId} (hi : L[i]? = some (.blk b (.cells #[v] T (0,0)))) : Rd w 1 (some ⟨b, 0, none⟩) 1 1 [v] :=
  rd_of_cells rfl (Nat.le_refl _) (by simp [maxLen]) fun j hj => by
    obtain rfl : j = 0 := by omega
    exact cell_of_one (hO.blk i hi)
end Go.Own
namespace Go.Proofs.YtniibdglodnhoaaGreatDoor
open Go.RowKit Go.Own Go.Bv Go.Ord Go.Eq Go.Opn Go.Pb

def okI (n : Int) (x : Bt) : Bool := decide (0 ≤ x.at_) && decide (x.at_ < n)
set_option maxHeartbeats 1000000 in
set_option maxRecDepth 100000 in
theorem bad_calls (n : Int) (x : Bt) (nb : Nat) (w : World) (hR : Rd w 1 (some ⟨nb, 0, none⟩) 1 1 [.int .i64 n]) :
    Calls Tryz.prog 87 #[.agg x.C, .pointer (some ⟨nb, 0, none⟩)] w fun e w' => e = .returned (.bool (!okI n x)) ∧ Below w.heap.size w w' := by
  have hO := Own.start w
  obtain ⟨p, b⟩ := x
  have HR := Lib.hid hR
  clear hR
  have hg : ([.int .i64 n] : List Value)[0]? = some (.int .i64 n) := rfl
  have HG := Lib.hid hg
  clear hg
  generalize hW : w = wn at hO HR ⊢
  clear hW w
  by_cases h1 : p < 0
  · have e1 : decide (p < 0) = true := decide_eq_true h1
    have e : okI n ⟨p, b⟩ = false := by unfold okI; rw [decide_eq_false (by dsimp only; omega)]; rfl
    rw [e]
    clear e h1
    go_enter Tryz.func87, Tryz.ntmps87
    go_wp2_with (first
      | ((with_reducible refine gBox ?_); first | (refine bxA hO rfl ?_; clear hO; intro xb ww hO) | (refine bx1 hO rfl rfl ?_; clear hO; intro xb ww hO))
      | ((with_reducible refine gG ?_); refine wpList_want rfl ?_)
      | ((with_reducible refine gLoad ?_); first | refine ldX hO 0 rfl rfl (tA rfl) (tS rfl) ?_ | refine ldC hO 0 rfl rfl (tA rfl) rfl ?_))
    go_ret
    exact ⟨rfl, hO.below⟩
  · have e1 : decide (p < 0) = false := decide_eq_false h1
    by_cases h2 : n ≤ p
    · have e2 : decide (n ≤ p) = true := decide_eq_true h2
      have e : okI n ⟨p, b⟩ = false := by unfold okI; rw [decide_eq_false (p := p < n) (by omega), Bool.and_false]
      rw [e]
      clear e h1 h2
      go_enter Tryz.func87, Tryz.ntmps87
      go_wp2_with (first
        | ((with_reducible refine gBox ?_); first | (refine bxA hO rfl ?_; clear hO; intro xb ww hO) | (refine bx1 hO rfl rfl ?_; clear hO; intro xb ww hO))
        | ((with_reducible refine gG ?_); refine wpList_want rfl ?_)
        | ((with_reducible refine gLoad ?_); first | refine ldX hO 0 rfl rfl (tA rfl) (tS rfl) ?_ | refine ldC hO 0 rfl rfl (tA rfl) rfl ?_)
        | ((with_reducible refine gLoad ?_); refine ld_rd (hO.rd HR.out) rfl (HG.out) (tA rfl) ?_))
      go_ret
      exact ⟨rfl, hO.below⟩
    · have e2 : decide (n ≤ p) = false := decide_eq_false h2
      have e : okI n ⟨p, b⟩ = true := by unfold okI; rw [decide_eq_true (p := p < n) (by omega), decide_eq_true (p := 0 ≤ p) (by omega)]; rfl
      rw [e]
      clear e h1 h2
      go_enter Tryz.func87, Tryz.ntmps87
      go_wp2_with (first
        | ((with_reducible refine gBox ?_); first | (refine bxA hO rfl ?_; clear hO; intro xb ww hO) | (refine bx1 hO rfl rfl ?_; clear hO; intro xb ww hO))
        | ((with_reducible refine gG ?_); refine wpList_want rfl ?_)
        | ((with_reducible refine gLoad ?_); first | refine ldX hO 0 rfl rfl (tA rfl) (tS rfl) ?_ | refine ldC hO 0 rfl rfl (tA rfl) rfl ?_)
        | ((with_reducible refine gLoad ?_); refine ld_rd (hO.rd HR.out) rfl (HG.out) (tA rfl) ?_))
      go_ret
      exact ⟨rfl, hO.below⟩

theorem okI_hit {n : Int} {l : List Bt} {k : Nat} (hk : k < l.length) (h : okI n l[k] = false) : l.all (okI n) = false := by
  cases h2 : l.all (okI n) with
  | false => rfl
  | true =>
    rw [List.all_eq_true] at h2
    have := h2 l[k] (List.getElem_mem hk)
    rw [h] at this
    cases this
theorem okI_next {n : Int} {l : List Bt} {k : Nat} (hk : k < l.length) (h : (l.take k).all (okI n) = true) (h1 : okI n l[k] = true) : (l.take (k + 1)).all (okI n) = true := by
  rw [List.take_succ_eq_append_getElem hk, List.all_append, h]
  simp [h1]

set_option maxHeartbeats 1000000 in
set_option maxRecDepth 100000 in
theorem indexb_calls (a : Option Addr) (m cap : Nat) (l : List Bt) (n : Int) (nb : Nat) (w : World) (hR : Rd w 2 a m cap (bts l)) (hN : Rd w 1 (some ⟨nb, 0, none⟩) 1 1 [.int .i64 n]) :
    Calls Tryz.prog 110 #[.slice a m cap, .func (.func 87) #[] #[.pointer (some ⟨nb, 0, none⟩)]] w fun e w' => (∃ r : Int, e = .returned (.int .i64 r) ∧ decide (0 ≤ r) = !(l.all (okI n))) ∧ Below w.heap.size w w' := by
  have hO := Own.start w
  have hlen : l.length = m := by have := hR.len; rw [bts_length] at this; omega
  have hmax : m ≤ maxLen := Nat.le_trans hR.le hR.max
  unfold maxLen at hmax
  have HR := Lib.hid hR
  have HN0 := Lib.hid hN
  have HL := Lib.hid hlen
  clear hR hlen hN
  generalize hW : w = wn at hO HR HN0 ⊢
  clear hW w
  go_enter Tryz.func110, Tryz.ntmps110
  go_wp2
  go_loopg [8] m (fun r c wr => ∃ k : Nat, r = m - k ∧ k ≤ m ∧ c = .int .i64 k ∧ Hid ((l.take k).all (okI n) = true) ∧ Own wn wr [])
  case atStart => exact ⟨0, rfl, by omega, rfl, rfl, hO⟩
  case round =>
    obtain ⟨k, rfl, hk, rfl, HA, hO1⟩ := hrel
    clear hO
    have hO := hO1
    clear hO1
    by_cases hlt : k < m
    · have hb0 : decide ((k : Int) < (m : Int)) = true := by simp; omega
      have hkl : k < l.length := by rw [HL.out]; exact hlt
      obtain ⟨ba, off, rfl⟩ := HR.out.place (by omega)
      have HX := Lib.hid (List.getElem?_eq_getElem hkl)
      have HN : Hid (okI n l[k] = true → (l.take (k + 1)).all (okI n) = true) := fun h => okI_next hkl HA.out h
      have HB : Hid (okI n l[k] = false → l.all (okI n) = false) := fun h => okI_hit hkl h
      generalize l[k] = p at *
      cases hm : okI n p
      all_goals
        have HM := Lib.hid hm
        clear hm
        go_wp2_with (first
          | ((with_reducible refine gLoad (T := 122) ?_); refine ld_bt (hO.rd HR.out) HX.out rfl (by omega) (tA rfl) (tS rfl) ?_)
          | (go_at_call 87; refine (bad_calls n p nb _ (hO.rd HN0.out)).mono ?_; rw [HM.out]; rintro e w1 ⟨rfl, hb⟩; replace hO := hO.call hb; clear hb))
      · go_ret
        refine ⟨⟨_, rfl, ?_⟩, hO.below⟩
        rw [HB.out HM.out]
        simp
      · go_roundg (m - (k + 1))
        case measure => omega
        case rel => exact ⟨k + 1, rfl, by omega, by go_num, HN.out HM.out, hO⟩
    · obtain rfl : k = m := by omega
      go_wp2
      go_ret
      refine ⟨⟨_, rfl, ?_⟩, hO.below⟩
      have := HA.out
      rw [List.take_of_length_le (by rw [HL.out]; omega)] at this
      rw [this]
      rfl

set_option maxHeartbeats 1000000 in
theorem containsb_calls (a : Option Addr) (m cap : Nat) (l : List Bt) (n : Int) (nb : Nat) (w : World) (hR : Rd w 2 a m cap (bts l)) (hN : Rd w 1 (some ⟨nb, 0, none⟩) 1 1 [.int .i64 n]) :
    Calls Tryz.prog 88 #[.slice a m cap, .func (.func 87) #[] #[.pointer (some ⟨nb, 0, none⟩)]] w fun e w' => e = .returned (.bool (!(l.all (okI n)))) ∧ Below w.heap.size w w' := by
  have HR := Lib.hid hR
  have HN0 := Lib.hid hN
  clear hR hN
  go_enter Tryz.func88, Tryz.ntmps88
  go_wp2_with (go_at_call 110; refine (indexb_calls _ _ _ l n nb _ HR.out HN0.out).mono ?_; rintro e w1 ⟨⟨r, rfl, hr⟩, hb⟩; have HX := Lib.hid hr; have HBB := Lib.hid hb; clear hr hb)
  go_ret
  exact ⟨by rw [← HX.out]; rfl, HBB.out⟩
end Go.Proofs.YtniibdglodnhoaaGreatDoor

/- Walk: coder.Encode. -/
namespace Go.Kc
open Go.Pb
def prs (l : List Bt) : List (Nat × Bool) := l.map fun x => (x.at_.toNat, x.b)
theorem prs_length (l : List Bt) : (prs l).length = l.length := by simp [prs]
theorem prs_take (l : List Bt) (k : Nat) : prs (l.take k) = (prs l).take k := by unfold prs; rw [List.map_take]
theorem prs_next {l : List Bt} {k : Nat} (hk : k < l.length) : prs (l.take (k + 1)) = prs (l.take k) ++ [(l[k].at_.toNat, l[k].b)] := by
  unfold prs
  rw [List.take_succ_eq_append_getElem hk, List.map_append]; rfl
theorem ws_snoc (s : Ws) (l : List (Nat × Bool)) (x : Nat × Bool) : s.run (l ++ [x]) = (s.run l).step x.1 x.2 := by simp [Ws.run]
theorem holds_one {n : Nat} {l : List (Nat × Bool)} (hw : within n l) : Holds ((Ws.start n).run l) (enc n l).V (enc n l).k 1 := by
  have hw' : within (start n).p.length l := by rw [start_len]; exact hw
  have hsim := sim_run (sim_start n) (start_good n) hw'
  obtain ⟨f1, f2, f3, _⟩ := run_facts (start_good n) hw'
  obtain ⟨h1, h2, h3, h4, h5, h6⟩ := hsim.holds
  have hlo := f1.lo
  refine ⟨h1, h2, h3, h4, ?_, ?_⟩
  · exact Nat.le_trans (Nat.add_le_add_left (by omega) _) h5
  · omega
theorem within_take {n : Nat} {l : List (Nat × Bool)} (h : within n l) (k : Nat) : within n (l.take k) := fun x hx => h x (List.mem_of_mem_take hx)
/-- what the walk wants of each beginning -/
theorem run_all {n : Nat} {l : List (Nat × Bool)} (h : within n l) (hl : l.length ≤ 1048576) : Sim ((Ws.start n).run l) (enc n l) ∧ (enc n l).Good ∧ (enc n l).p.length = n ∧ ((Ws.start n).run l).p.length = n ∧ (enc n l).k ≤ 1000000 := by
  have hw' : within (start n).p.length l := by rw [start_len]; exact h
  have hsim := sim_run (sim_start n) (start_good n) hw'
  obtain ⟨f1, f2, f3, f4⟩ := enc_facts h
  refine ⟨hsim, f1, f3, ?_, by omega⟩
  rw [hsim.p]; exact f3
theorem mv_facts {n : Nat} {l : List (Nat × Bool)} (h : within n l) (hl : l.length ≤ 1048576) (j : Nat) (hj : j < 5) {t : Ws} (ht : Ws.moves j ((Ws.start n).run l) = t) : t.low < 8589934592 ∧ t.kept < 256 ∧ 1 ≤ t.many ∧ t.out.length + t.many ≤ 10000000 := by
  subst ht
  have hh := moves_holds (holds_one h) j
  obtain ⟨_, _, _, f4⟩ := enc_facts h
  have h1 := hh.low
  have h2 := hh.len
  exact ⟨by omega, hh.kept, hh.many, by omega⟩
end Go.Kc
namespace Go.Proofs.YtniibdglodnhoaaGreatDoor
open Go.RowKit Go.Own Go.Bv Go.Ord Go.Eq Go.Opn Go.Pb

theorem within_ok {n : Nat} {l : List Bt} (h : l.all (okI (n : Int)) = true) : Go.Kc.within n (Go.Kc.prs l) := by
  intro x hx
  unfold Go.Kc.prs at hx
  obtain ⟨y, hy, rfl⟩ := List.mem_map.1 hx
  have := List.all_eq_true.1 h y hy
  simp only [okI, Bool.and_eq_true, decide_eq_true_eq] at this
  dsimp only
  omega

set_option maxHeartbeats 4000000 in
set_option maxRecDepth 100000 in
theorem encode_ok (n : Nat) (hn : n ≤ 1024) (a : Option Addr) (m cap : Nat) (l : List Bt) (w : World) (hR : Rd w 2 a m cap (bts l)) (hm : m ≤ 1048576) (hl : l.all (okI (n : Int)) = true) (M : Nat) (T : List (BitVec 8)) (hT : Go.Kc.encT n (Go.Kc.prs l) = T) (hM : T.length = M) :
    Calls Tryz.prog 54 #[.int .i64 (n : Int), .slice a m cap] w fun e w' => ∃ a' c', e = .returned (.tuple #[.slice a' M c', .int .i64 0]) ∧ Below w.heap.size w w' ∧ w'.ownsRow w.heap.size 5 1 (.slice a' M c') M (u8s T) := by
  have hO := Own.start w
  have hlen : l.length = m := by have := hR.len; rw [bts_length] at this; omega
  have hnT : newT (n : Int) = List.replicate n 1024 := by unfold newT; rw [if_pos (by omega), Int.toNat_natCast]
  have hnE : newE (n : Int) = 0 := by unfold newE; rw [if_pos (by omega)]
  have HNEW := Lib.hid (fun w => new_calls (n : Int) w n (List.replicate n 1024) 0 (by rw [hnT, List.length_replicate]) hnT hnE)
  have hw := within_ok hl
  have HW := Lib.hid hw
  have HALL := Lib.hid hl
  have HLN := Lib.hid hlen
  have hT5 := Go.Kc.writes hw
  rw [hT] at hT5
  have HT5 := Lib.hid hT5
  have HTM := Lib.hid hM
  have HR := Lib.hid hR
  have hmx : ((1048576 : Int) < (m : Int)) = False := eq_false (by omega)
  have dmx : decide ((1048576 : Int) < (m : Int)) = false := decide_eq_false (by omega)
  clear hR hlen hnT hnE hw hl hT hM hT5 hmx
  generalize hWW : w = wn at hO HR ⊢
  clear hWW w
  go_enter Tryz.func54, Tryz.ntmps54
  go_wp2_with (first
    | ((with_reducible refine gBox ?_); first | (refine bxA hO rfl ?_; clear hO; intro xb ww hO) | (refine bx1 hO rfl rfl ?_; clear hO; intro xb ww hO))
    | ((with_reducible refine gLoad ?_); first | refine ldX hO 0 rfl rfl (tA rfl) (tS rfl) ?_ | refine ldC hO 0 rfl rfl (tA rfl) rfl ?_)
    | (go_at_call 86; refine (HNEW.out _).mono ?_; rintro e ww ⟨a1, c1, rfl, hb, hr⟩; replace hO := hO.addRow hb hr; clear hb hr)
    | (go_at_call 88; refine (containsb_calls _ _ _ l (n : Int) xb _ (hO.rd HR.out) (hO.rd1 1 rfl)).mono ?_; rw [HALL.out]; rintro e ww ⟨rfl, hb⟩; replace hO := hO.call hb; clear hb)
    | ((with_reducible refine gBld (T := 128) ?_); refine own_bld (wC (.slice a1 n c1) 0 4294967295 0 1 (.slice none 0 0)) (by kernel_rfl) ?_))
  have hO2 : Own wn _ [.blk xb (.cells (wC (.slice a1 n c1) 0 4294967295 0 1 (.slice none 0 0)) 128 (0,0)), .sl 5 1 (.slice none 0 0) 0 [], .sl 3 1 (.slice a1 n c1) n (i64s (List.replicate n 1024))] := (hO.take2.addRow (Below.refl _ _) (World.ownsRow_nil _ _ _ _)).swap
  clear hO
  have hO := hO2
  clear hO2
  go_loopg [36] m (fun r c wr => ∃ (k : Nat) (s : Go.Kc.Ws) (aO : Option Addr) (cO : Nat), r = m - k ∧ k ≤ m ∧ c = .int .i64 k ∧ Hid ((Go.Kc.Ws.start n).run (Go.Kc.prs (l.take k)) = s) ∧
    Own wn wr [.blk xb (.cells (wC (.slice a1 n c1) s.low s.span s.kept s.many (.slice aO s.out.length cO)) 128 (0,0)), .sl 5 1 (.slice aO s.out.length cO) s.out.length (u8s s.out), .sl 3 1 (.slice a1 n c1) n (i64s s.p)])
  case atStart => exact ⟨0, Go.Kc.Ws.start n, none, 0, rfl, by omega, rfl, rfl, hO⟩
  case round =>
    obtain ⟨k, s, aO, cO, rfl, hk, rfl, HS, hO1⟩ := hrel
    clear hO
    have hO := hO1
    clear hO1
    by_cases hlt : k < m
    · have hb0 : decide ((k : Int) < (m : Int)) = true := by simp; omega
      have hkl : k < l.length := by rw [HLN.out]; exact hlt
      obtain ⟨ba, off, rfl⟩ := HR.out.place (by omega)
      have hx := List.getElem?_eq_getElem hkl
      have hok := List.all_eq_true.1 HALL.out _ (List.getElem_mem hkl)
      have hnx := Go.Kc.prs_next hkl
      generalize l[k] = x at hx hok hnx
      obtain ⟨pos, b⟩ := x
      simp only [okI, Bool.and_eq_true, decide_eq_true_eq] at hok
      obtain ⟨p, rfl⟩ : ∃ p : Nat, pos = (p : Int) := ⟨pos.toNat, by omega⟩
      have hpn : p < n := by omega
      have hra := Go.Kc.run_all (n := n) (l := Go.Kc.prs (l.take k)) (by rw [Go.Kc.prs_take]; exact Go.Kc.within_take HW.out k) (by rw [Go.Kc.prs_length, List.length_take]; omega)
      rw [HS.out] at hra
      have hst : (Go.Kc.Ws.start n).run (Go.Kc.prs (l.take (k + 1))) = s.step p b := by
        rw [hnx, Go.Kc.ws_snoc, HS.out, Int.toNat_natCast]
      obtain ⟨t, ht⟩ : ∃ t, s.step p b = t := ⟨_, rfl⟩
      rw [ht] at hst
      have HX := Lib.hid hx
      have HRA := Lib.hid hra
      have HST := Lib.hid hst
      have HTT := Lib.hid ht
      have HPN := Lib.hid hpn
      clear hx hok hnx hra hst ht hpn
      go_wp2_with (first
        | ((with_reducible refine gAlloc (T := 122) ?_); refine own_alloc hO _ _ ibtz ?_; clear hO; intro bx ww hO)
        | ((with_reducible refine gLoad (T := 122) ?_); refine ld_bt (hO.rd HR.out) HX.out rfl (by omega) (tA rfl) (tS rfl) ?_)
        | ((with_reducible refine gLoad ?_); first | refine ldX hO 0 rfl rfl (tA rfl) (tS rfl) ?_ | refine ldC hO 0 rfl rfl (tA rfl) rfl ?_)
        | ((with_reducible refine gStore ?_); first | (refine stX hO 0 rfl rfl rfl rfl rfl (tS rfl) ?_; clear hO; intro ww hO) | (refine stC hO 0 rfl rfl rfl (ltb rfl) rfl (tS rfl) ?_; clear hO; intro ww hO))
        | (go_at_call 89; refine (put_calls s _ HRA.out.1 HRA.out.2.1 p b (by rw [HRA.out.2.2.1]; exact HPN.out) HRA.out.2.2.2.2 HRA.out.2.2.2.1.symm t HTT.out hO.tail).mono ?_; rintro e ww ⟨a2, c2, rfl, hO2⟩; clear hO; have hO := hO2; clear hO2))
      go_roundg (m - (k + 1))
      case measure => omega
      case rel => exact ⟨k + 1, t, a2, c2, rfl, by omega, by go_num, HST, hO⟩
    · obtain rfl : k = m := by omega
      have HS2 : Hid ((Go.Kc.Ws.start n).run (Go.Kc.prs l) = s) := by
        have h := HS.out
        rw [List.take_of_length_le (by rw [HLN.out]; omega)] at h
        exact h
      clear HS
      have hmv : ∀ j, j < 5 → ∀ t, Go.Kc.Ws.moves j s = t → t.low < 8589934592 ∧ t.kept < 256 ∧ 1 ≤ t.many ∧ t.out.length + t.many ≤ 10000000 := fun j hj t ht =>
        Go.Kc.mv_facts HW.out (by rw [Go.Kc.prs_length, HLN.out]; exact hm) j hj (by rw [HS2.out]; exact ht)
      have HMV := Lib.hid hmv
      rw [HS2.out] at HT5
      clear hmv HS2
      go_wp2
      go_loopg [47] 5 (fun r c wr => ∃ (j : Nat) (t : Go.Kc.Ws) (aO : Option Addr) (cO : Nat), r = 5 - j ∧ j ≤ 5 ∧ c = .int .i64 j ∧ Hid (Go.Kc.Ws.moves j s = t) ∧
        Own wn wr [.blk xb (.cells (wC (.slice a1 n c1) t.low t.span t.kept t.many (.slice aO t.out.length cO)) 128 (0,0)), .sl 5 1 (.slice aO t.out.length cO) t.out.length (u8s t.out), .sl 3 1 (.slice a1 n c1) n (i64s s.p)])
      case atStart => exact ⟨0, s, aO, cO, rfl, by omega, rfl, rfl, hO⟩
      case round =>
        obtain ⟨j, t, aO, cO, rfl, hj, rfl, HJ, hO1⟩ := hrel
        clear hO
        have hO := hO1
        clear hO1
        by_cases hj5 : j < 5
        · have hb0 : decide ((j : Int) < 5) = true := decide_eq_true (by omega)
          have hf := HMV.out j hj5 t HJ.out
          have HF := Lib.hid hf
          have HN2 : Hid (Go.Kc.Ws.moves (j + 1) s = t.move) := by
            show Go.Kc.Ws.move _ = _
            rw [HJ.out]
          have HSP : Hid (t.move.span = t.span) := by show _ = _; unfold Go.Kc.Ws.move; split <;> rfl
          clear hf
          go_wp2_with (first
            | (go_at_call 90; refine (move_calls rfl t hO HF.out.1 HF.out.2.1 HF.out.2.2.1 rfl HF.out.2.2.2).mono ?_; rintro e ww ⟨a2, c2, rfl, hO2⟩; clear hO; have hO := hO2; clear hO2))
          go_roundg (5 - (j + 1))
          case measure => omega
          case rel => exact ⟨j + 1, t.move, a2, c2, rfl, by omega, by go_num, HN2, by rw [HSP.out]; exact hO⟩
        · obtain rfl : j = 5 := by omega
          have HTT : Hid (t.out = T) := by show _ = _; rw [← HT5.out, HJ.out]
          rw [HTT.out, HTM.out] at hO
          go_wp2_with (first
            | ((with_reducible refine gLoad ?_); first | refine ldX hO 0 rfl rfl (tA rfl) (tS rfl) ?_ | refine ldC hO 0 rfl rfl (tA rfl) rfl ?_))
          go_ret2
          exact ⟨aO, cO, rfl, hO.below, hO.row 1 rfl⟩
end Go.Proofs.YtniibdglodnhoaaGreatDoor

/- Walk: coder.Encode, whatever it is given; live. -/
namespace Go.Proofs.YtniibdglodnhoaaGreatDoor
open Go.RowKit Go.Own Go.Bv Go.Ord Go.Eq Go.Opn Go.Pb

def encE (x : Int) (l : List Bt) : Int := if 0 ≤ x ∧ x ≤ 1024 then (if l.length ≤ 1048576 then (if l.all (okI x) then 0 else 4) else 3) else 1
def encO (x : Int) (l : List Bt) : List (BitVec 8) := if encE x l = 0 then Go.Kc.encT x.toNat (Go.Kc.prs l) else []

end Go.Proofs.YtniibdglodnhoaaGreatDoor

/- Walk: live of the coder's laws; cells of bits; SameBytes. -/
namespace Go.Own
open Go.RowKit Go.Bv Go.Ord Go.Eq
section
variable {P : Program} {ops : Array Oper} {Q : Exit → Act → World → Prop} {a : Act} {w : World} {rest : List Oper}
variable {d : Option Tmp} {ty : TypeId} {pos : String} {aft : Array Edge}
end
end Go.Own
namespace Go.Proofs.YtniibdglodnhoaaGreatDoor
open Go.RowKit Go.Own Go.Bv Go.Ord Go.Eq Go.Opn Go.Pb

end Go.Proofs.YtniibdglodnhoaaGreatDoor

/- Tokens as bits, plain. No program in sight. -/
namespace Go.Pz
open Go.Pb Go.Mt

/-- a number's bits by a tree: N is the number with a one ahead of its bits; the last k of them -/
def numT (N tree : Nat) : Nat → List Bt
  | 0 => []
  | k + 1 => ⟨((tree + N / 2 ^ (k + 1) : Nat) : Int), decide (N / 2 ^ k % 2 = 1)⟩ :: numT N tree k
theorem numT_length (N tree : Nat) : ∀ k, (numT N tree k).length = k
  | 0 => rfl
  | k + 1 => by simp [numT, numT_length N tree k]
theorem numT_at {N tree w : Nat} (hN : N < 2 ^ (w + 1)) (hN2 : 2 ^ w ≤ N) : ∀ k, k ≤ w → ∀ x ∈ numT N tree k, (tree : Int) + 1 ≤ x.at_ ∧ x.at_ < (tree : Int) + 2 ^ w
  | 0, _, x, hx => by cases hx
  | k + 1, hk, x, hx => by
    rcases List.mem_cons.1 hx with rfl | hx
    · have h1 : N / 2 ^ (k + 1) < 2 ^ w := by
        rw [Nat.div_lt_iff_lt_mul (Nat.pow_pos (by decide)), ← Nat.pow_add]
        exact Nat.lt_of_lt_of_le hN (Nat.pow_le_pow_right (by decide) (by omega))
      have h2 : 1 ≤ N / 2 ^ (k + 1) := by
        rw [Nat.le_div_iff_mul_le (Nat.pow_pos (by decide)), Nat.one_mul]
        exact Nat.le_trans (Nat.pow_le_pow_right (by decide) hk) hN2
      dsimp only
      refine ⟨by omega, ?_⟩
      have : ((N / 2 ^ (k + 1) : Nat) : Int) < ((2 ^ w : Nat) : Int) := by exact_mod_cast h1
      push_cast at this ⊢
      omega
    · exact numT_at hN hN2 k (by omega) x hx
def bitsOf (t : Tok) : List Bt := if t.len = 0 then ⟨0, false⟩ :: numT (256 + t.lit.toNat) 0 8 else ⟨0, true⟩ :: (numT (16 + (t.len - 3).toNat) 256 4 ++ numT (256 + (t.dist - 1).toNat) 272 8)
def bitsAll (l : List Tok) : List Bt := l.flatMap bitsOf
theorem bitsAll_append (l r : List Tok) : bitsAll (l ++ r) = bitsAll l ++ bitsAll r := by simp [bitsAll]
theorem bitsAll_next {l : List Tok} {k : Nat} (h : k < l.length) : bitsAll (l.take (k + 1)) = bitsAll (l.take k) ++ bitsOf l[k] := by
  rw [take_succ' h, bitsAll_append]; simp [bitsAll]
theorem bitsOf_length (t : Tok) : (bitsOf t).length = if t.len = 0 then 9 else 13 := by
  unfold bitsOf
  split
  · rw [List.length_cons, numT_length]
  · rw [List.length_cons, List.length_append, numT_length, numT_length]
theorem bitsAll_length_le (l : List Tok) : (bitsAll l).length ≤ 13 * l.length := by
  induction l with
  | nil => simp [bitsAll]
  | cons t r ih =>
    have : bitsAll (t :: r) = bitsOf t ++ bitsAll r := by simp [bitsAll]
    rw [this, List.length_append, bitsOf_length, List.length_cons]
    split <;> omega
/-! ### the length ahead -/
def le4 (n : Nat) : List (BitVec 8) := [BitVec.ofNat 8 n, BitVec.ofNat 8 (n / 256), BitVec.ofNat 8 (n / 65536), BitVec.ofNat 8 (n / 16777216)]
def packT (b : List (BitVec 8)) : List (BitVec 8) := le4 b.length ++ Go.Kc.encT 528 (Go.Kc.prs (bitsAll (tokens b)))
def lg4 (b : List (BitVec 8)) : Nat := (b.getD 0 0).toNat + 256 * (b.getD 1 0).toNat + 65536 * (b.getD 2 0).toNat + 16777216 * (b.getD 3 0).toNat
def longE (b : List (BitVec 8)) : Int := if b.length < 9 then 2 else if 65536 < lg4 b then 2 else 0
def longV (b : List (BitVec 8)) : Nat := if b.length < 9 then 0 else if 65536 < lg4 b then 0 else lg4 b
theorem or_i64 (a b s : Nat) (ha : a < 2 ^ s) (hs : s ≤ 24) (hb : b < 256) : Go.bits .or .i64 (a : Int) ((b * 2 ^ s : Nat) : Int) = ((a + b * 2 ^ s : Nat) : Int) := by
  have hp : 2 ^ s ≤ 16777216 := Nat.le_trans (Nat.pow_le_pow_right (by decide) hs) (by decide)
  have hbs : b * 2 ^ s ≤ 256 * 16777216 := Nat.mul_le_mul (by omega) hp
  have h1 : (BitVec.ofInt 64 (a : Int)).toNat = a := by
    rw [BitVec.ofInt_natCast, BitVec.toNat_ofNat]; exact Nat.mod_eq_of_lt (by omega)
  have h2 : (BitVec.ofInt 64 ((b * 2 ^ s : Nat) : Int)).toNat = b * 2 ^ s := by
    rw [BitVec.ofInt_natCast, BitVec.toNat_ofNat]; exact Nat.mod_eq_of_lt (by omega)
  show IntKind.i64.wrap ((BitVec.ofInt 64 (a : Int) ||| BitVec.ofInt 64 ((b * 2 ^ s : Nat) : Int)).toNat : Int) = _
  rw [BitVec.toNat_or, h1, h2, ← Nat.shiftLeft_eq, Nat.or_comm, ← Nat.shiftLeft_add_eq_or_of_lt ha, Nat.shiftLeft_eq, IntKind.wrap_i64]
  omega
theorem bits_within {m : Nat} : ∀ {l : List Tok}, okFrom m l → ∀ x ∈ bitsAll l, 0 ≤ x.at_ ∧ x.at_ < 528 := by
  intro l
  induction l generalizing m with
  | nil => intro _ x hx; simp [bitsAll] at hx
  | cons t r ih =>
    intro h x hx
    have e : bitsAll (t :: r) = bitsOf t ++ bitsAll r := by simp [bitsAll]
    rw [e] at hx
    rcases List.mem_append.1 hx with hx | hx
    · have ht := h.1
      unfold bitsOf at hx
      split at hx
      · rcases List.mem_cons.1 hx with rfl | hx
        · exact ⟨by decide, by decide⟩
        · have hl := t.lit.isLt
          have := numT_at (N := 256 + t.lit.toNat) (tree := 0) (w := 8) (by omega) (by omega) 8 (by omega) x hx
          have e8 : ((2 : Int) ^ 8) = 256 := by decide
          omega
      · rename_i h0
        have hk : 3 ≤ t.len ∧ t.len ≤ 18 ∧ 1 ≤ t.dist ∧ t.dist ≤ 256 := by
          unfold Tok.ok at ht; omega
        rcases List.mem_cons.1 hx with rfl | hx
        · exact ⟨by decide, by decide⟩
        · rcases List.mem_append.1 hx with hx | hx
          · have := numT_at (N := 16 + (t.len - 3).toNat) (tree := 256) (w := 4) (by omega) (by omega) 4 (by omega) x hx
            have e8 : ((2 : Int) ^ 4) = 16 := by decide
            omega
          · have := numT_at (N := 256 + (t.dist - 1).toNat) (tree := 272) (w := 8) (by omega) (by omega) 8 (by omega) x hx
            have e8 : ((2 : Int) ^ 8) = 256 := by decide
            omega
    · exact ih h.2 x hx
theorem and1_i64 (a : Nat) (ha : a < 9223372036854775808) : Go.bits .and .i64 (a : Int) 1 = ((a % 2 : Nat) : Int) := by
  have h1 : (BitVec.ofInt 64 (a : Int)).toNat = a := by
    rw [BitVec.ofInt_natCast, BitVec.toNat_ofNat]; exact Nat.mod_eq_of_lt (by omega)
  show IntKind.i64.wrap ((BitVec.ofInt 64 (a : Int) &&& BitVec.ofInt 64 1).toNat : Int) = _
  rw [BitVec.toNat_and, h1, show (BitVec.ofInt 64 1).toNat = 1 from rfl, Nat.and_one_is_mod, IntKind.wrap_i64]
  omega
theorem or1_i64 (a b : Nat) (ha : a < 1000000000) (hb : b < 2) : Go.bits .or .i64 ((a : Int) * 2) (b : Int) = ((a * 2 + b : Nat) : Int) := by
  have h1 : (BitVec.ofInt 64 ((a * 2 : Nat) : Int)).toNat = a * 2 := by
    rw [BitVec.ofInt_natCast, BitVec.toNat_ofNat]; exact Nat.mod_eq_of_lt (by omega)
  have h2 : (BitVec.ofInt 64 (b : Int)).toNat = b := by
    rw [BitVec.ofInt_natCast, BitVec.toNat_ofNat]; exact Nat.mod_eq_of_lt (by omega)
  rw [show ((a : Int) * 2) = ((a * 2 : Nat) : Int) by omega]
  show IntKind.i64.wrap ((BitVec.ofInt 64 ((a * 2 : Nat) : Int) ||| BitVec.ofInt 64 (b : Int)).toNat : Int) = _
  rw [BitVec.toNat_or, h1, h2, show a * 2 = a <<< 1 by rw [Nat.shiftLeft_eq], ← Nat.shiftLeft_add_eq_or_of_lt (by omega), Nat.shiftLeft_eq, IntKind.wrap_i64]
  omega
theorem node_next (N k : Nat) : N / 2 ^ (k + 1) * 2 + N / 2 ^ k % 2 = N / 2 ^ k := by
  rw [Nat.pow_succ, ← Nat.div_div_eq_div_mul]; omega
theorem bit_same {N n w k : Nat} (h : 2 ^ w + n = N) (hk : k < w) : n / 2 ^ k % 2 = N / 2 ^ k % 2 := by
  obtain ⟨j, rfl⟩ : ∃ j, w = k + (j + 1) := ⟨w - k - 1, by omega⟩
  rw [← h, Nat.pow_add, Nat.mul_comm, Nat.add_comm, Nat.add_mul_div_right _ _ (Nat.pow_pos (by decide)), Nat.pow_succ]
  omega
end Go.Pz

/- The reader: what holds of it all along; what is read of a text by a list of places. No program in sight. -/
namespace Go.Kc
structure Rok (n : Nat) (b : List (BitVec 8)) (r : Rr) : Prop where
  len : r.p.length = n
  may : r.p.all mayB = true
  lo : 16777216 ≤ r.span
  hi : r.span < 4294967296
  code : r.code < r.span
  used : r.used ≤ b.length
theorem rok_open {n : Nat} {b : List (BitVec 8)} (h : mayOpen b) : Rok n b (open_ n b) := by
  obtain ⟨h1, _, h3⟩ := h
  have hv := val_lt ((b.drop 1).take 4)
  have hl : ((b.drop 1).take 4).length = 4 := by simp; omega
  rw [hl] at hv
  refine ⟨by simp [open_], by simp only [open_]; rw [List.all_replicate]; simp [mayB], by simp only [open_]; decide, by simp only [open_]; decide, ?_, h1⟩
  show val ((b.drop 1).take 4) < 4294967295
  have h4 : (256 : Nat) ^ 4 = 4294967296 := by decide
  rw [h4] at hv
  generalize val ((b.drop 1).take 4) = v at *
  omega
theorem rok_part {n : Nat} {b : List (BitVec 8)} {r : Rr} (h : Rok n b r) {a : Nat} (ha : a < n) : 253952 ≤ r.part a ∧ r.part a + 253952 ≤ r.span := by
  have g : Rc.Good ⟨r.p, 0, r.span, 0⟩ := ⟨h.may, h.lo, h.hi⟩
  obtain ⟨b1, b2, _⟩ := part_bounds g (a := a) (by rw [show (Rc.mk r.p 0 r.span 0).p = r.p from rfl, h.len]; exact ha)
  exact ⟨b1, b2⟩
theorem rok_mid {n : Nat} {b : List (BitVec 8)} {r : Rr} (h : Rok n b r) {a : Nat} (ha : a < n) : (r.mid a).code < (r.mid a).span ∧ 253952 ≤ (r.mid a).span ∧ (r.mid a).span < 4294967296 ∧ (r.mid a).p.length = n ∧ (r.mid a).p.all mayB = true := by
  obtain ⟨b1, b2⟩ := rok_part h ha
  have h1 := h.code
  have h2 := h.hi
  refine ⟨?_, ?_, ?_, by simp only [Rr.mid, List.length_set]; exact h.len, ?_⟩
  · simp only [Rr.mid]
    cases hs : r.set a
    · have := of_decide_eq_false hs
      simp; omega
    · have := of_decide_eq_true hs
      simp; omega
  · simp only [Rr.mid]; cases r.set a <;> simp <;> omega
  · simp only [Rr.mid]; cases r.set a <;> simp <;> omega
  · exact all_set h.may (may_learn _ (all_get h.may (by rw [h.len]; exact ha)))
theorem rok_next {n : Nat} {b : List (BitVec 8)} {r : Rr} (h : Rok n b r) {a : Nat} (ha : a < n) (hm : r.may b a) : Rok n b (r.next b a) := by
  obtain ⟨m1, m2, m3, m4, m5⟩ := rok_mid h ha
  have hu := h.used
  have hmu : (r.mid a).used = r.used := rfl
  unfold Rr.next Rr.norm
  split
  · rename_i hlt
    have hlen := hm hlt
    have hx := (b.getD r.used 0).isLt
    refine ⟨m4, m5, by dsimp only; omega, by dsimp only; omega, ?_, by dsimp only; omega⟩
    dsimp only
    rw [hmu]
    generalize (b.getD r.used 0).toNat = x at *
    omega
  · exact ⟨m4, m5, by omega, m3, m1, by rw [hmu]; exact hu⟩

theorem may_iff {r : Rr} {b : List (BitVec 8)} {a : Nat} : r.may b a ↔ ¬ ((r.mid a).span < 16777216 ∧ b.length ≤ r.used) := by
  unfold Rr.may
  constructor
  · rintro h ⟨h1, h2⟩
    have := h h1
    omega
  · intro h h1
    by_cases h2 : r.used < b.length
    · exact h2
    · exact absurd ⟨h1, by omega⟩ h
end Go.Kc

/- The coder, plain: what is read of any text by any list of places; the document's writer. No program in sight. -/
namespace Go.Kc
/-- why a place is not read (0: it is) -/
def nxtE (n : Nat) (b : List (BitVec 8)) (r : Rr) (x : Int) : Int :=
  if 0 ≤ x ∧ x < (n : Int) then (if (r.mid x.toNat).span < 16777216 ∧ b.length ≤ r.used then 2 else 0) else 4
structure Rs where
  q : List Bool
  r : Rr
  e : Int
def Rs.step (n : Nat) (b : List (BitVec 8)) (s : Rs) (x : Int) : Rs :=
  if s.e = 0 then (if nxtE n b s.r x = 0 then ⟨s.q ++ [s.r.set x.toNat], s.r.next b x.toNat, 0⟩ else ⟨s.q, s.r, nxtE n b s.r x⟩) else s
theorem nxtE_ok {n : Nat} {b : List (BitVec 8)} {r : Rr} {x : Int} (h : nxtE n b r x = 0) : ∃ a : Nat, x = (a : Int) ∧ a < n ∧ r.may b a := by
  unfold nxtE at h
  split at h
  · rename_i h1
    split at h
    · cases h
    · rename_i h2
      refine ⟨x.toNat, by omega, by omega, ?_⟩
      rw [may_iff]; exact h2
  · cases h
theorem nxtE_cases (n : Nat) (b : List (BitVec 8)) (r : Rr) (x : Int) : (nxtE n b r x = 0) ∨ (nxtE n b r x = 2 ∧ ∃ a : Nat, x = (a : Int) ∧ a < n ∧ ¬ r.may b a) ∨ (nxtE n b r x = 4 ∧ (x < 0 ∨ (n : Int) ≤ x)) := by
  unfold nxtE
  split
  · rename_i h1
    split
    · rename_i h2
      exact .inr (.inl ⟨rfl, x.toNat, by omega, by omega, by rw [may_iff]; exact fun h => h h2⟩)
    · exact .inl rfl
  · exact .inr (.inr ⟨rfl, by omega⟩)
instance (b : List (BitVec 8)) : Decidable (mayOpen b) := by unfold mayOpen; infer_instance
/-- why a text is not begun to be read -/
def opE (x : Int) (b : List (BitVec 8)) : Int := if 0 ≤ x ∧ x ≤ 1024 then (if mayOpen b then 0 else 2) else 1
theorem opE_ok {x : Int} {b : List (BitVec 8)} (h : opE x b = 0) : ∃ n : Nat, x = (n : Int) ∧ n ≤ 1024 ∧ mayOpen b := by
  unfold opE at h
  split at h
  · split at h
    · exact ⟨x.toNat, by omega, by omega, by assumption⟩
    · cases h
  · cases h

/-! ### the document's writer -/
/-- one more -/
theorem val_zeros (l : List (BitVec 8)) (j : Nat) : val (l ++ List.replicate j 0#8) = val l * 256 ^ j := by
  induction j with
  | zero => simp
  | succ j ih =>
    rw [List.replicate_succ', ← List.append_assoc, val_snoc, ih, Nat.pow_succ]
    simp only [BitVec.toNat_ofNat, Nat.zero_mod, Nat.add_zero]
    rw [Nat.mul_comm 256, Nat.mul_assoc]
/-- what the loop keeps: j octets at the end are 0 already -/
theorem more_hit {b : List (BitVec 8)} {n j : Nat} (hn : b.length = n) (hj : j < n) (h : val b + 1 = (val (b.take (n - j)) + 1) * 256 ^ j) (hx : (b[n - j - 1]'(by omega)).toNat < 255) :
    b.take (n - j - 1) ++ [b[n - j - 1]'(by omega) + 1#8] ++ List.replicate j 0#8 = be n (val b + 1) := by
  have e1 : (b.take (n - j - 1) ++ [b[n - j - 1]'(by omega) + 1#8] ++ List.replicate j 0#8).length = n := by simp; omega
  have e2 : val (b.take (n - j - 1) ++ [b[n - j - 1]'(by omega) + 1#8] ++ List.replicate j 0#8) = val b + 1 := by
    rw [val_zeros, h]
    congr 1
    have e : n - j = (n - j - 1) + 1 := by omega
    conv => rhs; rw [e, List.take_succ_eq_append_getElem (by omega), val_snoc]
    rw [val_snoc, BitVec.toNat_add, Nat.mod_eq_of_lt (by simp; omega)]
    simp; omega
  have e3 := be_val (b.take (n - j - 1) ++ [b[n - j - 1]'(by omega) + 1#8] ++ List.replicate j 0#8)
  rw [e1, e2] at e3
  exact e3.symm
theorem more_miss {b : List (BitVec 8)} {n j : Nat} (hn : b.length = n) (hj : j < n) (h : val b + 1 = (val (b.take (n - j)) + 1) * 256 ^ j) (hx : ¬ (b[n - j - 1]'(by omega)).toNat < 255) :
    val b + 1 = (val (b.take (n - (j + 1))) + 1) * 256 ^ (j + 1) := by
  rw [h]
  have e : n - j = (n - j - 1) + 1 := by omega
  rw [e, List.take_succ_eq_append_getElem (by omega), val_snoc]
  have := (b[n - j - 1]'(by omega)).isLt
  have hx2 : (b[n - j - 1]'(by omega)).toNat = 255 := by omega
  rw [hx2, Nat.pow_succ, show n - (j + 1) = n - j - 1 by omega]
  rw [Nat.mul_comm (256 ^ j) 256, ← Nat.mul_assoc]
  congr 1
  omega
theorem more_end {b : List (BitVec 8)} {n : Nat} (hn : b.length = n) (h : val b + 1 = (val (b.take (n - n)) + 1) * 256 ^ n) : List.replicate n 0#8 = be n (val b + 1) := by
  rw [Nat.sub_self, List.take_zero] at h
  have : val ([] : List (BitVec 8)) = 0 := rfl
  rw [this, Nat.zero_add, Nat.one_mul] at h
  rw [h]
  have e := be_mod n (256 ^ n)
  rw [Nat.mod_self] at e
  rw [← e]
  have h2 := be_val (List.replicate n 0#8)
  have h3 : val (List.replicate n 0#8) = 0 := by
    have := val_zeros [] n
    rw [List.nil_append] at this
    rw [this]; exact Nat.zero_mul _
  rw [List.length_replicate, h3] at h2
  exact h2.symm
theorem rc_room {n : Nat} {l : List (Nat × Bool)} (hw : within n l) : (enc n l).V + (enc n l).span ≤ 4294967296 * 256 ^ (enc n l).k := by
  have hw' : within (Kc.start n).p.length l := by rw [start_len]; exact hw
  obtain ⟨_, h2, _⟩ := run_facts (start_good n) hw'
  have h := h2.hi
  have e1 : (Kc.start n).k = 0 := rfl
  have e2 : (Kc.start n).V = 0 := rfl
  have e3 : (Kc.start n).span = 4294967295 := rfl
  rw [e1, e2, e3, Nat.sub_zero] at h
  exact Nat.le_trans h (Nat.mul_le_mul_right _ (by omega))
/-- an octet more behind a text -/
theorem be_more (k V : Nat) : be (1 + k) (V / 4294967296) ++ [BitVec.ofNat 8 (V % 4294967296 / 16777216)] = be (1 + (k + 1)) (V * 256 / 4294967296) := by
  have e : 1 + (k + 1) = (1 + k) + 1 := by omega
  rw [e, be]
  have e1 : V * 256 / 4294967296 / 256 = V / 4294967296 := by omega
  rw [e1]
  congr 2
  apply BitVec.eq_of_toNat_eq
  rw [BitVec.toNat_ofNat, BitVec.toNat_ofNat, show 2 ^ 8 = 256 from rfl]
  omega
end Go.Kc

/- Unpacking, plain. No program in sight. -/
namespace Go.Pz
open Go.Pb Go.Mt Go.Kc

structure Us where
  r : Rr
  bad : Bool
def ub (b : List (BitVec 8)) (s : Us) (a : Nat) : Bool × Us :=
  if s.bad then (false, s) else if nxtE 528 b s.r (a : Int) = 0 then (s.r.set a, ⟨s.r.next b a, false⟩) else (false, ⟨s.r, true⟩)
def un (b : List (BitVec 8)) (tree : Nat) : Nat → Nat → Us → Nat × Us
  | 0, node, s => (node, s)
  | k + 1, node, s => un b tree k (node * 2 + (ub b s (tree + node)).1.toNat) (ub b s (tree + node)).2
def utok (b : List (BitVec 8)) (s : Us) (out : List (BitVec 8)) (most : Nat) : Us × List (BitVec 8) :=
  let x := ub b s 0
  if x.1 = false then
    let y := un b 0 8 1 x.2
    (y.2, out ++ [BitVec.ofNat 8 (y.1 - 256)])
  else
    let y := un b 256 4 1 x.2
    let z := un b 272 8 1 y.2
    if out.length < z.1 - 256 + 1 ∨ most - out.length < y.1 - 16 + 3 then (⟨z.2.r, true⟩, out) else (z.2, again (z.1 - 256 + 1) (y.1 - 16 + 3) out)
def uloop (b : List (BitVec 8)) (n : Nat) : Nat → Us → List (BitVec 8) → Us × List (BitVec 8)
  | 0, s, out => (s, out)
  | f + 1, s, out => if s.bad = false ∧ out.length < n then uloop b n f (utok b s out n).1 (utok b s out n).2 else (s, out)
/-- why octets are not unpacked -/
def unE (b : List (BitVec 8)) (most : Int) : Int :=
  if most < 0 then 1 else if longE b ≠ 0 then longE b else if most < (longV b : Int) then 3 else if opE 528 (b.drop 4) ≠ 0 then 2 else
    if (uloop (b.drop 4) (longV b) (longV b) ⟨open_ 528 (b.drop 4), false⟩ []).1.bad = true ∨ (uloop (b.drop 4) (longV b) (longV b) ⟨open_ 528 (b.drop 4), false⟩ []).1.r.used ≠ b.length - 4 then 2 else 0
def unT (b : List (BitVec 8)) (most : Int) : List (BitVec 8) := if unE b most = 0 then (uloop (b.drop 4) (longV b) (longV b) ⟨open_ 528 (b.drop 4), false⟩ []).2 else []

theorem ub_rok {b : List (BitVec 8)} {s : Us} (h : Rok 528 b s.r) (a : Nat) : Rok 528 b (ub b s a).2.r := by
  unfold ub
  split
  · exact h
  · split
    · rename_i h0
      obtain ⟨k, e, hk, hm⟩ := nxtE_ok h0
      obtain rfl : a = k := by omega
      exact rok_next h hk hm
    · exact h
theorem un_rok {b : List (BitVec 8)} {tree : Nat} : ∀ (k node : Nat) {s : Us}, Rok 528 b s.r → Rok 528 b (un b tree k node s).2.r
  | 0, _, _, h => h
  | k + 1, _, _, h => un_rok k _ (ub_rok h _)
theorem un_lt {b : List (BitVec 8)} {tree : Nat} : ∀ (k node : Nat) (s : Us), node * 2 ^ k ≤ (un b tree k node s).1 ∧ (un b tree k node s).1 < (node + 1) * 2 ^ k
  | 0, node, s => by simp [un]
  | k + 1, node, s => by
    have ih := un_lt (b := b) (tree := tree) k (node * 2 + (ub b s (tree + node)).1.toNat) (ub b s (tree + node)).2
    have hb : (ub b s (tree + node)).1.toNat ≤ 1 := by cases (ub b s (tree + node)).1 <;> simp
    show _ ≤ (un b tree k _ _).1 ∧ (un b tree k _ _).1 < _
    generalize (un b tree k (node * 2 + (ub b s (tree + node)).1.toNat) (ub b s (tree + node)).2).1 = v at *
    generalize (ub b s (tree + node)).1.toNat = t at *
    rw [Nat.pow_succ]
    generalize 2 ^ k = p at *
    obtain ⟨i1, i2⟩ := ih
    constructor
    · refine Nat.le_trans ?_ i1
      rw [← Nat.mul_assoc, Nat.mul_right_comm]
      exact Nat.mul_le_mul_right _ (by omega)
    · refine Nat.lt_of_lt_of_le i2 ?_
      rw [show (node + 1) * (p * 2) = ((node + 1) * 2) * p by rw [← Nat.mul_assoc, Nat.mul_right_comm]]
      exact Nat.mul_le_mul_right _ (by omega)
theorem utok_rok {b : List (BitVec 8)} {s : Us} (h : Rok 528 b s.r) (out : List (BitVec 8)) (most : Nat) : Rok 528 b (utok b s out most).1.r := by
  unfold utok
  have h1 := ub_rok h 0
  dsimp only
  split
  · exact un_rok _ _ h1
  · split
    · exact un_rok _ _ (un_rok _ _ h1)
    · exact un_rok _ _ (un_rok _ _ h1)
/-- a token that is not refused adds something, and no more than is let -/
theorem utok_len {b : List (BitVec 8)} {s : Us} {out : List (BitVec 8)} {most : Nat} (hl : out.length < most) :
    (utok b s out most).2.length ≤ most ∧ ((utok b s out most).1.bad = false → out.length < (utok b s out most).2.length) ∧ out.length ≤ (utok b s out most).2.length := by
  unfold utok
  dsimp only
  split
  · simp; omega
  · split
    · dsimp only; exact ⟨by omega, fun h => by simp at h, Nat.le_refl _⟩
    · rename_i h
      rw [again_length]
      omega
theorem uloop_end {b : List (BitVec 8)} {n : Nat} : ∀ (f : Nat) (s : Us) (out : List (BitVec 8)), out.length ≤ n → n ≤ out.length + f →
    ((uloop b n f s out).1.bad = true ∨ (uloop b n f s out).2.length = n) ∧ (uloop b n f s out).2.length ≤ n
  | 0, s, out, h1, h2 => ⟨.inr (by show out.length = n; omega), h1⟩
  | f + 1, s, out, h1, h2 => by
    unfold uloop
    split
    · rename_i h
      obtain ⟨l1, l2, l3⟩ := utok_len (b := b) (s := s) h.2
      by_cases hb : (utok b s out n).1.bad = false
      · exact uloop_end f _ _ l1 (by have := l2 hb; omega)
      · have hb' : (utok b s out n).1.bad = true := by simpa using hb
        have e : uloop b n f (utok b s out n).1 (utok b s out n).2 = ((utok b s out n).1, (utok b s out n).2) := by
          cases f with
          | zero => rfl
          | succ f => unfold uloop; rw [if_neg (by rw [hb']; simp)]
        rw [e]
        exact ⟨.inl hb', l1⟩
    · rename_i h
      refine ⟨?_, h1⟩
      by_cases hb : s.bad = true
      · exact .inl hb
      · refine .inr ?_
        have : s.bad = false := by simpa using hb
        have h2 : ¬ out.length < n := fun h' => h ⟨this, h'⟩
        show out.length = n
        omega
theorem uloop_stop {b : List (BitVec 8)} {n : Nat} {s : Us} {out : List (BitVec 8)} (h : s.bad = true ∨ n ≤ out.length) : ∀ f, uloop b n f s out = (s, out)
  | 0 => rfl
  | f + 1 => by
    unfold uloop
    rw [if_neg]
    rintro ⟨h1, h2⟩
    rcases h with h | h
    · rw [h1] at h; cases h
    · omega
theorem unT_facts (b : List (BitVec 8)) (most : Int) : (unE b most = 0 → longE b = 0 ∧ (unT b most).length = longV b ∧ (longV b : Int) ≤ most ∧ 0 ≤ most) ∧
    (unE b most ≠ 0 → unT b most = [] ∧ (unE b most = 2 ∨ unE b most = 3 ∧ longE b = 0 ∧ most < (longV b : Int) ∨ unE b most = 1 ∧ most < 0)) := by
  have hlE : longE b = 0 ∨ longE b = 2 := by unfold longE; split; exact .inr rfl; split; exact .inr rfl; exact .inl rfl
  constructor
  · intro h
    have hT : unT b most = (uloop (b.drop 4) (longV b) (longV b) ⟨open_ 528 (b.drop 4), false⟩ []).2 := by unfold unT; rw [if_pos h]
    unfold unE at h
    split at h
    · cases h
    · rename_i h1
      split at h
      · rename_i h2; exact absurd h h2
      · rename_i h2
        split at h
        · cases h
        · rename_i h3
          split at h
          · cases h
          · split at h
            · cases h
            · rename_i h5
              obtain ⟨e1, _⟩ := uloop_end (b := b.drop 4) (longV b) ⟨open_ 528 (b.drop 4), false⟩ [] (n := longV b) (by simp) (by simp)
              refine ⟨by simpa using h2, ?_, by omega, by omega⟩
              rw [hT]
              exact e1.resolve_left fun hb => h5 (.inl hb)
  · intro h
    refine ⟨by unfold unT; rw [if_neg h], ?_⟩
    unfold unE at h ⊢
    split
    · exact .inr (.inr ⟨rfl, by assumption⟩)
    · split
      · rename_i h2; exact .inl (hlE.resolve_left h2)
      · rename_i h2
        split
        · exact .inr (.inl ⟨rfl, by simpa using h2, by assumption⟩)
        · split
          · exact .inl rfl
          · split
            · exact .inl rfl
            · rename_i h1 h3 h4 h5
              rw [if_neg h1, if_neg h2, if_neg h3, if_neg h4, if_neg h5] at h
              exact absurd rfl h
end Go.Pz

/- What was packed is unpacked. No program in sight. -/
namespace Go.Kc
def ends (b : List (BitVec 8)) (r : Rr) (l : List (Nat × Bool)) : Rr := rdN b r (l.map Prod.fst)
end Go.Kc
namespace Go.Pz
open Go.Pb Go.Mt Go.Kc

end Go.Pz

/- What Unpack says of what was packed. No program in sight. -/
namespace Go.Pz
open Go.Pb Go.Mt Go.Kc

theorem within_toks {m : Nat} {l : List Tok} (h : okFrom m l) : within 528 (prs (bitsAll l)) := by
  intro x hx
  unfold prs at hx
  obtain ⟨y, hy, rfl⟩ := List.mem_map.1 hx
  have := bits_within h y hy
  dsimp only
  omega
/-- what is known of a packed text -/
structure Packed (bs : List (BitVec 8)) (n : Nat) (L : List Tok) (B : List (Nat × Bool)) : Prop where
  toks : tokens bs = L
  len : bs.length = n
  bits : prs (bitsAll L) = B
  ok : okFrom 0 L
  told : told L = n
  text : text L = bs
  few : L.length ≤ n
  wit : within 528 B
theorem packed (bs : List (BitVec 8)) : Packed bs bs.length (tokens bs) (prs (bitsAll (tokens bs))) := by
  obtain ⟨s1, s2, s3⟩ := tokens_spec bs
  have := told_bounds 0 _ s1
  exact ⟨rfl, rfl, rfl, s1, s2, s3, by omega, within_toks s1⟩
end Go.Pz

/- A text absorbed, octets squeezed out. No program in sight. -/
namespace Go.Proofs.YtniibdglodnhoaaGreatDoor
open Go.RowKit Go.Own Go.Bv Go.Eq

/-- what is at a place of a text, its end and zeros behind it -/
def byteAt (b : List (BitVec 8)) (j : Nat) : BitVec 8 := if j < b.length then b.getD j 0 else if j = b.length then 128 else 0
theorem byteAt_lt {b : List (BitVec 8)} {j : Nat} (h : j < b.length) : byteAt b j = b[j] := by
  unfold byteAt; rw [if_pos h]; simp [h]
theorem byteAt_eq (b : List (BitVec 8)) : byteAt b b.length = 128 := by simp [byteAt]
theorem byteAt_gt {b : List (BitVec 8)} {j : Nat} (h : b.length < j) : byteAt b j = 0 := by
  unfold byteAt; rw [if_neg (by omega), if_neg (by omega)]
namespace St
/-- one octet taken in, the k'th of eight -/
def xput (s : St) (k : Nat) (c : BitVec 8) : St :=
  if k < 4 then { s with a := s.a ^^^ c.setWidth 32 <<< (k % 4 * 8) } else { s with b := s.b ^^^ c.setWidth 32 <<< (k % 4 * 8) }
/-- so many of eight octets from a place on -/
def mixK (s : St) (b : List (BitVec 8)) (at_ : Nat) : Nat → St
  | 0 => s
  | k + 1 => (mixK s b at_ k).xput k (byteAt b (at_ + k))
def mixAt (s : St) (b : List (BitVec 8)) (at_ : Nat) : St := mixK s b at_ 8
theorem mixAt_eq (s : St) (b : List (BitVec 8)) (p : Nat) : mixAt s b p =
    { s with a := s.a ^^^ of4 (byteAt b p) (byteAt b (p + 1)) (byteAt b (p + 2)) (byteAt b (p + 3)), b := s.b ^^^ of4 (byteAt b (p + 4)) (byteAt b (p + 5)) (byteAt b (p + 6)) (byteAt b (p + 7)) } := by
  have key : ∀ (v : BitVec 32) (x y z t : BitVec 8), (((v ^^^ x.setWidth 32 <<< 0) ^^^ y.setWidth 32 <<< 8) ^^^ z.setWidth 32 <<< 16) ^^^ t.setWidth 32 <<< 24 = v ^^^ of4 x y z t := by
    intro v x y z t
    unfold of4
    apply BitVec.eq_of_getLsbD_eq
    intro i hi
    simp only [BitVec.getLsbD_xor, BitVec.getLsbD_setWidth, BitVec.getLsbD_or, BitVec.getLsbD_shiftLeft, hi, decide_true, Bool.true_and]
    have e : ∀ (u : BitVec 8) (j : Nat), 8 ≤ j → u.getLsbD j = false := fun u j hj => BitVec.getLsbD_of_ge u j hj
    by_cases h1 : i < 8
    · simp [h1, show i < 16 by omega, show i < 24 by omega, hi]
    · by_cases h2 : i < 16
      · simp [h1, h2, e x i (by omega), show i < 24 by omega, show i - 8 < 32 by omega, hi]
      · by_cases h3 : i < 24
        · simp [h1, h2, h3, e x i (by omega), e y (i - 8) (by omega), hi, show i - 16 < 32 by omega]
        · simp [h1, h2, h3, e x i (by omega), e y (i - 8) (by omega), e z (i - 16) (by omega), hi]
  simp only [mixAt, mixK, xput]
  simp only [show (0 : Nat) < 4 from by decide, show (1 : Nat) < 4 from by decide, show (2 : Nat) < 4 from by decide, show (3 : Nat) < 4 from by decide, show ¬ (4 : Nat) < 4 from by decide, show ¬ (5 : Nat) < 4 from by decide, show ¬ (6 : Nat) < 4 from by decide, show ¬ (7 : Nat) < 4 from by decide, if_true, if_false]
  have k1 := key s.a (byteAt b (p + 0)) (byteAt b (p + 1)) (byteAt b (p + 2)) (byteAt b (p + 3))
  have k2 := key s.b (byteAt b (p + 4)) (byteAt b (p + 5)) (byteAt b (p + 6)) (byteAt b (p + 7))
  simp only [Nat.reduceMod, Nat.reduceMul] at k1 k2 ⊢
  simp only [Nat.add_zero] at k1 k2 ⊢
  rw [k1, k2]

/-- so many blocks absorbed -/
def absK (s : St) (b : List (BitVec 8)) : Nat → St
  | 0 => s
  | k + 1 => (mixAt (absK s b k) b (8 * k)).perm
def absorb (s : St) (b : List (BitVec 8)) : St := absK s b (b.length / 8 + 1)

/-- permuted so often -/
def permN : Nat → St → St
  | 0, s => s
  | k + 1, s => (permN k s).perm
/-- what comes of so many eights -/
def sqK (s : St) : Nat → List (BitVec 8)
  | 0 => []
  | k + 1 => sqK s k ++ (octs4 (permN k s).a ++ octs4 (permN k s).b)
theorem sqK_length (s : St) : ∀ k, (sqK s k).length = 8 * k
  | 0 => rfl
  | k + 1 => by simp [sqK, sqK_length s k, octs4_length]; omega
theorem sqK_add (s : St) (k j : Nat) : ∃ r, sqK s (k + j) = sqK s k ++ r := by
  induction j with
  | zero => exact ⟨[], by simp⟩
  | succ j ih =>
    obtain ⟨r, hr⟩ := ih
    exact ⟨r ++ (octs4 (permN (k + j) s).a ++ octs4 (permN (k + j) s).b), by show sqK s (k + j) ++ (octs4 (permN (k + j) s).a ++ octs4 (permN (k + j) s).b) = _; rw [hr, List.append_assoc]⟩
def squeeze (s : St) (n : Nat) : List (BitVec 8) := (sqK s ((n + 7) / 8)).take n
theorem squeeze_length (s : St) (n : Nat) : (squeeze s n).length = n := by
  unfold squeeze; rw [List.length_take, sqK_length]; omega
theorem squeeze_of (s : St) {n k : Nat} (h : n ≤ 8 * k) : squeeze s n = (sqK s k).take n := by
  unfold squeeze
  obtain ⟨r, hr⟩ := sqK_add s ((n + 7) / 8) (k - (n + 7) / 8)
  rw [show (n + 7) / 8 + (k - (n + 7) / 8) = k by omega] at hr
  rw [hr, List.take_append_of_le_length (by rw [sqK_length]; omega)]
theorem squeeze_take (s : St) (n m : Nat) : (squeeze s (n + m)).take n = squeeze s n := by
  rw [squeeze_of s (n := n) (k := (n + m + 7) / 8) (by omega)]
  unfold squeeze
  rw [List.take_take, Nat.min_eq_left (by omega)]
end St
end Go.Proofs.YtniibdglodnhoaaGreatDoor

/- Sealed texts: a number's octets, the stream, the tag. No program in sight. -/
namespace Go.Proofs.YtniibdglodnhoaaGreatDoor
open Go.RowKit Go.Own Go.Bv Go.Eq

def eight (n : BitVec 64) : List (BitVec 8) := [n.setWidth 8, (n >>> 8).setWidth 8, (n >>> 16).setWidth 8, (n >>> 24).setWidth 8, (n >>> 32).setWidth 8, (n >>> 40).setWidth 8, (n >>> 48).setWidth 8, (n >>> 56).setWidth 8]
theorem eight_length (n : BitVec 64) : (eight n).length = 8 := rfl
theorem eight_get (n : BitVec 64) (k : Nat) (hk : k < 8) : (u8s (eight n))[k]? = some (.int .u8 ((n.toNat : Int) / ((2 ^ (8 * k) : Nat) : Int) % 256)) := by
  obtain rfl | rfl | rfl | rfl | rfl | rfl | rfl | rfl : k = 0 ∨ k = 1 ∨ k = 2 ∨ k = 3 ∨ k = 4 ∨ k = 5 ∨ k = 6 ∨ k = 7 := by omega
  all_goals simp [u8s, eight, Nat.shiftRight_eq_div_pow]
namespace St
def stream (k : St) (n : BitVec 64) (long : Nat) : List (BitVec 8) := (k.absorb (eight n ++ [1#8])).squeeze long
def tag (k : St) (n : BitVec 64) (t : List (BitVec 8)) : St := k.absorb ((eight n ++ [2#8]) ++ t)
def xors (a b : List (BitVec 8)) : List (BitVec 8) := List.zipWith (· ^^^ ·) a b
def hide (k : St) (n : BitVec 64) (b : List (BitVec 8)) : List (BitVec 8) := xors b (k.stream n b.length)
theorem stream_length (k : St) (n : BitVec 64) (long : Nat) : (k.stream n long).length = long := squeeze_length _ _
theorem hide_length (k : St) (n : BitVec 64) (b : List (BitVec 8)) : (k.hide n b).length = b.length := by
  unfold hide xors
  rw [List.length_zipWith, stream_length]; omega
theorem stream_take (k : St) (n : BitVec 64) (m more : Nat) : (k.stream n (m + more)).take m = k.stream n m := squeeze_take _ _ _
theorem hide_get {k : St} {n : BitVec 64} {b : List (BitVec 8)} {i : Nat} (more : Nat) (h : i < b.length) : (k.hide n b)[i]? = some (b[i] ^^^ ((k.stream n (b.length + more))[i]'(by rw [stream_length]; omega))) := by
  have e : (k.stream n b.length)[i]'(by rw [stream_length]; exact h) = (k.stream n (b.length + more))[i]'(by rw [stream_length]; omega) := by
    have := congrArg (·[i]?) (stream_take k n b.length more)
    simp only [List.getElem?_take_of_lt h] at this
    rw [List.getElem?_eq_getElem (by rw [stream_length]; omega), List.getElem?_eq_getElem (by rw [stream_length]; exact h)] at this
    exact (Option.some.inj this).symm
  unfold hide xors
  rw [List.getElem?_zipWith, List.getElem?_eq_getElem h, List.getElem?_eq_getElem (by rw [stream_length]; exact h), ← e]
end St
/-- how a ring, and a box, lie in memory -/
def ringC (s : St) (n : BitVec 64) : Array Value := #[.int .u32 (s.a.toNat : Int), .int .u32 (s.b.toNat : Int), .int .u32 (s.c.toNat : Int), .int .u32 (s.d.toNat : Int), .int .u64 (n.toNat : Int)]
def boxC (n : BitVec 64) (v : Value) (s : St) : Array Value := #[.int .u64 (n.toNat : Int), v, .int .u32 (s.a.toNat : Int), .int .u32 (s.b.toNat : Int), .int .u32 (s.c.toNat : Int), .int .u32 (s.d.toNat : Int)]
end Go.Proofs.YtniibdglodnhoaaGreatDoor

/- A number of eight octets, the lowest one first. No program in sight. Arms on u64 as bit vectors. -/
namespace Go.Proofs.YtniibdglodnhoaaGreatDoor
open Go.RowKit Go.Own Go.Bv Go.Eq

def num (bs : List (BitVec 8)) : Nat → BitVec 64
  | 0 => 0#64
  | k + 1 => num bs k ||| ((bs.getD k 0#8).setWidth 64 <<< (8 * k))
def numN (bs : List (BitVec 8)) : Nat → Nat
  | 0 => 0
  | k + 1 => numN bs k + 2 ^ (8 * k) * (bs.getD k 0#8).toNat
theorem numN_lt (bs : List (BitVec 8)) : ∀ k, numN bs k < 2 ^ (8 * k)
  | 0 => by simp [numN]
  | k + 1 => by
    have h := numN_lt bs k
    have hx : (bs.getD k 0#8).toNat ≤ 255 := by have := (bs.getD k 0#8).isLt; omega
    have h2 : 2 ^ (8 * k) * (bs.getD k 0#8).toNat ≤ 2 ^ (8 * k) * 255 := Nat.mul_le_mul_left _ hx
    have e : 2 ^ (8 * (k + 1)) = 2 ^ (8 * k) * 256 := by rw [Nat.mul_succ, Nat.pow_add]
    rw [e]
    show numN bs k + 2 ^ (8 * k) * (bs.getD k 0#8).toNat < _
    omega
theorem num_nat (bs : List (BitVec 8)) : ∀ k, k ≤ 8 → (num bs k).toNat = numN bs k
  | 0, _ => rfl
  | k + 1, hk => by
    have h := num_nat bs k (by omega)
    have hl := numN_lt bs k
    show (num bs k ||| ((bs.getD k 0#8).setWidth 64 <<< (8 * k))).toNat = numN bs k + 2 ^ (8 * k) * (bs.getD k 0#8).toNat
    have hx : (bs.getD k 0#8).toNat < 256 := (bs.getD k 0#8).isLt
    generalize (bs.getD k 0#8) = x at *
    have hp : 2 ^ (8 * k) ≤ 2 ^ 56 := Nat.pow_le_pow_right (by omega) (by omega)
    have h3 : 2 ^ (8 * k) * x.toNat ≤ 2 ^ (8 * k) * 255 := Nat.mul_le_mul_left _ (by omega)
    rw [BitVec.toNat_or, BitVec.toNat_shiftLeft, BitVec.toNat_setWidth, h, Nat.mod_eq_of_lt (show x.toNat < 2 ^ 64 by omega), Nat.shiftLeft_eq, Nat.mul_comm x.toNat, Nat.mod_eq_of_lt (by omega), Nat.or_comm, Nat.mul_comm, ← Nat.shiftLeft_eq, ← Nat.shiftLeft_add_eq_or_of_lt hl, Nat.add_comm]
end Go.Proofs.YtniibdglodnhoaaGreatDoor
namespace Go.Bva
open Go.RowKit Go.Bv
section
variable {P : Program} {ops : Array Oper} {Q : Exit → Act → World → Prop} {a : Act} {w : World} {rest : List Oper}
variable {d : Option Tmp} {ty : TypeId} {pos : String} {aft : Array Edge}
def bor64 (u v : BitVec 64) : BitVec 64 := u ||| v
def bshl64 (u : BitVec 64) (n : Nat) : BitVec 64 := u <<< n
def bw64 (u : BitVec 8) : BitVec 64 := u.setWidth 64
theorem or_u64 {t yt : TypeId} {x y : Operand} {u v : BitVec 64} (hx : a.eval x = .int .u64 (u.toNat : Int)) (hy : a.eval y = .int .u64 (v.toNat : Int))
    (h : wpList P ops Q rest (a.put d (.int .u64 ((bor64 u v).toNat : Int))) w) : wpList P ops Q ({ dst := d, op := .binOp .or t x y yt, type := ty, pos := pos, after := aft, guard := none } :: rest) a w := by
  unfold bor64 at h
  refine step_val ?_ h
  simp only [execOp, hx, hy]
  simp [go_sem, binOp, eqGuard, Op.intArith, or64]
theorem shl_u64 {t yt : TypeId} {x y : Operand} {u : BitVec 64} {k : IntKind} {n : Nat} (hx : a.eval x = .int .u64 (u.toNat : Int)) (hy : a.eval y = .int k (n : Int)) (hn : n < 64)
    (h : wpList P ops Q rest (a.put d (.int .u64 ((bshl64 u n).toNat : Int))) w) : wpList P ops Q ({ dst := d, op := .binOp .shl t x y yt, type := ty, pos := pos, after := aft, guard := none } :: rest) a w := by
  unfold bshl64 at h
  refine step_val ?_ h
  simp only [execOp, hx, hy]
  have h0 : ¬ ((n : Int) < 0) := by omega
  have hm : min n 64 = n := by omega
  have e : ∀ z : Int, IntKind.u64.wrap z = z % 18446744073709551616 := fun z => by simp [IntKind.wrap, IntKind.bits, IntKind.signed]
  simp [go_sem, binOp, eqGuard, Op.shift, e, Nat.shiftLeft_eq, hm, h0]
theorem cnv_8_64 {s t : TypeId} {x : Operand} {u : BitVec 8} (hs : P.underlying s = some (.int .u8)) (ht : P.underlying t = some (.int .u64)) (hx : a.eval x = .int .u8 (u.toNat : Int))
    (h : wpList P ops Q rest (a.put d (.int .u64 ((bw64 u).toNat : Int))) w) : wpList P ops Q ({ dst := d, op := .convert s t x, type := ty, pos := pos, after := aft, guard := none } :: rest) a w := by
  unfold bw64 at h
  refine step_val ?_ h
  have e : IntKind.u64.wrap (u.toNat : Int) = ((u.setWidth 64).toNat : Int) := by
    have e : ∀ z : Int, IntKind.u64.wrap z = z % 18446744073709551616 := fun z => by simp [IntKind.wrap, IntKind.bits, IntKind.signed]
    rw [e, BitVec.toNat_setWidth]; have := u.isLt; omega
  simp only [execOp, hx]
  have hc : (convert s t (.int IntKind.u8 (u.toNat : Int))).run P w = .ok (.int IntKind.u64 (IntKind.u64.wrap (u.toNat : Int))) w := by simp [convert, run_underlying hs, run_underlying ht, Conv.intToInt]
  simp [hc, e]
end
end Go.Bva

/- What is sealed, and what is opened of octets. Plain. No program in sight. -/
namespace Go.Pz
open Go.Pb Go.Mt Go.Kc
theorem bits_told {m : Nat} : ∀ {l : List Tok}, okFrom m l → (bitsAll l).length ≤ 9 * told l := by
  intro l
  induction l generalizing m with
  | nil => intro _; simp [bitsAll]
  | cons t r ih =>
    intro h
    have e : bitsAll (t :: r) = bitsOf t ++ bitsAll r := by simp [bitsAll]
    have := ih h.2
    have ht := h.1
    rw [e, List.length_append, bitsOf_length, told_cons]
    unfold Tok.ok at ht
    unfold Tok.size
    split <;> omega
theorem pack_length (b : List (BitVec 8)) : 9 ≤ (packT b).length ∧ (packT b).length ≤ 16 + 9 * b.length := by
  obtain ⟨s1, s2, _⟩ := tokens_spec b
  have h1 := bits_told s1
  obtain ⟨_, _, _, h4⟩ := enc_facts (within_toks s1)
  rw [prs_length] at h4
  unfold packT
  rw [List.length_append, encT_length]
  show _ ≤ 4 + (5 + _) ∧ 4 + (5 + _) ≤ _
  omega
end Go.Pz
namespace Go.Proofs.YtniibdglodnhoaaGreatDoor
open Go.RowKit Go.Own Go.Bv Go.Eq

def boxT (key : St) (n : BitVec 64) (b : List (BitVec 8)) : List (BitVec 8) := eight n ++ (key.tag n (key.hide n (Go.Pz.packT b))).octs ++ key.hide n (Go.Pz.packT b)
def sealT (key : St) (n : BitVec 64) (b : List (BitVec 8)) : List (BitVec 8) := boxT key n b ++ octs4 (Crc.sum (boxT key n b))
/-- why octets are no box of this key -/
def unboxE (key : St) (t : List (BitVec 8)) : Int :=
  if t.length < 24 then 2 else if 65560 < t.length then 3 else if St.of ((t.drop 8).take 16) = key.tag (num t 8) (t.drop 24) then 0 else 8
def unboxT (key : St) (t : List (BitVec 8)) : List (BitVec 8) := if unboxE key t = 0 then key.hide (num t 8) (t.drop 24) else []
/-- why octets are not opened -/
def soE (key : St) (b : List (BitVec 8)) : Int :=
  if 131072 < b.length then 3 else if openE b ≠ 0 then openE b else if unboxE key (openT b) ≠ 0 then unboxE key (openT b) else Go.Pz.unE (unboxT key (openT b)) 65536
def soT (key : St) (b : List (BitVec 8)) : List (BitVec 8) := if soE key b = 0 then Go.Pz.unT (unboxT key (openT b)) 65536 else []

theorem boxT_length (key : St) (n : BitVec 64) (b : List (BitVec 8)) : (boxT key n b).length = 24 + (Go.Pz.packT b).length := by
  unfold boxT
  rw [List.length_append, List.length_append, eight_length, St.octs_length, St.hide_length]
theorem sealT_length (key : St) (n : BitVec 64) (b : List (BitVec 8)) : (sealT key n b).length = 28 + (Go.Pz.packT b).length := by
  unfold sealT
  rw [List.length_append, boxT_length, octs4_length]
  omega
end Go.Proofs.YtniibdglodnhoaaGreatDoor

/- A text with its end behind it, in eights. No program in sight. -/
namespace Go.Proofs.YtniibdglodnhoaaGreatDoor
open Go.RowKit Go.Own Go.Bv Go.Eq

def padK (b : List (BitVec 8)) (i : Nat) : List (BitVec 8) := (b ++ [128#8]) ++ List.replicate i 0#8
theorem padK_succ (b : List (BitVec 8)) (i : Nat) : padK b (i + 1) = padK b i ++ [0#8] := by
  unfold padK
  rw [List.replicate_succ', ← List.append_assoc]
theorem padK_zero (b : List (BitVec 8)) : padK b 0 = b ++ [128#8] := by simp [padK]
theorem padK_get (b : List (BitVec 8)) (i j : Nat) (h : j < b.length + 1 + i) : (padK b i)[j]? = some (byteAt b j) := by
  unfold padK byteAt
  by_cases h1 : j < b.length
  · rw [List.getElem?_append_left (by simp; omega), List.getElem?_append_left h1, if_pos h1]
    simp [h1]
  · rw [if_neg h1]
    by_cases h2 : j = b.length
    · subst h2
      rw [List.getElem?_append_left (by simp), if_pos rfl]
      simp
    · rw [List.getElem?_append_right (by simp; omega), List.getElem?_replicate]
      rw [if_pos (by simp; omega), if_neg h2]; rfl
theorem padK_four (b : List (BitVec 8)) (i p : Nat) (h : p + 4 ≤ b.length + 1 + i) : ((u8s (padK b i)).drop p).take 4 = u8s [byteAt b p, byteAt b (p + 1), byteAt b (p + 2), byteAt b (p + 3)] := by
  rw [← u8s_drop, ← u8s_take]
  congr 1
  apply List.ext_getElem?
  intro k
  rw [List.getElem?_take, List.getElem?_drop]
  by_cases hk : k < 4
  · rw [if_pos hk, padK_get b i (p + k) (by omega)]
    obtain rfl | rfl | rfl | rfl : k = 0 ∨ k = 1 ∨ k = 2 ∨ k = 3 := by omega
    all_goals rfl
  · rw [if_neg hk]
    symm
    exact List.getElem?_eq_none (by simp; omega)
namespace St
/-- half a block mixed in, and the other half -/
def mixA (s : St) (b : List (BitVec 8)) (p : Nat) : St := ⟨Go.Bva.bxor s.a (of4 (byteAt b p) (byteAt b (p + 1)) (byteAt b (p + 2)) (byteAt b (p + 3))), s.b, s.c, s.d⟩
def mixB (s : St) (b : List (BitVec 8)) (p : Nat) : St := ⟨s.a, Go.Bva.bxor s.b (of4 (byteAt b (p + 4)) (byteAt b (p + 5)) (byteAt b (p + 6)) (byteAt b (p + 7))), s.c, s.d⟩
theorem mix_halves (s : St) (b : List (BitVec 8)) (p : Nat) : mixAt s b p = (s.mixA b p).mixB b p := mixAt_eq s b p
end St
end Go.Proofs.YtniibdglodnhoaaGreatDoor
