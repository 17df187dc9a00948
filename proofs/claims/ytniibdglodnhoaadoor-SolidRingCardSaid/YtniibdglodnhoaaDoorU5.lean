/- Of several texts of this claim, one behind the other: Kr Ks Ku Ki Zu Zt Zw Kb Kc Kcc Kk Sb POctEq VEq. -/
import Derived.Test.YtniibdglodnhoaaDoorU4
import Derived.Lib.AppendZeros
import Derived.Lib.LazyBuf
import Derived.Test.YtniibdglodnhoaaDoorP

/- Walks: the reader's octet, slices.Clone of octets, NewReader. -/
namespace Go.Kc
open Go.Bv
theorem or_byte (c x : Nat) (hc : c < 16777216) (hx : x < 256) : Go.bits .or .u32 ((c : Int) * 256) (x : Int) = ((c * 256 + x : Nat) : Int) := by
  have h := or32 (BitVec.ofNat 32 (c * 256)) (BitVec.ofNat 32 x)
  rw [BitVec.toNat_or, BitVec.toNat_ofNat, BitVec.toNat_ofNat, Nat.mod_eq_of_lt (by omega), Nat.mod_eq_of_lt (by omega)] at h
  rw [show ((c : Int) * 256) = ((c * 256 : Nat) : Int) by omega, h, show c * 256 = c <<< 8 by rw [Nat.shiftLeft_eq], Nat.shiftLeft_add_eq_or_of_lt (by omega)]
end Go.Kc
namespace Go.Own
open Go.RowKit
/-- the first three -/
theorem Own.take3 {w0 w : World} {L : List Res} {x y z : Res} (h : Own w0 w (x :: y :: z :: L)) : Own w0 w [x, y, z] :=
  h.sub (List.Sublist.cons_cons _ (List.Sublist.cons_cons _ (List.Sublist.cons_cons _ (List.nil_sublist _))))
end Go.Own
namespace Go.Proofs.YtniibdglodnhoaaDoor
open Go.RowKit Go.Own Go.Bv Go.Ord Go.Eq Go.Opn Go.Pb

def rC (pS bS : Value) (used span code : Nat) : Array Value := #[pS, bS, .int .i64 (used : Int), .int .u32 (span : Int), .int .u32 (code : Int)]

set_option maxHeartbeats 2000000 in
set_option maxRecDepth 100000 in
theorem octet_calls {w0 w : World} {L : List Res} {rb : Nat} {pS : Value} {aB : Option Addr} {m cB used span code : Nat} (b : List (BitVec 8)) (c : BitVec 8) (hc : b[used]? = some c) (hu : used < m) (hm : m ≤ 10000000) (hcd : code < 16777216) (C : Nat) (hC : code * 256 + c.toNat = C)
    (hO : Own w0 w (.blk rb (.cells (rC pS (.slice aB m cB) used span code) 124 (0,0)) :: .sl 5 1 (.slice aB m cB) m (u8s b) :: L)) :
    Calls Tryd.prog 65 #[.pointer (some ⟨rb, 0, none⟩)] w fun e w' => e = .returned (.tuple #[]) ∧
      Own w0 w' (.blk rb (.cells (rC pS (.slice aB m cB) (used + 1) span C) 124 (0,0)) :: .sl 5 1 (.slice aB m cB) m (u8s b) :: L) := by
  obtain ⟨gB, rfl⟩ := hO.slPlace 1 rfl (by omega)
  have hg : (u8s b)[used]? = some (.int .u8 (c.toNat : Int)) := by
    obtain ⟨h1, h2⟩ := List.getElem?_eq_some_iff.1 hc
    rw [u8s_get b used h1, h2]
  have HG := Lib.hid hg
  have hcl := c.isLt
  have e2 : bits .or .u32 ((code : Int) * 256) (c.toNat : Int) = (C : Int) := by rw [Go.Kc.or_byte code c.toNat hcd hcl, hC]
  have e1 : IntKind.u32.wrap ((code : Int) * 256) = (code : Int) * 256 := by simp [IntKind.wrap, IntKind.bits, IntKind.signed]; omega
  have e3 : IntKind.u32.wrap (c.toNat : Int) = (c.toNat : Int) := by simp [IntKind.wrap, IntKind.bits, IntKind.signed]; omega
  have e4 : IntKind.i64.wrap ((used : Int) + 1) = (used : Int) + 1 := by rw [IntKind.wrap_i64]; omega
  clear hc hC hg
  go_enter Tryd.func65, Tryd.ntmps65
  go_wp2
  refine wp_region_textS (fun w' => Own w0 w' (.blk rb (.cells (rC pS (.slice (some ⟨gB, 0, none⟩) m cB) used span code) 124 (0,0)) :: .sl 5 1 (.slice (some ⟨gB, 0, none⟩) m cB) m (u8s b) :: L)) (fun op => match op with | .load _ _ => true | _ => false) (by kernel_rfl) (by kernel_rfl) hO.drew ?_
  replace hO := hO.drew
  generalize World.drew _ = wd at hO ⊢
  go_wp2_with (first
    | (((with_reducible refine gIL ?_); first | refine wpI_ldcS (fun w' hS => hS.blk 0 rfl) rfl rfl (tA rfl) rfl ?_); first | (refine wpI_act (by simp only [Act.put, List.setIfInBounds_toArray, List.set_cons_succ, List.set_cons_zero]; rfl) ?_) | skip)
    | ((with_reducible refine gIL ?_); refine wpI_ld1S (fun w' hS => (hS.slCell 1 rfl (by omega)).trans HG.out) rfl rfl (tA rfl) ?_; first | (refine wpI_act (by simp only [Act.put, List.setIfInBounds_toArray, List.set_cons_succ, List.set_cons_zero]; rfl) ?_) | skip)
    | ((with_reducible refine gIS1 ?_); refine wpI_last (by kernel_rfl) rfl rfl (by kernel_rfl) ?_; intro K hK; have HK := Lib.hid hK; clear hK) | ((with_reducible refine gOnlyK0 HK.out ?_); clear HK K)
    | ((with_reducible refine gStore ?_); first | (refine stX hO 0 rfl rfl rfl rfl rfl (tS rfl) ?_; clear hO; intro ww hO) | (refine stC hO 0 rfl rfl rfl (ltb rfl) rfl (tS rfl) ?_; clear hO; intro ww hO))
    | ((with_reducible refine gLoad ?_); first | refine ldX hO 0 rfl rfl (tA rfl) (tS rfl) ?_ | refine ldC hO 0 rfl rfl (tA rfl) rfl ?_)
    | ((with_reducible refine gI ?_); refine wpI_step rfl rfl (by kernel_rfl) ?_; intro K hK; have HK := Lib.hid hK; clear hK) | ((with_reducible refine gI ?_); first | refine wpI_skip rfl ?_ | refine wpI_want rfl ?_) | ((with_reducible refine gOnlyK HK.out ?_ ?_); exact hO; clear HK K; first | (refine wpI_act (by simp only [Act.put, List.setIfInBounds_toArray, List.set_cons_succ, List.set_cons_zero]; rfl) ?_) | skip) | (with_reducible refine wpI_nil ?_))
  refine bodyPost_end (results_none rfl _ _ _) rfl ?_
  exact ⟨rfl, hO⟩
end Go.Proofs.YtniibdglodnhoaaDoor

/- Walk: the reader's Next. -/
namespace Go.Proofs.YtniibdglodnhoaaDoor
open Go.RowKit Go.Own Go.Bv Go.Ord Go.Eq Go.Opn Go.Pb

set_option maxHeartbeats 8000000 in
set_option maxRecDepth 100000 in
theorem next_ok {w0 w : World} {L : List Res} {rb : Nat} {aP : Option Addr} {n cP : Nat} {aB : Option Addr} {m cB : Nat} (r : Go.Kc.Rr) (b : List (BitVec 8)) (hr : Go.Kc.Rok n b r) (hb : b.length = m) (hm : m ≤ 10000000) (a : Nat) (ha : a < n) (hs : r.may b a) (t : Go.Kc.Rr) (ht : r.next b a = t)
    (hO : Own w0 w (.blk rb (.cells (rC (.slice aP n cP) (.slice aB m cB) r.used r.span r.code) 124 (0,0)) :: .sl 5 1 (.slice aB m cB) m (u8s b) :: .sl 3 1 (.slice aP n cP) n (i64s r.p) :: L)) :
    Calls Tryd.prog 72 #[.pointer (some ⟨rb, 0, none⟩), .int .i64 (a : Int)] w fun e w' => e = .returned (.tuple #[.bool (r.set a), .int .i64 0]) ∧ Own w0 w' (.blk rb (.cells (rC (.slice aP n cP) (.slice aB m cB) t.used t.span t.code) 124 (0,0)) :: .sl 5 1 (.slice aB m cB) m (u8s b) :: .sl 3 1 (.slice aP n cP) n (i64s t.p) :: L) := by
  obtain ⟨q1, q2⟩ := Go.Kc.rok_part hr ha
  obtain ⟨q3, q4, q5, q6, q7⟩ := Go.Kc.rok_mid hr ha
  obtain ⟨gP, rfl⟩ := hO.slPlace 2 rfl (by omega)
  obtain ⟨k1, k2, k3, k4, k5, k6⟩ := hr
  have hmv := Go.Kc.all_get k2 (by rw [k1]; exact ha)
  rw [kc_may] at hmv
  obtain ⟨pv, hpv⟩ : ∃ pv, r.p.getD a 0 = pv := ⟨_, rfl⟩
  obtain ⟨P, hP⟩ : ∃ P, r.part a = P := ⟨_, rfl⟩
  rw [hpv] at hmv
  rw [hP] at q1 q2
  have hg : (i64s r.p)[a]? = some (.int .i64 pv) := by
    rw [i64s_get r.p a (by omega), ← hpv, List.getD_eq_getElem?_getD, List.getElem?_eq_getElem (by omega)]; rfl
  have hset : (i64s r.p).set a (.int .i64 (learnI pv (r.set a))) = i64s (r.mid a).p := by
    unfold Go.Kc.Rr.mid i64s
    dsimp only
    rw [List.map_set, hpv]; rfl
  have hsp : ∀ w, Calls Tryd.prog 60 #[.int .u32 (r.span : Int), .int .i64 pv] w fun e w' => e = .returned (.tuple #[.int .u32 (P : Int), .int .i64 0]) ∧ w = w' := fun w => by
    have h := split_calls (r.span : Int) pv w (by omega) (by omega)
    have e : splitOk (r.span : Int) pv = true := by unfold splitOk; rw [hmv, decide_eq_true (by omega)]; rfl
    have e2 : splitI (r.span : Int) pv = (P : Int) := by
      have hp0 := ((mayB_iff pv).1 hmv).1
      rw [← hP]
      unfold splitI Go.Kc.Rr.part
      rw [hpv, Int.natCast_mul, Int.natCast_ediv, Int.toNat_of_nonneg (by omega)]; rfl
    rw [e, if_pos rfl, if_pos rfl, e2] at h
    exact h
  have hln : ∀ bt w, Calls Tryd.prog 61 #[.int .i64 pv, .bool bt] w fun e w' => e = .returned (.tuple #[.int .i64 (learnI pv bt), .int .i64 0]) ∧ w = w' := fun bt w => by
    have h := Learn_calls pv bt w
    rw [hmv, if_pos rfl, if_pos rfl] at h
    exact h
  have hbit : r.set a = decide (P ≤ r.code) := by rw [← hP]; rfl
  have hm1 : (r.mid a).code = if r.set a then r.code - P else r.code := by rw [← hP]; rfl
  have hm2 : (r.mid a).span = if r.set a then r.span - P else P := by rw [← hP]; rfl
  have hm3 : (r.mid a).used = r.used := rfl
  have HSP := Lib.hid hsp
  have HG := Lib.hid hg
  have hs2 : (r.mid a).span < 16777216 → r.used < m := by rw [← hb]; exact hs
  have htn : (r.mid a).norm b = t := ht
  obtain ⟨u, hu⟩ : ∃ u, r.mid a = u := ⟨_, rfl⟩
  rw [hu] at hset hm1 hm2 hm3 hs2 q3 q4 q5
  rw [hu] at htn
  have HTN := Lib.hid htn
  obtain ⟨used, hus⟩ : ∃ x, r.used = x := ⟨_, rfl⟩
  obtain ⟨span, hsp2⟩ : ∃ x, r.span = x := ⟨_, rfl⟩
  obtain ⟨code, hco⟩ : ∃ x, r.code = x := ⟨_, rfl⟩
  obtain ⟨C1, hC1⟩ : ∃ x, u.code = x := ⟨_, rfl⟩
  obtain ⟨Z, hZ⟩ : ∃ x, u.span = x := ⟨_, rfl⟩
  rw [hus] at hs2 hm3 hO k6
  rw [hsp2] at HSP hm2 hO q2 k3 k4
  rw [hco] at hbit hm1 hO
  rw [hZ] at hm2 hs2 q3 q4 q5
  rw [hC1] at hm1 q3
  rw [hb] at k6
  have HUS := Lib.hid hus
  have HSS := Lib.hid hsp2
  have HCO := Lib.hid hco
  have HB := Lib.hid hb
  have HBIT0 := Lib.hid hbit
  have HM := Lib.hid hm
  have HSET0 := Lib.hid hset
  have HU3 := Lib.hid hm3
  have HC1 := Lib.hid hC1
  have HZZ := Lib.hid hZ
  rw [hbit] at hm1 hm2
  have i1 : IntKind.i64.wrap ((m : Int) - (used : Int)) = (m : Int) - (used : Int) := by rw [IntKind.wrap_i64]; omega
  have i2 : decide ((a : Int) < 0) = false := decide_eq_false (by omega)
  have i3 : decide ((n : Int) ≤ (a : Int)) = false := decide_eq_false (by omega)
  have i4 : decide (n ≤ a) = false := decide_eq_false (by omega)
  clear hb hm k1 k2 hs hmv hpv hP hg hsp hus hsp2 hco hC1 hZ hu q6 q7 hm3 ht htn
  by_cases hc : P ≤ code
  · have hbt : decide (P ≤ code) = true := decide_eq_true hc
    rw [hbit, hbt] at hset
    rw [hbt] at hm1 hm2
    simp only [Bool.false_eq_true, if_true, if_false] at hm1 hm2
    have HBIT : Hid (r.set a = true) := by show _ = _; rw [HBIT0.out, hbt]
    have HSET := Lib.hid hset
    have HLN := Lib.hid (hln true)
    clear hbit hbt hset hln HSET0 HBIT0
    have dP2 : decide (P ≤ code) = true := decide_eq_true (by omega)
    have dP : decide ((P : Int) ≤ (code : Int)) = true := decide_eq_true (by omega)
    have a3 : IntKind.u32.wrap ((span : Int) - (P : Int)) = (Z : Int) := by simp [IntKind.wrap, IntKind.bits, IntKind.signed]; omega
    have a4 : IntKind.u32.wrap ((code : Int) - (P : Int)) = (C1 : Int) := by simp [IntKind.wrap, IntKind.bits, IntKind.signed]; omega
    clear hm1 hm2
    by_cases hz : Z < 16777216
    · obtain ⟨Y, hY⟩ : ∃ x, Z * 256 = x := ⟨_, rfl⟩
      have y1 : IntKind.u32.wrap ((Z : Int) * 256) = (Y : Int) := by simp [IntKind.wrap, IntKind.bits, IntKind.signed]; omega
      have hlt : used < m := hs2 hz
      have y4 : decide ((m : Int) - (used : Int) < 1) = false := decide_eq_false (by omega)
      have hltb : used < b.length := by rw [HB.out]; exact hlt
      obtain ⟨c, hcv⟩ : ∃ c, b.getD used 0 = c := ⟨_, rfl⟩
      have hx : b[used]? = some c := by rw [← hcv]; simp [hltb]
      obtain ⟨C2, hC2⟩ : ∃ x, C1 * 256 + c.toNat = x := ⟨_, rfl⟩
      have HTT : Hid (t = ⟨u.p, C2, Y, used + 1⟩) := by show _ = _; rw [← HTN.out]; unfold Go.Kc.Rr.norm; rw [if_pos (by rw [HZZ.out]; exact hz), HC1.out, HU3.out, hcv, hC2, HZZ.out, hY]
      have HC : Hid (b[used]? = some c) := hx
      have HU : Hid (used < m) := hlt
      have HCD : Hid (C1 < 16777216) := by show _ < _; omega
      have HC2 : Hid (C1 * 256 + c.toNat = C2) := hC2
      clear hltb hx hC2 hcv hlt
      have YB : Hid (Z * 256 = Y) := hY
      have Y2 : Hid (Z < 16777216) := hz
      have Y3 : Hid (16777216 ≤ Y) := by show _ ≤ _; omega
      clear hY hz hs2 q1 q2 q3 q4 q5 k3 k4 k5 k6 hc
      go_enter Tryd.func72, Tryd.ntmps72
      go_wp2_with (first
        | ((with_reducible refine gG ?_); refine wpList_want rfl ?_)
        | ((with_reducible refine gLoad ?_); first | refine ldX hO 0 rfl rfl (tA rfl) (tS rfl) ?_ | refine ldC hO 0 rfl rfl (tA rfl) rfl ?_))
      refine wp_region_textS (fun w' => Own w0 w' (.blk rb (.cells (rC (.slice (some ⟨gP, 0, none⟩) n cP) (.slice aB m cB) used span code) 124 (0,0)) :: .sl 5 1 (.slice aB m cB) m (u8s b) :: .sl 3 1 (.slice (some ⟨gP, 0, none⟩) n cP) n (i64s r.p) :: L)) (fun op => match op with | .load _ _ => true | _ => false) (by kernel_rfl) (by kernel_rfl) hO.drew ?_
      replace hO := hO.drew
      generalize World.drew _ = wd at hO ⊢
      go_wp2_with (first
        | (((with_reducible refine gIL ?_); first | refine wpI_ldcS (fun w' hS => hS.blk 0 rfl) rfl rfl (tA rfl) rfl ?_); first | (refine wpI_act (by simp only [Act.put, List.setIfInBounds_toArray, List.set_cons_succ, List.set_cons_zero]; rfl) ?_) | skip)
        | ((with_reducible refine gIL ?_); refine wpI_ld1S (fun w' hS => (hS.slCell 2 rfl (by omega)).trans HG.out) rfl rfl (tA rfl) ?_; first | (refine wpI_act (by simp only [Act.put, List.setIfInBounds_toArray, List.set_cons_succ, List.set_cons_zero]; rfl) ?_) | skip)
        | (go_at_call 60; refine (HSP.out _).mono ?_; rintro e ww ⟨rfl, rfl⟩)
        | ((with_reducible refine gLoad ?_); first | refine ldX hO 0 rfl rfl (tA rfl) (tS rfl) ?_ | refine ldC hO 0 rfl rfl (tA rfl) rfl ?_)
        | ((with_reducible refine gStore ?_); first | (refine stX hO 0 rfl rfl rfl rfl rfl (tS rfl) ?_; clear hO; intro ww hO) | (refine stC hO 0 rfl rfl rfl (ltb rfl) rfl (tS rfl) ?_; clear hO; intro ww hO))
        | ((with_reducible refine gI ?_); refine wpI_step rfl rfl (by kernel_rfl) ?_; intro K hK; have HK := Lib.hid hK; clear hK) | ((with_reducible refine gI ?_); first | refine wpI_skip rfl ?_ | refine wpI_want rfl ?_) | ((with_reducible refine gOnlyK HK.out ?_ ?_); exact hO; clear HK K; first | (refine wpI_act (by simp only [Act.put, List.setIfInBounds_toArray, List.set_cons_succ, List.set_cons_zero]; rfl) ?_) | skip) | (with_reducible refine wpI_nil ?_))
      go_loopg [9, 10] 1 (fun q s9 s10 wr => Own w0 wr (.blk rb (.cells (rC (.slice (some ⟨gP, 0, none⟩) n cP) (.slice aB m cB) used span code) 124 (0,0)) :: .sl 5 1 (.slice aB m cB) m (u8s b) :: .sl 3 1 (.slice (some ⟨gP, 0, none⟩) n cP) n (i64s r.p) :: L) ∧ ((q = 1 ∧ s9 = .int .i64 0 ∧ s10 = .int .u32 (Z : Int)) ∨ (q = 0 ∧ s9 = .int .i64 1 ∧ s10 = .int .u32 (Y : Int))))
      case atStart => exact ⟨hO, .inl ⟨rfl, rfl, rfl⟩⟩
      case round =>
        obtain ⟨hO1, hrel⟩ := hrel
        clear hO
        have hO := hO1
        clear hO1
        rcases hrel with ⟨rfl, rfl, rfl⟩ | ⟨rfl, rfl, rfl⟩
        · have y2 : decide ((Z : Int) < 16777216) = true := decide_eq_true (by have h := Y2.out; omega)
          go_wp2
          go_roundg 0
          case measure => omega
          case rel => exact ⟨hO, .inr ⟨rfl, rfl, rfl⟩⟩
        · have y3 : decide ((Y : Int) < 16777216) = false := decide_eq_false (by have h := Y3.out; omega)
          go_wp2
          clear y3
          refine wp_region_textS (fun w' => Own w0 w' (.blk rb (.cells (rC (.slice (some ⟨gP, 0, none⟩) n cP) (.slice aB m cB) used span code) 124 (0,0)) :: .sl 5 1 (.slice aB m cB) m (u8s b) :: .sl 3 1 (.slice (some ⟨gP, 0, none⟩) n cP) n (i64s r.p) :: L)) (fun op => match op with | .load _ _ => true | _ => false) (by kernel_rfl) (by kernel_rfl) hO.drew ?_
          replace hO := hO.drew
          generalize World.drew _ = wd at hO ⊢
          go_wp2_with (first
            | (((with_reducible refine gIL ?_); first | refine wpI_ldcS (fun w' hS => hS.blk 0 rfl) rfl rfl (tA rfl) rfl ?_); first | (refine wpI_act (by simp only [Act.put, List.setIfInBounds_toArray, List.set_cons_succ, List.set_cons_zero]; rfl) ?_) | skip)
            | ((with_reducible refine gLoad ?_); first | refine ldX hO 0 rfl rfl (tA rfl) (tS rfl) ?_ | refine ldC hO 0 rfl rfl (tA rfl) rfl ?_)
            | ((with_reducible refine gStore ?_); first | (refine stX hO 0 rfl rfl rfl rfl rfl (tS rfl) ?_; clear hO; intro ww hO) | (refine stC hO 0 rfl rfl rfl (ltb rfl) rfl (tS rfl) ?_; clear hO; intro ww hO))
            | ((with_reducible refine gI ?_); refine wpI_step rfl rfl (by kernel_rfl) ?_; intro K hK; have HK := Lib.hid hK; clear hK) | ((with_reducible refine gI ?_); first | refine wpI_skip rfl ?_ | refine wpI_want rfl ?_) | ((with_reducible refine gOnlyK HK.out ?_ ?_); exact hO; clear HK K; first | (refine wpI_act (by simp only [Act.put, List.setIfInBounds_toArray, List.set_cons_succ, List.set_cons_zero]; rfl) ?_) | skip) | (with_reducible refine wpI_nil ?_))
          replace hO : Own w0 _ (.blk rb (.cells (rC (.slice (some ⟨gP, 0, none⟩) n cP) (.slice aB m cB) used span C1) 124 (0,0)) :: .sl 5 1 (.slice aB m cB) m (u8s b) :: .sl 3 1 (.slice (some ⟨gP, 0, none⟩) n cP) n (i64s r.p) :: L) := hO
          refine wp_region_textS (fun w' => Own w0 w' [.blk rb (.cells (rC (.slice (some ⟨gP, 0, none⟩) n cP) (.slice aB m cB) used span C1) 124 (0,0)), .sl 5 1 (.slice aB m cB) m (u8s b)]) (fun op => match op with | .load _ (.tmp 97) => false | .load _ _ => true | _ => false) (by kernel_rfl) (by kernel_rfl) hO.drew.take2 ?_
          replace hO := hO.drew
          generalize World.drew _ = wd2 at hO ⊢
          go_wp2_with (first
            | (((with_reducible refine gIL ?_); first | refine wpI_ldcS (fun w' hS => hS.blk 0 rfl) rfl rfl (tA rfl) rfl ?_); first | (refine wpI_act (by simp only [Act.put, List.setIfInBounds_toArray, List.set_cons_succ, List.set_cons_zero]; rfl) ?_) | skip)
            | ((with_reducible refine gLoad (T := 3) ?_); refine ld_sl hO 2 rfl rfl HG.out (tA rfl) ?_)
            | (go_at_call 61; refine (HLN.out _).mono ?_; rintro e ww ⟨rfl, rfl⟩)
            | ((with_reducible refine gStore (T := 3) ?_); refine own_setElem hO 2 3 _ _ _ rfl rfl rfl (by omega) ii64s rfl ?_; clear hO; intro ww hO)
            | ((with_reducible refine gI ?_); refine wpI_step rfl rfl (by kernel_rfl) ?_; intro K hK; have HK := Lib.hid hK; clear hK) | ((with_reducible refine gI ?_); first | refine wpI_skip rfl ?_ | refine wpI_want rfl ?_) | ((with_reducible refine gOnlyK HK.out ?_ ?_); exact hO.take2; clear HK K; first | (refine wpI_act (by simp only [Act.put, List.setIfInBounds_toArray, List.set_cons_succ, List.set_cons_zero]; rfl) ?_) | skip) | (with_reducible refine wpI_nil ?_))
          replace hO : Own w0 _ (.blk rb (.cells (rC (.slice (some ⟨gP, 0, none⟩) n cP) (.slice aB m cB) used span C1) 124 (0,0)) :: .sl 5 1 (.slice aB m cB) m (u8s b) :: .sl 3 1 (.slice (some ⟨gP, 0, none⟩) n cP) n ((i64s r.p).set a (.int .i64 (learnI pv true))) :: L) := hO
          rw [HSET.out] at hO
          go_loopg [105] 1 (fun q c wr => (q = 1 ∧ c = .int .i64 0 ∧ Own w0 wr (.blk rb (.cells (rC (.slice (some ⟨gP, 0, none⟩) n cP) (.slice aB m cB) used span C1) 124 (0,0)) :: .sl 5 1 (.slice aB m cB) m (u8s b) :: .sl 3 1 (.slice (some ⟨gP, 0, none⟩) n cP) n (i64s u.p) :: L)) ∨ (q = 0 ∧ c = .int .i64 1 ∧ Own w0 wr (.blk rb (.cells (rC (.slice (some ⟨gP, 0, none⟩) n cP) (.slice aB m cB) (used + 1) span C2) 124 (0,0)) :: .sl 5 1 (.slice aB m cB) m (u8s b) :: .sl 3 1 (.slice (some ⟨gP, 0, none⟩) n cP) n (i64s u.p) :: L)))
          case atStart => exact .inl ⟨rfl, rfl, hO⟩
          case round =>
            rcases hrel with ⟨rfl, rfl, hO1⟩ | ⟨rfl, rfl, hO1⟩
            · clear hO
              have hO := hO1
              clear hO1
              go_wp2_with (first
                | (go_at_call 65; refine (octet_calls b c HC.out HU.out HM.out HCD.out C2 HC2.out hO).mono ?_; rintro e ww ⟨rfl, hO2⟩; clear hO; have hO := hO2; clear hO2))
              go_roundg 0
              case measure => omega
              case rel => exact .inr ⟨rfl, rfl, hO⟩
            · clear hO
              have hO := hO1
              clear hO1
              go_wp2_with (first
                | ((with_reducible refine gLoad ?_); first | refine ldX hO 0 rfl rfl (tA rfl) (tS rfl) ?_ | refine ldC hO 0 rfl rfl (tA rfl) rfl ?_)
                | ((with_reducible refine gStore ?_); first | (refine stX hO 0 rfl rfl rfl rfl rfl (tS rfl) ?_; clear hO; intro ww hO) | (refine stC hO 0 rfl rfl rfl (ltb rfl) rfl (tS rfl) ?_; clear hO; intro ww hO)))
              go_ret2
              exact ⟨by rw [HBIT.out]; rfl, by rw [HTT.out]; exact hO⟩
    · have y4 : decide ((m : Int) - (used : Int) < 0) = false := decide_eq_false (by omega)
      have y5 : IntKind.u32.wrap (Z : Int) = (Z : Int) := by simp [IntKind.wrap, IntKind.bits, IntKind.signed]; omega
      have HTT : Hid (t = ⟨u.p, C1, Z, used⟩) := by show _ = _; rw [← HTN.out]; unfold Go.Kc.Rr.norm; rw [if_neg (by rw [HZZ.out]; exact hz), ← HC1.out, ← HZZ.out, ← HU3.out]
      have Y2 : Hid (¬ Z < 16777216) := hz
      clear hz hs2 q1 q2 q3 q4 q5 k3 k4 k5 k6 hc
      go_enter Tryd.func72, Tryd.ntmps72
      go_wp2_with (first
        | ((with_reducible refine gG ?_); refine wpList_want rfl ?_)
        | ((with_reducible refine gLoad ?_); first | refine ldX hO 0 rfl rfl (tA rfl) (tS rfl) ?_ | refine ldC hO 0 rfl rfl (tA rfl) rfl ?_))
      refine wp_region_textS (fun w' => Own w0 w' (.blk rb (.cells (rC (.slice (some ⟨gP, 0, none⟩) n cP) (.slice aB m cB) used span code) 124 (0,0)) :: .sl 5 1 (.slice aB m cB) m (u8s b) :: .sl 3 1 (.slice (some ⟨gP, 0, none⟩) n cP) n (i64s r.p) :: L)) (fun op => match op with | .load _ _ => true | _ => false) (by kernel_rfl) (by kernel_rfl) hO.drew ?_
      replace hO := hO.drew
      generalize World.drew _ = wd at hO ⊢
      go_wp2_with (first
        | (((with_reducible refine gIL ?_); first | refine wpI_ldcS (fun w' hS => hS.blk 0 rfl) rfl rfl (tA rfl) rfl ?_); first | (refine wpI_act (by simp only [Act.put, List.setIfInBounds_toArray, List.set_cons_succ, List.set_cons_zero]; rfl) ?_) | skip)
        | ((with_reducible refine gIL ?_); refine wpI_ld1S (fun w' hS => (hS.slCell 2 rfl (by omega)).trans HG.out) rfl rfl (tA rfl) ?_; first | (refine wpI_act (by simp only [Act.put, List.setIfInBounds_toArray, List.set_cons_succ, List.set_cons_zero]; rfl) ?_) | skip)
        | (go_at_call 60; refine (HSP.out _).mono ?_; rintro e ww ⟨rfl, rfl⟩)
        | ((with_reducible refine gLoad ?_); first | refine ldX hO 0 rfl rfl (tA rfl) (tS rfl) ?_ | refine ldC hO 0 rfl rfl (tA rfl) rfl ?_)
        | ((with_reducible refine gStore ?_); first | (refine stX hO 0 rfl rfl rfl rfl rfl (tS rfl) ?_; clear hO; intro ww hO) | (refine stC hO 0 rfl rfl rfl (ltb rfl) rfl (tS rfl) ?_; clear hO; intro ww hO))
        | ((with_reducible refine gI ?_); refine wpI_step rfl rfl (by kernel_rfl) ?_; intro K hK; have HK := Lib.hid hK; clear hK) | ((with_reducible refine gI ?_); first | refine wpI_skip rfl ?_ | refine wpI_want rfl ?_) | ((with_reducible refine gOnlyK HK.out ?_ ?_); exact hO; clear HK K; first | (refine wpI_act (by simp only [Act.put, List.setIfInBounds_toArray, List.set_cons_succ, List.set_cons_zero]; rfl) ?_) | skip) | (with_reducible refine wpI_nil ?_))
      go_loopg [9, 10] 1 (fun q s9 s10 wr => q ≤ 1 ∧ s9 = .int .i64 0 ∧ s10 = .int .u32 (Z : Int) ∧ Own w0 wr (.blk rb (.cells (rC (.slice (some ⟨gP, 0, none⟩) n cP) (.slice aB m cB) used span code) 124 (0,0)) :: .sl 5 1 (.slice aB m cB) m (u8s b) :: .sl 3 1 (.slice (some ⟨gP, 0, none⟩) n cP) n (i64s r.p) :: L))
      case atStart => exact ⟨by omega, rfl, rfl, hO⟩
      case round =>
        obtain ⟨hq, rfl, rfl, hO1⟩ := hrel
        clear hO hq
        have hO := hO1
        clear hO1
        have y2 : decide ((Z : Int) < 16777216) = false := decide_eq_false (by have h := Y2.out; omega)
        go_wp2
        clear y2
        refine wp_region_textS (fun w' => Own w0 w' (.blk rb (.cells (rC (.slice (some ⟨gP, 0, none⟩) n cP) (.slice aB m cB) used span code) 124 (0,0)) :: .sl 5 1 (.slice aB m cB) m (u8s b) :: .sl 3 1 (.slice (some ⟨gP, 0, none⟩) n cP) n (i64s r.p) :: L)) (fun op => match op with | .load _ _ => true | _ => false) (by kernel_rfl) (by kernel_rfl) hO.drew ?_
        replace hO := hO.drew
        generalize World.drew _ = wd at hO ⊢
        go_wp2_with (first
          | (((with_reducible refine gIL ?_); first | refine wpI_ldcS (fun w' hS => hS.blk 0 rfl) rfl rfl (tA rfl) rfl ?_); first | (refine wpI_act (by simp only [Act.put, List.setIfInBounds_toArray, List.set_cons_succ, List.set_cons_zero]; rfl) ?_) | skip)
          | ((with_reducible refine gLoad ?_); first | refine ldX hO 0 rfl rfl (tA rfl) (tS rfl) ?_ | refine ldC hO 0 rfl rfl (tA rfl) rfl ?_)
          | ((with_reducible refine gStore ?_); first | (refine stX hO 0 rfl rfl rfl rfl rfl (tS rfl) ?_; clear hO; intro ww hO) | (refine stC hO 0 rfl rfl rfl (ltb rfl) rfl (tS rfl) ?_; clear hO; intro ww hO))
          | ((with_reducible refine gI ?_); refine wpI_step rfl rfl (by kernel_rfl) ?_; intro K hK; have HK := Lib.hid hK; clear hK) | ((with_reducible refine gI ?_); first | refine wpI_skip rfl ?_ | refine wpI_want rfl ?_) | ((with_reducible refine gOnlyK HK.out ?_ ?_); exact hO; clear HK K; first | (refine wpI_act (by simp only [Act.put, List.setIfInBounds_toArray, List.set_cons_succ, List.set_cons_zero]; rfl) ?_) | skip) | (with_reducible refine wpI_nil ?_))
        replace hO : Own w0 _ (.blk rb (.cells (rC (.slice (some ⟨gP, 0, none⟩) n cP) (.slice aB m cB) used span C1) 124 (0,0)) :: .sl 5 1 (.slice aB m cB) m (u8s b) :: .sl 3 1 (.slice (some ⟨gP, 0, none⟩) n cP) n (i64s r.p) :: L) := hO
        refine wp_region_textS (fun w' => Own w0 w' [.blk rb (.cells (rC (.slice (some ⟨gP, 0, none⟩) n cP) (.slice aB m cB) used span C1) 124 (0,0)), .sl 5 1 (.slice aB m cB) m (u8s b)]) (fun op => match op with | .load _ (.tmp 97) => false | .load _ _ => true | _ => false) (by kernel_rfl) (by kernel_rfl) hO.drew.take2 ?_
        replace hO := hO.drew
        generalize World.drew _ = wd2 at hO ⊢
        go_wp2_with (first
          | (((with_reducible refine gIL ?_); first | refine wpI_ldcS (fun w' hS => hS.blk 0 rfl) rfl rfl (tA rfl) rfl ?_); first | (refine wpI_act (by simp only [Act.put, List.setIfInBounds_toArray, List.set_cons_succ, List.set_cons_zero]; rfl) ?_) | skip)
          | ((with_reducible refine gLoad (T := 3) ?_); refine ld_sl hO 2 rfl rfl HG.out (tA rfl) ?_)
          | (go_at_call 61; refine (HLN.out _).mono ?_; rintro e ww ⟨rfl, rfl⟩)
          | ((with_reducible refine gStore (T := 3) ?_); refine own_setElem hO 2 3 _ _ _ rfl rfl rfl (by omega) ii64s rfl ?_; clear hO; intro ww hO)
          | ((with_reducible refine gI ?_); refine wpI_step rfl rfl (by kernel_rfl) ?_; intro K hK; have HK := Lib.hid hK; clear hK) | ((with_reducible refine gI ?_); first | refine wpI_skip rfl ?_ | refine wpI_want rfl ?_) | ((with_reducible refine gOnlyK HK.out ?_ ?_); exact hO.take2; clear HK K; first | (refine wpI_act (by simp only [Act.put, List.setIfInBounds_toArray, List.set_cons_succ, List.set_cons_zero]; rfl) ?_) | skip) | (with_reducible refine wpI_nil ?_))
        replace hO : Own w0 _ (.blk rb (.cells (rC (.slice (some ⟨gP, 0, none⟩) n cP) (.slice aB m cB) used span C1) 124 (0,0)) :: .sl 5 1 (.slice aB m cB) m (u8s b) :: .sl 3 1 (.slice (some ⟨gP, 0, none⟩) n cP) n ((i64s r.p).set a (.int .i64 (learnI pv true))) :: L) := hO
        rw [HSET.out] at hO
        go_loopg [105] 1 (fun q c wr => q ≤ 1 ∧ c = .int .i64 0 ∧ Own w0 wr (.blk rb (.cells (rC (.slice (some ⟨gP, 0, none⟩) n cP) (.slice aB m cB) used span C1) 124 (0,0)) :: .sl 5 1 (.slice aB m cB) m (u8s b) :: .sl 3 1 (.slice (some ⟨gP, 0, none⟩) n cP) n (i64s u.p) :: L))
        case atStart => exact ⟨by omega, rfl, hO⟩
        case round =>
          obtain ⟨hq, rfl, hO1⟩ := hrel
          clear hO hq
          have hO := hO1
          clear hO1
          go_wp2_with (first
            | ((with_reducible refine gLoad ?_); first | refine ldX hO 0 rfl rfl (tA rfl) (tS rfl) ?_ | refine ldC hO 0 rfl rfl (tA rfl) rfl ?_)
            | ((with_reducible refine gStore ?_); first | (refine stX hO 0 rfl rfl rfl rfl rfl (tS rfl) ?_; clear hO; intro ww hO) | (refine stC hO 0 rfl rfl rfl (ltb rfl) rfl (tS rfl) ?_; clear hO; intro ww hO)))
          go_ret2
          exact ⟨by rw [HBIT.out]; rfl, by rw [HTT.out]; exact hO⟩
  · have hbt : decide (P ≤ code) = false := decide_eq_false hc
    rw [hbit, hbt] at hset
    rw [hbt] at hm1 hm2
    simp only [Bool.false_eq_true, if_true, if_false] at hm1 hm2
    have HBIT : Hid (r.set a = false) := by show _ = _; rw [HBIT0.out, hbt]
    have HSET := Lib.hid hset
    have HLN := Lib.hid (hln false)
    clear hbit hbt hset hln HSET0 HBIT0
    have dP2 : decide (P ≤ code) = false := decide_eq_false (by omega)
    have dP : decide ((P : Int) ≤ (code : Int)) = false := decide_eq_false (by omega)
    subst hm1
    subst hm2
    by_cases hz : Z < 16777216
    · obtain ⟨Y, hY⟩ : ∃ x, Z * 256 = x := ⟨_, rfl⟩
      have y1 : IntKind.u32.wrap ((Z : Int) * 256) = (Y : Int) := by simp [IntKind.wrap, IntKind.bits, IntKind.signed]; omega
      have hlt : used < m := hs2 hz
      have y4 : decide ((m : Int) - (used : Int) < 1) = false := decide_eq_false (by omega)
      have hltb : used < b.length := by rw [HB.out]; exact hlt
      obtain ⟨c, hcv⟩ : ∃ c, b.getD used 0 = c := ⟨_, rfl⟩
      have hx : b[used]? = some c := by rw [← hcv]; simp [hltb]
      obtain ⟨C2, hC2⟩ : ∃ x, C1 * 256 + c.toNat = x := ⟨_, rfl⟩
      have HTT : Hid (t = ⟨u.p, C2, Y, used + 1⟩) := by show _ = _; rw [← HTN.out]; unfold Go.Kc.Rr.norm; rw [if_pos (by rw [HZZ.out]; exact hz), HC1.out, HU3.out, hcv, hC2, HZZ.out, hY]
      have HC : Hid (b[used]? = some c) := hx
      have HU : Hid (used < m) := hlt
      have HCD : Hid (C1 < 16777216) := by show _ < _; omega
      have HC2 : Hid (C1 * 256 + c.toNat = C2) := hC2
      clear hltb hx hC2 hcv hlt
      have YB : Hid (Z * 256 = Y) := hY
      have Y2 : Hid (Z < 16777216) := hz
      have Y3 : Hid (16777216 ≤ Y) := by show _ ≤ _; omega
      clear hY hz hs2 q1 q2 q3 q4 q5 k3 k4 k5 k6 hc
      go_enter Tryd.func72, Tryd.ntmps72
      go_wp2_with (first
        | ((with_reducible refine gG ?_); refine wpList_want rfl ?_)
        | ((with_reducible refine gLoad ?_); first | refine ldX hO 0 rfl rfl (tA rfl) (tS rfl) ?_ | refine ldC hO 0 rfl rfl (tA rfl) rfl ?_))
      refine wp_region_textS (fun w' => Own w0 w' (.blk rb (.cells (rC (.slice (some ⟨gP, 0, none⟩) n cP) (.slice aB m cB) used span C1) 124 (0,0)) :: .sl 5 1 (.slice aB m cB) m (u8s b) :: .sl 3 1 (.slice (some ⟨gP, 0, none⟩) n cP) n (i64s r.p) :: L)) (fun op => match op with | .load _ _ => true | _ => false) (by kernel_rfl) (by kernel_rfl) hO.drew ?_
      replace hO := hO.drew
      generalize World.drew _ = wd at hO ⊢
      go_wp2_with (first
        | (((with_reducible refine gIL ?_); first | refine wpI_ldcS (fun w' hS => hS.blk 0 rfl) rfl rfl (tA rfl) rfl ?_); first | (refine wpI_act (by simp only [Act.put, List.setIfInBounds_toArray, List.set_cons_succ, List.set_cons_zero]; rfl) ?_) | skip)
        | ((with_reducible refine gIL ?_); refine wpI_ld1S (fun w' hS => (hS.slCell 2 rfl (by omega)).trans HG.out) rfl rfl (tA rfl) ?_; first | (refine wpI_act (by simp only [Act.put, List.setIfInBounds_toArray, List.set_cons_succ, List.set_cons_zero]; rfl) ?_) | skip)
        | (go_at_call 60; refine (HSP.out _).mono ?_; rintro e ww ⟨rfl, rfl⟩)
        | ((with_reducible refine gLoad ?_); first | refine ldX hO 0 rfl rfl (tA rfl) (tS rfl) ?_ | refine ldC hO 0 rfl rfl (tA rfl) rfl ?_)
        | ((with_reducible refine gStore ?_); first | (refine stX hO 0 rfl rfl rfl rfl rfl (tS rfl) ?_; clear hO; intro ww hO) | (refine stC hO 0 rfl rfl rfl (ltb rfl) rfl (tS rfl) ?_; clear hO; intro ww hO))
        | ((with_reducible refine gI ?_); refine wpI_step rfl rfl (by kernel_rfl) ?_; intro K hK; have HK := Lib.hid hK; clear hK) | ((with_reducible refine gI ?_); first | refine wpI_skip rfl ?_ | refine wpI_want rfl ?_) | ((with_reducible refine gOnlyK HK.out ?_ ?_); exact hO; clear HK K; first | (refine wpI_act (by simp only [Act.put, List.setIfInBounds_toArray, List.set_cons_succ, List.set_cons_zero]; rfl) ?_) | skip) | (with_reducible refine wpI_nil ?_))
      go_loopg [9, 10] 1 (fun q s9 s10 wr => Own w0 wr (.blk rb (.cells (rC (.slice (some ⟨gP, 0, none⟩) n cP) (.slice aB m cB) used span C1) 124 (0,0)) :: .sl 5 1 (.slice aB m cB) m (u8s b) :: .sl 3 1 (.slice (some ⟨gP, 0, none⟩) n cP) n (i64s r.p) :: L) ∧ ((q = 1 ∧ s9 = .int .i64 0 ∧ s10 = .int .u32 (Z : Int)) ∨ (q = 0 ∧ s9 = .int .i64 1 ∧ s10 = .int .u32 (Y : Int))))
      case atStart => exact ⟨hO, .inl ⟨rfl, rfl, rfl⟩⟩
      case round =>
        obtain ⟨hO1, hrel⟩ := hrel
        clear hO
        have hO := hO1
        clear hO1
        rcases hrel with ⟨rfl, rfl, rfl⟩ | ⟨rfl, rfl, rfl⟩
        · have y2 : decide ((Z : Int) < 16777216) = true := decide_eq_true (by have h := Y2.out; omega)
          go_wp2
          go_roundg 0
          case measure => omega
          case rel => exact ⟨hO, .inr ⟨rfl, rfl, rfl⟩⟩
        · have y3 : decide ((Y : Int) < 16777216) = false := decide_eq_false (by have h := Y3.out; omega)
          go_wp2
          clear y3
          refine wp_region_textS (fun w' => Own w0 w' (.blk rb (.cells (rC (.slice (some ⟨gP, 0, none⟩) n cP) (.slice aB m cB) used span C1) 124 (0,0)) :: .sl 5 1 (.slice aB m cB) m (u8s b) :: .sl 3 1 (.slice (some ⟨gP, 0, none⟩) n cP) n (i64s r.p) :: L)) (fun op => match op with | .load _ _ => true | _ => false) (by kernel_rfl) (by kernel_rfl) hO.drew ?_
          replace hO := hO.drew
          generalize World.drew _ = wd at hO ⊢
          go_wp2_with (first
            | (((with_reducible refine gIL ?_); first | refine wpI_ldcS (fun w' hS => hS.blk 0 rfl) rfl rfl (tA rfl) rfl ?_); first | (refine wpI_act (by simp only [Act.put, List.setIfInBounds_toArray, List.set_cons_succ, List.set_cons_zero]; rfl) ?_) | skip)
            | ((with_reducible refine gLoad ?_); first | refine ldX hO 0 rfl rfl (tA rfl) (tS rfl) ?_ | refine ldC hO 0 rfl rfl (tA rfl) rfl ?_)
            | ((with_reducible refine gStore ?_); first | (refine stX hO 0 rfl rfl rfl rfl rfl (tS rfl) ?_; clear hO; intro ww hO) | (refine stC hO 0 rfl rfl rfl (ltb rfl) rfl (tS rfl) ?_; clear hO; intro ww hO))
            | ((with_reducible refine gI ?_); refine wpI_step rfl rfl (by kernel_rfl) ?_; intro K hK; have HK := Lib.hid hK; clear hK) | ((with_reducible refine gI ?_); first | refine wpI_skip rfl ?_ | refine wpI_want rfl ?_) | ((with_reducible refine gOnlyK HK.out ?_ ?_); exact hO; clear HK K; first | (refine wpI_act (by simp only [Act.put, List.setIfInBounds_toArray, List.set_cons_succ, List.set_cons_zero]; rfl) ?_) | skip) | (with_reducible refine wpI_nil ?_))
          replace hO : Own w0 _ (.blk rb (.cells (rC (.slice (some ⟨gP, 0, none⟩) n cP) (.slice aB m cB) used span C1) 124 (0,0)) :: .sl 5 1 (.slice aB m cB) m (u8s b) :: .sl 3 1 (.slice (some ⟨gP, 0, none⟩) n cP) n (i64s r.p) :: L) := hO
          refine wp_region_textS (fun w' => Own w0 w' [.blk rb (.cells (rC (.slice (some ⟨gP, 0, none⟩) n cP) (.slice aB m cB) used span C1) 124 (0,0)), .sl 5 1 (.slice aB m cB) m (u8s b)]) (fun op => match op with | .load _ (.tmp 97) => false | .load _ _ => true | _ => false) (by kernel_rfl) (by kernel_rfl) hO.drew.take2 ?_
          replace hO := hO.drew
          generalize World.drew _ = wd2 at hO ⊢
          go_wp2_with (first
            | (((with_reducible refine gIL ?_); first | refine wpI_ldcS (fun w' hS => hS.blk 0 rfl) rfl rfl (tA rfl) rfl ?_); first | (refine wpI_act (by simp only [Act.put, List.setIfInBounds_toArray, List.set_cons_succ, List.set_cons_zero]; rfl) ?_) | skip)
            | ((with_reducible refine gLoad (T := 3) ?_); refine ld_sl hO 2 rfl rfl HG.out (tA rfl) ?_)
            | (go_at_call 61; refine (HLN.out _).mono ?_; rintro e ww ⟨rfl, rfl⟩)
            | ((with_reducible refine gStore (T := 3) ?_); refine own_setElem hO 2 3 _ _ _ rfl rfl rfl (by omega) ii64s rfl ?_; clear hO; intro ww hO)
            | ((with_reducible refine gI ?_); refine wpI_step rfl rfl (by kernel_rfl) ?_; intro K hK; have HK := Lib.hid hK; clear hK) | ((with_reducible refine gI ?_); first | refine wpI_skip rfl ?_ | refine wpI_want rfl ?_) | ((with_reducible refine gOnlyK HK.out ?_ ?_); exact hO.take2; clear HK K; first | (refine wpI_act (by simp only [Act.put, List.setIfInBounds_toArray, List.set_cons_succ, List.set_cons_zero]; rfl) ?_) | skip) | (with_reducible refine wpI_nil ?_))
          replace hO : Own w0 _ (.blk rb (.cells (rC (.slice (some ⟨gP, 0, none⟩) n cP) (.slice aB m cB) used span C1) 124 (0,0)) :: .sl 5 1 (.slice aB m cB) m (u8s b) :: .sl 3 1 (.slice (some ⟨gP, 0, none⟩) n cP) n ((i64s r.p).set a (.int .i64 (learnI pv false))) :: L) := hO
          rw [HSET.out] at hO
          go_loopg [105] 1 (fun q c wr => (q = 1 ∧ c = .int .i64 0 ∧ Own w0 wr (.blk rb (.cells (rC (.slice (some ⟨gP, 0, none⟩) n cP) (.slice aB m cB) used span C1) 124 (0,0)) :: .sl 5 1 (.slice aB m cB) m (u8s b) :: .sl 3 1 (.slice (some ⟨gP, 0, none⟩) n cP) n (i64s u.p) :: L)) ∨ (q = 0 ∧ c = .int .i64 1 ∧ Own w0 wr (.blk rb (.cells (rC (.slice (some ⟨gP, 0, none⟩) n cP) (.slice aB m cB) (used + 1) span C2) 124 (0,0)) :: .sl 5 1 (.slice aB m cB) m (u8s b) :: .sl 3 1 (.slice (some ⟨gP, 0, none⟩) n cP) n (i64s u.p) :: L)))
          case atStart => exact .inl ⟨rfl, rfl, hO⟩
          case round =>
            rcases hrel with ⟨rfl, rfl, hO1⟩ | ⟨rfl, rfl, hO1⟩
            · clear hO
              have hO := hO1
              clear hO1
              go_wp2_with (first
                | (go_at_call 65; refine (octet_calls b c HC.out HU.out HM.out HCD.out C2 HC2.out hO).mono ?_; rintro e ww ⟨rfl, hO2⟩; clear hO; have hO := hO2; clear hO2))
              go_roundg 0
              case measure => omega
              case rel => exact .inr ⟨rfl, rfl, hO⟩
            · clear hO
              have hO := hO1
              clear hO1
              go_wp2_with (first
                | ((with_reducible refine gLoad ?_); first | refine ldX hO 0 rfl rfl (tA rfl) (tS rfl) ?_ | refine ldC hO 0 rfl rfl (tA rfl) rfl ?_)
                | ((with_reducible refine gStore ?_); first | (refine stX hO 0 rfl rfl rfl rfl rfl (tS rfl) ?_; clear hO; intro ww hO) | (refine stC hO 0 rfl rfl rfl (ltb rfl) rfl (tS rfl) ?_; clear hO; intro ww hO)))
              go_ret2
              exact ⟨by rw [HBIT.out]; rfl, by rw [HTT.out]; exact hO⟩
    · have y4 : decide ((m : Int) - (used : Int) < 0) = false := decide_eq_false (by omega)
      have y5 : IntKind.u32.wrap (Z : Int) = (Z : Int) := by simp [IntKind.wrap, IntKind.bits, IntKind.signed]; omega
      have HTT : Hid (t = ⟨u.p, C1, Z, used⟩) := by show _ = _; rw [← HTN.out]; unfold Go.Kc.Rr.norm; rw [if_neg (by rw [HZZ.out]; exact hz), ← HC1.out, ← HZZ.out, ← HU3.out]
      have Y2 : Hid (¬ Z < 16777216) := hz
      clear hz hs2 q1 q2 q3 q4 q5 k3 k4 k5 k6 hc
      go_enter Tryd.func72, Tryd.ntmps72
      go_wp2_with (first
        | ((with_reducible refine gG ?_); refine wpList_want rfl ?_)
        | ((with_reducible refine gLoad ?_); first | refine ldX hO 0 rfl rfl (tA rfl) (tS rfl) ?_ | refine ldC hO 0 rfl rfl (tA rfl) rfl ?_))
      refine wp_region_textS (fun w' => Own w0 w' (.blk rb (.cells (rC (.slice (some ⟨gP, 0, none⟩) n cP) (.slice aB m cB) used span C1) 124 (0,0)) :: .sl 5 1 (.slice aB m cB) m (u8s b) :: .sl 3 1 (.slice (some ⟨gP, 0, none⟩) n cP) n (i64s r.p) :: L)) (fun op => match op with | .load _ _ => true | _ => false) (by kernel_rfl) (by kernel_rfl) hO.drew ?_
      replace hO := hO.drew
      generalize World.drew _ = wd at hO ⊢
      go_wp2_with (first
        | (((with_reducible refine gIL ?_); first | refine wpI_ldcS (fun w' hS => hS.blk 0 rfl) rfl rfl (tA rfl) rfl ?_); first | (refine wpI_act (by simp only [Act.put, List.setIfInBounds_toArray, List.set_cons_succ, List.set_cons_zero]; rfl) ?_) | skip)
        | ((with_reducible refine gIL ?_); refine wpI_ld1S (fun w' hS => (hS.slCell 2 rfl (by omega)).trans HG.out) rfl rfl (tA rfl) ?_; first | (refine wpI_act (by simp only [Act.put, List.setIfInBounds_toArray, List.set_cons_succ, List.set_cons_zero]; rfl) ?_) | skip)
        | (go_at_call 60; refine (HSP.out _).mono ?_; rintro e ww ⟨rfl, rfl⟩)
        | ((with_reducible refine gLoad ?_); first | refine ldX hO 0 rfl rfl (tA rfl) (tS rfl) ?_ | refine ldC hO 0 rfl rfl (tA rfl) rfl ?_)
        | ((with_reducible refine gStore ?_); first | (refine stX hO 0 rfl rfl rfl rfl rfl (tS rfl) ?_; clear hO; intro ww hO) | (refine stC hO 0 rfl rfl rfl (ltb rfl) rfl (tS rfl) ?_; clear hO; intro ww hO))
        | ((with_reducible refine gI ?_); refine wpI_step rfl rfl (by kernel_rfl) ?_; intro K hK; have HK := Lib.hid hK; clear hK) | ((with_reducible refine gI ?_); first | refine wpI_skip rfl ?_ | refine wpI_want rfl ?_) | ((with_reducible refine gOnlyK HK.out ?_ ?_); exact hO; clear HK K; first | (refine wpI_act (by simp only [Act.put, List.setIfInBounds_toArray, List.set_cons_succ, List.set_cons_zero]; rfl) ?_) | skip) | (with_reducible refine wpI_nil ?_))
      go_loopg [9, 10] 1 (fun q s9 s10 wr => q ≤ 1 ∧ s9 = .int .i64 0 ∧ s10 = .int .u32 (Z : Int) ∧ Own w0 wr (.blk rb (.cells (rC (.slice (some ⟨gP, 0, none⟩) n cP) (.slice aB m cB) used span C1) 124 (0,0)) :: .sl 5 1 (.slice aB m cB) m (u8s b) :: .sl 3 1 (.slice (some ⟨gP, 0, none⟩) n cP) n (i64s r.p) :: L))
      case atStart => exact ⟨by omega, rfl, rfl, hO⟩
      case round =>
        obtain ⟨hq, rfl, rfl, hO1⟩ := hrel
        clear hO hq
        have hO := hO1
        clear hO1
        have y2 : decide ((Z : Int) < 16777216) = false := decide_eq_false (by have h := Y2.out; omega)
        go_wp2
        clear y2
        refine wp_region_textS (fun w' => Own w0 w' (.blk rb (.cells (rC (.slice (some ⟨gP, 0, none⟩) n cP) (.slice aB m cB) used span C1) 124 (0,0)) :: .sl 5 1 (.slice aB m cB) m (u8s b) :: .sl 3 1 (.slice (some ⟨gP, 0, none⟩) n cP) n (i64s r.p) :: L)) (fun op => match op with | .load _ _ => true | _ => false) (by kernel_rfl) (by kernel_rfl) hO.drew ?_
        replace hO := hO.drew
        generalize World.drew _ = wd at hO ⊢
        go_wp2_with (first
          | (((with_reducible refine gIL ?_); first | refine wpI_ldcS (fun w' hS => hS.blk 0 rfl) rfl rfl (tA rfl) rfl ?_); first | (refine wpI_act (by simp only [Act.put, List.setIfInBounds_toArray, List.set_cons_succ, List.set_cons_zero]; rfl) ?_) | skip)
          | ((with_reducible refine gLoad ?_); first | refine ldX hO 0 rfl rfl (tA rfl) (tS rfl) ?_ | refine ldC hO 0 rfl rfl (tA rfl) rfl ?_)
          | ((with_reducible refine gStore ?_); first | (refine stX hO 0 rfl rfl rfl rfl rfl (tS rfl) ?_; clear hO; intro ww hO) | (refine stC hO 0 rfl rfl rfl (ltb rfl) rfl (tS rfl) ?_; clear hO; intro ww hO))
          | ((with_reducible refine gI ?_); refine wpI_step rfl rfl (by kernel_rfl) ?_; intro K hK; have HK := Lib.hid hK; clear hK) | ((with_reducible refine gI ?_); first | refine wpI_skip rfl ?_ | refine wpI_want rfl ?_) | ((with_reducible refine gOnlyK HK.out ?_ ?_); exact hO; clear HK K; first | (refine wpI_act (by simp only [Act.put, List.setIfInBounds_toArray, List.set_cons_succ, List.set_cons_zero]; rfl) ?_) | skip) | (with_reducible refine wpI_nil ?_))
        replace hO : Own w0 _ (.blk rb (.cells (rC (.slice (some ⟨gP, 0, none⟩) n cP) (.slice aB m cB) used span C1) 124 (0,0)) :: .sl 5 1 (.slice aB m cB) m (u8s b) :: .sl 3 1 (.slice (some ⟨gP, 0, none⟩) n cP) n (i64s r.p) :: L) := hO
        refine wp_region_textS (fun w' => Own w0 w' [.blk rb (.cells (rC (.slice (some ⟨gP, 0, none⟩) n cP) (.slice aB m cB) used span C1) 124 (0,0)), .sl 5 1 (.slice aB m cB) m (u8s b)]) (fun op => match op with | .load _ (.tmp 97) => false | .load _ _ => true | _ => false) (by kernel_rfl) (by kernel_rfl) hO.drew.take2 ?_
        replace hO := hO.drew
        generalize World.drew _ = wd2 at hO ⊢
        go_wp2_with (first
          | (((with_reducible refine gIL ?_); first | refine wpI_ldcS (fun w' hS => hS.blk 0 rfl) rfl rfl (tA rfl) rfl ?_); first | (refine wpI_act (by simp only [Act.put, List.setIfInBounds_toArray, List.set_cons_succ, List.set_cons_zero]; rfl) ?_) | skip)
          | ((with_reducible refine gLoad (T := 3) ?_); refine ld_sl hO 2 rfl rfl HG.out (tA rfl) ?_)
          | (go_at_call 61; refine (HLN.out _).mono ?_; rintro e ww ⟨rfl, rfl⟩)
          | ((with_reducible refine gStore (T := 3) ?_); refine own_setElem hO 2 3 _ _ _ rfl rfl rfl (by omega) ii64s rfl ?_; clear hO; intro ww hO)
          | ((with_reducible refine gI ?_); refine wpI_step rfl rfl (by kernel_rfl) ?_; intro K hK; have HK := Lib.hid hK; clear hK) | ((with_reducible refine gI ?_); first | refine wpI_skip rfl ?_ | refine wpI_want rfl ?_) | ((with_reducible refine gOnlyK HK.out ?_ ?_); exact hO.take2; clear HK K; first | (refine wpI_act (by simp only [Act.put, List.setIfInBounds_toArray, List.set_cons_succ, List.set_cons_zero]; rfl) ?_) | skip) | (with_reducible refine wpI_nil ?_))
        replace hO : Own w0 _ (.blk rb (.cells (rC (.slice (some ⟨gP, 0, none⟩) n cP) (.slice aB m cB) used span C1) 124 (0,0)) :: .sl 5 1 (.slice aB m cB) m (u8s b) :: .sl 3 1 (.slice (some ⟨gP, 0, none⟩) n cP) n ((i64s r.p).set a (.int .i64 (learnI pv false))) :: L) := hO
        rw [HSET.out] at hO
        go_loopg [105] 1 (fun q c wr => q ≤ 1 ∧ c = .int .i64 0 ∧ Own w0 wr (.blk rb (.cells (rC (.slice (some ⟨gP, 0, none⟩) n cP) (.slice aB m cB) used span C1) 124 (0,0)) :: .sl 5 1 (.slice aB m cB) m (u8s b) :: .sl 3 1 (.slice (some ⟨gP, 0, none⟩) n cP) n (i64s u.p) :: L))
        case atStart => exact ⟨by omega, rfl, hO⟩
        case round =>
          obtain ⟨hq, rfl, hO1⟩ := hrel
          clear hO hq
          have hO := hO1
          clear hO1
          go_wp2_with (first
            | ((with_reducible refine gLoad ?_); first | refine ldX hO 0 rfl rfl (tA rfl) (tS rfl) ?_ | refine ldC hO 0 rfl rfl (tA rfl) rfl ?_)
            | ((with_reducible refine gStore ?_); first | (refine stX hO 0 rfl rfl rfl rfl rfl (tS rfl) ?_; clear hO; intro ww hO) | (refine stC hO 0 rfl rfl rfl (ltb rfl) rfl (tS rfl) ?_; clear hO; intro ww hO)))
          go_ret2
          exact ⟨by rw [HBIT.out]; rfl, by rw [HTT.out]; exact hO⟩

set_option maxHeartbeats 8000000 in
set_option maxRecDepth 100000 in
theorem next_short {w0 w : World} {L : List Res} {rb : Nat} {aP : Option Addr} {n cP : Nat} {aB : Option Addr} {m cB : Nat} (r : Go.Kc.Rr) (b : List (BitVec 8)) (hr : Go.Kc.Rok n b r) (hb : b.length = m) (hm : m ≤ 10000000) (a : Nat) (ha : a < n) (hs : ¬ r.may b a)
    (hO : Own w0 w (.blk rb (.cells (rC (.slice aP n cP) (.slice aB m cB) r.used r.span r.code) 124 (0,0)) :: .sl 5 1 (.slice aB m cB) m (u8s b) :: .sl 3 1 (.slice aP n cP) n (i64s r.p) :: L)) :
    Calls Tryd.prog 72 #[.pointer (some ⟨rb, 0, none⟩), .int .i64 (a : Int)] w fun e w' => e = .returned (.tuple #[.bool false, .int .i64 2]) ∧ Own w0 w' (.blk rb (.cells (rC (.slice aP n cP) (.slice aB m cB) r.used r.span r.code) 124 (0,0)) :: .sl 5 1 (.slice aB m cB) m (u8s b) :: .sl 3 1 (.slice aP n cP) n (i64s r.p) :: L) := by
  obtain ⟨q1, q2⟩ := Go.Kc.rok_part hr ha
  obtain ⟨q3, q4, q5, q6, q7⟩ := Go.Kc.rok_mid hr ha
  obtain ⟨gP, rfl⟩ := hO.slPlace 2 rfl (by omega)
  obtain ⟨k1, k2, k3, k4, k5, k6⟩ := hr
  have hmv := Go.Kc.all_get k2 (by rw [k1]; exact ha)
  rw [kc_may] at hmv
  obtain ⟨pv, hpv⟩ : ∃ pv, r.p.getD a 0 = pv := ⟨_, rfl⟩
  obtain ⟨P, hP⟩ : ∃ P, r.part a = P := ⟨_, rfl⟩
  rw [hpv] at hmv
  rw [hP] at q1 q2
  have hg : (i64s r.p)[a]? = some (.int .i64 pv) := by
    rw [i64s_get r.p a (by omega), ← hpv, List.getD_eq_getElem?_getD, List.getElem?_eq_getElem (by omega)]; rfl
  have hset : (i64s r.p).set a (.int .i64 (learnI pv (r.set a))) = i64s (r.mid a).p := by
    unfold Go.Kc.Rr.mid i64s
    dsimp only
    rw [List.map_set, hpv]; rfl
  have hsp : ∀ w, Calls Tryd.prog 60 #[.int .u32 (r.span : Int), .int .i64 pv] w fun e w' => e = .returned (.tuple #[.int .u32 (P : Int), .int .i64 0]) ∧ w = w' := fun w => by
    have h := split_calls (r.span : Int) pv w (by omega) (by omega)
    have e : splitOk (r.span : Int) pv = true := by unfold splitOk; rw [hmv, decide_eq_true (by omega)]; rfl
    have e2 : splitI (r.span : Int) pv = (P : Int) := by
      have hp0 := ((mayB_iff pv).1 hmv).1
      rw [← hP]
      unfold splitI Go.Kc.Rr.part
      rw [hpv, Int.natCast_mul, Int.natCast_ediv, Int.toNat_of_nonneg (by omega)]; rfl
    rw [e, if_pos rfl, if_pos rfl, e2] at h
    exact h
  have hln : ∀ bt w, Calls Tryd.prog 61 #[.int .i64 pv, .bool bt] w fun e w' => e = .returned (.tuple #[.int .i64 (learnI pv bt), .int .i64 0]) ∧ w = w' := fun bt w => by
    have h := Learn_calls pv bt w
    rw [hmv, if_pos rfl, if_pos rfl] at h
    exact h
  have hbit : r.set a = decide (P ≤ r.code) := by rw [← hP]; rfl
  have hm1 : (r.mid a).code = if r.set a then r.code - P else r.code := by rw [← hP]; rfl
  have hm2 : (r.mid a).span = if r.set a then r.span - P else P := by rw [← hP]; rfl
  have hm3 : (r.mid a).used = r.used := rfl
  have HSP := Lib.hid hsp
  have HG := Lib.hid hg
  have hs2 : (r.mid a).span < 16777216 ∧ m ≤ r.used := by
    have h := hs
    rw [Go.Kc.may_iff, hb] at h
    exact Classical.not_not.1 h
  obtain ⟨u, hu⟩ : ∃ u, r.mid a = u := ⟨_, rfl⟩
  rw [hu] at hset hm1 hm2 hm3 hs2 q3 q4 q5
  obtain ⟨used, hus⟩ : ∃ x, r.used = x := ⟨_, rfl⟩
  obtain ⟨span, hsp2⟩ : ∃ x, r.span = x := ⟨_, rfl⟩
  obtain ⟨code, hco⟩ : ∃ x, r.code = x := ⟨_, rfl⟩
  obtain ⟨C1, hC1⟩ : ∃ x, u.code = x := ⟨_, rfl⟩
  obtain ⟨Z, hZ⟩ : ∃ x, u.span = x := ⟨_, rfl⟩
  rw [hus] at hs2 hm3 hO k6
  rw [hsp2] at HSP hm2 hO q2 k3 k4
  rw [hco] at hbit hm1 hO
  rw [hZ] at hm2 hs2 q3 q4 q5
  rw [hC1] at hm1 q3
  rw [hb] at k6
  have HUS := Lib.hid hus
  have HSS := Lib.hid hsp2
  have HCO := Lib.hid hco
  have HB := Lib.hid hb
  have HBIT0 := Lib.hid hbit
  have HM := Lib.hid hm
  have HSET0 := Lib.hid hset
  have HU3 := Lib.hid hm3
  have HC1 := Lib.hid hC1
  have HZZ := Lib.hid hZ
  rw [hbit] at hm1 hm2
  have i1 : IntKind.i64.wrap ((m : Int) - (used : Int)) = (m : Int) - (used : Int) := by rw [IntKind.wrap_i64]; omega
  have i2 : decide ((a : Int) < 0) = false := decide_eq_false (by omega)
  have i3 : decide ((n : Int) ≤ (a : Int)) = false := decide_eq_false (by omega)
  have i4 : decide (n ≤ a) = false := decide_eq_false (by omega)
  clear hb hm k1 k2 hs hmv hpv hP hg hsp hus hsp2 hco hC1 hZ hu q6 q7 hm3
  by_cases hc : P ≤ code
  · have hbt : decide (P ≤ code) = true := decide_eq_true hc
    rw [hbit, hbt] at hset
    rw [hbt] at hm1 hm2
    simp only [Bool.false_eq_true, if_true, if_false] at hm1 hm2
    have HBIT : Hid (r.set a = true) := by show _ = _; rw [HBIT0.out, hbt]
    have HSET := Lib.hid hset
    have HLN := Lib.hid (hln true)
    clear hbit hbt hset hln HSET0 HBIT0
    have dP2 : decide (P ≤ code) = true := decide_eq_true (by omega)
    have dP : decide ((P : Int) ≤ (code : Int)) = true := decide_eq_true (by omega)
    have a3 : IntKind.u32.wrap ((span : Int) - (P : Int)) = (Z : Int) := by simp [IntKind.wrap, IntKind.bits, IntKind.signed]; omega
    clear hm1 hm2
    obtain ⟨Y, hY⟩ : ∃ x, Z * 256 = x := ⟨_, rfl⟩
    have y1 : IntKind.u32.wrap ((Z : Int) * 256) = (Y : Int) := by simp [IntKind.wrap, IntKind.bits, IntKind.signed]; omega
    have y4 : decide ((m : Int) - (used : Int) < 1) = true := decide_eq_true (by omega)
    have YB : Hid (Z * 256 = Y) := hY
    have Y2 : Hid (Z < 16777216) := hs2.1
    have Y3 : Hid (16777216 ≤ Y) := by show _ ≤ _; omega
    clear hY hs2 q1 q2 q3 q4 q5 k3 k4 k5 k6 hc
    go_enter Tryd.func72, Tryd.ntmps72
    go_wp2_with (first
      | ((with_reducible refine gG ?_); refine wpList_want rfl ?_)
      | ((with_reducible refine gLoad ?_); first | refine ldX hO 0 rfl rfl (tA rfl) (tS rfl) ?_ | refine ldC hO 0 rfl rfl (tA rfl) rfl ?_))
    refine wp_region_textS (fun w' => Own w0 w' (.blk rb (.cells (rC (.slice (some ⟨gP, 0, none⟩) n cP) (.slice aB m cB) used span code) 124 (0,0)) :: .sl 5 1 (.slice aB m cB) m (u8s b) :: .sl 3 1 (.slice (some ⟨gP, 0, none⟩) n cP) n (i64s r.p) :: L)) (fun op => match op with | .load _ _ => true | _ => false) (by kernel_rfl) (by kernel_rfl) hO.drew ?_
    replace hO := hO.drew
    generalize World.drew _ = wd at hO ⊢
    go_wp2_with (first
      | (((with_reducible refine gIL ?_); first | refine wpI_ldcS (fun w' hS => hS.blk 0 rfl) rfl rfl (tA rfl) rfl ?_); first | (refine wpI_act (by simp only [Act.put, List.setIfInBounds_toArray, List.set_cons_succ, List.set_cons_zero]; rfl) ?_) | skip)
      | ((with_reducible refine gIL ?_); refine wpI_ld1S (fun w' hS => (hS.slCell 2 rfl (by omega)).trans HG.out) rfl rfl (tA rfl) ?_; first | (refine wpI_act (by simp only [Act.put, List.setIfInBounds_toArray, List.set_cons_succ, List.set_cons_zero]; rfl) ?_) | skip)
      | (go_at_call 60; refine (HSP.out _).mono ?_; rintro e ww ⟨rfl, rfl⟩)
      | ((with_reducible refine gLoad ?_); first | refine ldX hO 0 rfl rfl (tA rfl) (tS rfl) ?_ | refine ldC hO 0 rfl rfl (tA rfl) rfl ?_)
      | ((with_reducible refine gStore ?_); first | (refine stX hO 0 rfl rfl rfl rfl rfl (tS rfl) ?_; clear hO; intro ww hO) | (refine stC hO 0 rfl rfl rfl (ltb rfl) rfl (tS rfl) ?_; clear hO; intro ww hO))
      | ((with_reducible refine gI ?_); refine wpI_step rfl rfl (by kernel_rfl) ?_; intro K hK; have HK := Lib.hid hK; clear hK) | ((with_reducible refine gI ?_); first | refine wpI_skip rfl ?_ | refine wpI_want rfl ?_) | ((with_reducible refine gOnlyK HK.out ?_ ?_); exact hO; clear HK K; first | (refine wpI_act (by simp only [Act.put, List.setIfInBounds_toArray, List.set_cons_succ, List.set_cons_zero]; rfl) ?_) | skip) | (with_reducible refine wpI_nil ?_))
    go_loopg [9, 10] 1 (fun q s9 s10 wr => Own w0 wr (.blk rb (.cells (rC (.slice (some ⟨gP, 0, none⟩) n cP) (.slice aB m cB) used span code) 124 (0,0)) :: .sl 5 1 (.slice aB m cB) m (u8s b) :: .sl 3 1 (.slice (some ⟨gP, 0, none⟩) n cP) n (i64s r.p) :: L) ∧ ((q = 1 ∧ s9 = .int .i64 0 ∧ s10 = .int .u32 (Z : Int)) ∨ (q = 0 ∧ s9 = .int .i64 1 ∧ s10 = .int .u32 (Y : Int))))
    case atStart => exact ⟨hO, .inl ⟨rfl, rfl, rfl⟩⟩
    case round =>
      obtain ⟨hO1, hrel⟩ := hrel
      clear hO
      have hO := hO1
      clear hO1
      rcases hrel with ⟨rfl, rfl, rfl⟩ | ⟨rfl, rfl, rfl⟩
      · have y2 : decide ((Z : Int) < 16777216) = true := decide_eq_true (by have h := Y2.out; omega)
        go_wp2
        go_roundg 0
        case measure => omega
        case rel => exact ⟨hO, .inr ⟨rfl, rfl, rfl⟩⟩
      · have y3 : decide ((Y : Int) < 16777216) = false := decide_eq_false (by have h := Y3.out; omega)
        go_wp2
        clear y3
        refine wp_region_textS (fun w' => Own w0 w' (.blk rb (.cells (rC (.slice (some ⟨gP, 0, none⟩) n cP) (.slice aB m cB) used span code) 124 (0,0)) :: .sl 5 1 (.slice aB m cB) m (u8s b) :: .sl 3 1 (.slice (some ⟨gP, 0, none⟩) n cP) n (i64s r.p) :: L)) (fun op => match op with | .load _ _ => true | _ => false) (by kernel_rfl) (by kernel_rfl) hO.drew ?_
        replace hO := hO.drew
        generalize World.drew _ = wd at hO ⊢
        go_wp2_with (first
          | (((with_reducible refine gIL ?_); first | refine wpI_ldcS (fun w' hS => hS.blk 0 rfl) rfl rfl (tA rfl) rfl ?_); first | (refine wpI_act (by simp only [Act.put, List.setIfInBounds_toArray, List.set_cons_succ, List.set_cons_zero]; rfl) ?_) | skip)
          | ((with_reducible refine gLoad ?_); first | refine ldX hO 0 rfl rfl (tA rfl) (tS rfl) ?_ | refine ldC hO 0 rfl rfl (tA rfl) rfl ?_)
          | ((with_reducible refine gStore ?_); first | (refine stX hO 0 rfl rfl rfl rfl rfl (tS rfl) ?_; clear hO; intro ww hO) | (refine stC hO 0 rfl rfl rfl (ltb rfl) rfl (tS rfl) ?_; clear hO; intro ww hO))
          | ((with_reducible refine gI ?_); refine wpI_step rfl rfl (by kernel_rfl) ?_; intro K hK; have HK := Lib.hid hK; clear hK) | ((with_reducible refine gI ?_); first | refine wpI_skip rfl ?_ | refine wpI_want rfl ?_) | ((with_reducible refine gOnlyK HK.out ?_ ?_); exact hO; clear HK K; first | (refine wpI_act (by simp only [Act.put, List.setIfInBounds_toArray, List.set_cons_succ, List.set_cons_zero]; rfl) ?_) | skip) | (with_reducible refine wpI_nil ?_))
        go_ret2
        exact ⟨rfl, by rw [HUS.out, HSS.out, HCO.out]; exact hO⟩
  · have hbt : decide (P ≤ code) = false := decide_eq_false hc
    rw [hbit, hbt] at hset
    rw [hbt] at hm1 hm2
    simp only [Bool.false_eq_true, if_true, if_false] at hm1 hm2
    have HBIT : Hid (r.set a = false) := by show _ = _; rw [HBIT0.out, hbt]
    have HSET := Lib.hid hset
    have HLN := Lib.hid (hln false)
    clear hbit hbt hset hln HSET0 HBIT0
    have dP2 : decide (P ≤ code) = false := decide_eq_false (by omega)
    have dP : decide ((P : Int) ≤ (code : Int)) = false := decide_eq_false (by omega)
    subst hm1
    subst hm2
    obtain ⟨Y, hY⟩ : ∃ x, Z * 256 = x := ⟨_, rfl⟩
    have y1 : IntKind.u32.wrap ((Z : Int) * 256) = (Y : Int) := by simp [IntKind.wrap, IntKind.bits, IntKind.signed]; omega
    have y4 : decide ((m : Int) - (used : Int) < 1) = true := decide_eq_true (by omega)
    have YB : Hid (Z * 256 = Y) := hY
    have Y2 : Hid (Z < 16777216) := hs2.1
    have Y3 : Hid (16777216 ≤ Y) := by show _ ≤ _; omega
    clear hY hs2 q1 q2 q3 q4 q5 k3 k4 k5 k6 hc
    go_enter Tryd.func72, Tryd.ntmps72
    go_wp2_with (first
      | ((with_reducible refine gG ?_); refine wpList_want rfl ?_)
      | ((with_reducible refine gLoad ?_); first | refine ldX hO 0 rfl rfl (tA rfl) (tS rfl) ?_ | refine ldC hO 0 rfl rfl (tA rfl) rfl ?_))
    refine wp_region_textS (fun w' => Own w0 w' (.blk rb (.cells (rC (.slice (some ⟨gP, 0, none⟩) n cP) (.slice aB m cB) used span C1) 124 (0,0)) :: .sl 5 1 (.slice aB m cB) m (u8s b) :: .sl 3 1 (.slice (some ⟨gP, 0, none⟩) n cP) n (i64s r.p) :: L)) (fun op => match op with | .load _ _ => true | _ => false) (by kernel_rfl) (by kernel_rfl) hO.drew ?_
    replace hO := hO.drew
    generalize World.drew _ = wd at hO ⊢
    go_wp2_with (first
      | (((with_reducible refine gIL ?_); first | refine wpI_ldcS (fun w' hS => hS.blk 0 rfl) rfl rfl (tA rfl) rfl ?_); first | (refine wpI_act (by simp only [Act.put, List.setIfInBounds_toArray, List.set_cons_succ, List.set_cons_zero]; rfl) ?_) | skip)
      | ((with_reducible refine gIL ?_); refine wpI_ld1S (fun w' hS => (hS.slCell 2 rfl (by omega)).trans HG.out) rfl rfl (tA rfl) ?_; first | (refine wpI_act (by simp only [Act.put, List.setIfInBounds_toArray, List.set_cons_succ, List.set_cons_zero]; rfl) ?_) | skip)
      | (go_at_call 60; refine (HSP.out _).mono ?_; rintro e ww ⟨rfl, rfl⟩)
      | ((with_reducible refine gLoad ?_); first | refine ldX hO 0 rfl rfl (tA rfl) (tS rfl) ?_ | refine ldC hO 0 rfl rfl (tA rfl) rfl ?_)
      | ((with_reducible refine gStore ?_); first | (refine stX hO 0 rfl rfl rfl rfl rfl (tS rfl) ?_; clear hO; intro ww hO) | (refine stC hO 0 rfl rfl rfl (ltb rfl) rfl (tS rfl) ?_; clear hO; intro ww hO))
      | ((with_reducible refine gI ?_); refine wpI_step rfl rfl (by kernel_rfl) ?_; intro K hK; have HK := Lib.hid hK; clear hK) | ((with_reducible refine gI ?_); first | refine wpI_skip rfl ?_ | refine wpI_want rfl ?_) | ((with_reducible refine gOnlyK HK.out ?_ ?_); exact hO; clear HK K; first | (refine wpI_act (by simp only [Act.put, List.setIfInBounds_toArray, List.set_cons_succ, List.set_cons_zero]; rfl) ?_) | skip) | (with_reducible refine wpI_nil ?_))
    go_loopg [9, 10] 1 (fun q s9 s10 wr => Own w0 wr (.blk rb (.cells (rC (.slice (some ⟨gP, 0, none⟩) n cP) (.slice aB m cB) used span C1) 124 (0,0)) :: .sl 5 1 (.slice aB m cB) m (u8s b) :: .sl 3 1 (.slice (some ⟨gP, 0, none⟩) n cP) n (i64s r.p) :: L) ∧ ((q = 1 ∧ s9 = .int .i64 0 ∧ s10 = .int .u32 (Z : Int)) ∨ (q = 0 ∧ s9 = .int .i64 1 ∧ s10 = .int .u32 (Y : Int))))
    case atStart => exact ⟨hO, .inl ⟨rfl, rfl, rfl⟩⟩
    case round =>
      obtain ⟨hO1, hrel⟩ := hrel
      clear hO
      have hO := hO1
      clear hO1
      rcases hrel with ⟨rfl, rfl, rfl⟩ | ⟨rfl, rfl, rfl⟩
      · have y2 : decide ((Z : Int) < 16777216) = true := decide_eq_true (by have h := Y2.out; omega)
        go_wp2
        go_roundg 0
        case measure => omega
        case rel => exact ⟨hO, .inr ⟨rfl, rfl, rfl⟩⟩
      · have y3 : decide ((Y : Int) < 16777216) = false := decide_eq_false (by have h := Y3.out; omega)
        go_wp2
        clear y3
        refine wp_region_textS (fun w' => Own w0 w' (.blk rb (.cells (rC (.slice (some ⟨gP, 0, none⟩) n cP) (.slice aB m cB) used span C1) 124 (0,0)) :: .sl 5 1 (.slice aB m cB) m (u8s b) :: .sl 3 1 (.slice (some ⟨gP, 0, none⟩) n cP) n (i64s r.p) :: L)) (fun op => match op with | .load _ _ => true | _ => false) (by kernel_rfl) (by kernel_rfl) hO.drew ?_
        replace hO := hO.drew
        generalize World.drew _ = wd at hO ⊢
        go_wp2_with (first
          | (((with_reducible refine gIL ?_); first | refine wpI_ldcS (fun w' hS => hS.blk 0 rfl) rfl rfl (tA rfl) rfl ?_); first | (refine wpI_act (by simp only [Act.put, List.setIfInBounds_toArray, List.set_cons_succ, List.set_cons_zero]; rfl) ?_) | skip)
          | ((with_reducible refine gLoad ?_); first | refine ldX hO 0 rfl rfl (tA rfl) (tS rfl) ?_ | refine ldC hO 0 rfl rfl (tA rfl) rfl ?_)
          | ((with_reducible refine gStore ?_); first | (refine stX hO 0 rfl rfl rfl rfl rfl (tS rfl) ?_; clear hO; intro ww hO) | (refine stC hO 0 rfl rfl rfl (ltb rfl) rfl (tS rfl) ?_; clear hO; intro ww hO))
          | ((with_reducible refine gI ?_); refine wpI_step rfl rfl (by kernel_rfl) ?_; intro K hK; have HK := Lib.hid hK; clear hK) | ((with_reducible refine gI ?_); first | refine wpI_skip rfl ?_ | refine wpI_want rfl ?_) | ((with_reducible refine gOnlyK HK.out ?_ ?_); exact hO; clear HK K; first | (refine wpI_act (by simp only [Act.put, List.setIfInBounds_toArray, List.set_cons_succ, List.set_cons_zero]; rfl) ?_) | skip) | (with_reducible refine wpI_nil ?_))
        go_ret2
        exact ⟨rfl, by rw [HUS.out, HSS.out, HCO.out]; exact hO⟩

end Go.Proofs.YtniibdglodnhoaaDoor

/- Walk: NewReader. -/
namespace Go.Own
open Go.RowKit
/-- what a callee has made, ahead of what was there -/
theorem Own.join {w0 w w' : World} {L K : List Res} (h : Own w0 w L) (g : Own w w' K) : Own w0 w' (K ++ L) :=
  ⟨(h.call g.below).below, fun r hr => (List.mem_append.1 hr).elim (fun hk => (g.mem r hk).mono h.below.size) ((h.call g.below).mem r), List.pairwise_append.2 ⟨g.apart, h.apart, fun r hr s hs k hk hs' => by
    have h1 := ((g.mem r hr).foot hk).1
    have h2 := ((h.mem s hs).foot hs').2
    omega⟩⟩
end Go.Own
namespace Go.Kc
theorem be4 {b : List (BitVec 8)} (j : Nat) (hj : 1 + j < b.length) : val ((b.drop 1).take (j + 1)) = val ((b.drop 1).take j) * 256 + (b.getD (1 + j) 0).toNat := by
  have hl : j < (b.drop 1).length := by simp; omega
  rw [List.take_succ_eq_append_getElem hl, val_snoc, Nat.mul_comm]
  congr 2
  have e : b.getD (1 + j) 0 = b[1 + j] := by simp [hj]
  rw [e, List.getElem_drop]
theorem lt4 (b : List (BitVec 8)) (j : Nat) (hj : j ≤ 3) : val ((b.drop 1).take j) < 16777216 := by
  refine Nat.lt_of_lt_of_le (val_lt _) ?_
  refine Nat.le_trans (Nat.pow_le_pow_right (by decide) (show _ ≤ 3 by rw [List.length_take]; omega)) (by decide)
end Go.Kc
namespace Go.Proofs.YtniibdglodnhoaaDoor
open Go.RowKit Go.Own Go.Bv Go.Ord Go.Eq Go.Opn Go.Pb

set_option maxHeartbeats 2000000 in
set_option maxRecDepth 100000 in
theorem cloneb_calls (a : Option Addr) (n c : Nat) (bs : List (BitVec 8)) (w : World) (hR : Rd w 1 a n c (u8s bs)) (hn : n ≤ 10000000) :
    Calls Tryd.prog 22 #[.slice a n c] w fun e w' => ∃ a' c', e = .returned (.slice a' n c') ∧ Below w.heap.size w w' ∧ w'.ownsRow w.heap.size 5 1 (.slice a' n c') n (u8s bs) := by
  have hO := Own.start w
  cases a with
  | none =>
    obtain ⟨rfl, rfl⟩ := hR.nil rfl
    have hb : u8s bs = [] := List.eq_nil_of_length_eq_zero (by rw [hR.len])
    rw [hb]
    have hnil : ∀ W, (binOp .eql 28 (.slice none 0 0) (.slice none 0 0)).run Tryd.prog W = .ok (.bool true) W := fun W => Go.run_eql_slice_nil W _ _ none 0 0 Tryd.underlying28
    clear hR hb
    generalize hW : w = wn at hO ⊢
    clear hW w
    go_enter Tryd.func22, Tryd.ntmps22
    go_wp2
    go_ret
    exact ⟨_, _, rfl, hO.below, World.ownsRow_nil _ _ _ _⟩
  | some ad =>
    have HR := Lib.hid hR
    have hnil : ∀ W, (binOp .eql 28 (.slice (some ad) n c) (.slice none 0 0)).run Tryd.prog W = .ok (.bool false) W := fun W => Go.run_eql_slice_nil W _ _ (some ad) n c Tryd.underlying28
    clear hR
    generalize hW : w = wn at hO HR ⊢
    clear hW w
    go_enter Tryd.func22, Tryd.ntmps22
    go_wp2_with (first
      | ((with_reducible refine gBuild ?_); refine own_build0 hO 28 eu8 ?_; clear hO; intro g ww hO)
      | ((with_reducible refine gAppend ?_); refine own_append hO 0 _ _ 28 eu8 rfl rfl rfl (hO.rd HR.out) (u8s_one _) n (by omega) (by simp [maxLen]; omega) (by omega) ?_; clear hO; intro a2 c2 ww hO))
    go_ret
    exact ⟨_, _, rfl, hO.below, hO.row 0 rfl⟩

/-- what NewReader hands back of a text that may be one -/
def newPost (w w' : World) (e : Ending) (n m V : Nat) (b : List (BitVec 8)) : Prop :=
      if V = 4294967295 then e = .returned (.tuple #[.pointer none, .int .i64 2]) ∧ Below w.heap.size w w' else
      ∃ rb aP cP aB cB, e = .returned (.tuple #[.pointer (some ⟨rb, 0, none⟩), .int .i64 0]) ∧
      Own w w' [.blk rb (.cells (rC (.slice aP n cP) (.slice aB m cB) 5 4294967295 V) 124 (0,0)), .sl 5 1 (.slice aB m cB) m (u8s b), .sl 3 1 (.slice aP n cP) n (i64s (List.replicate n 1024))]

set_option maxHeartbeats 4000000 in
set_option maxRecDepth 100000 in
theorem newR_ok (n : Nat) (hn : n ≤ 1024) (a : Option Addr) (m cap : Nat) (b : List (BitVec 8)) (w : World) (hR : Rd w 1 a m cap (u8s b)) (hm : m ≤ 10000000) (hb : b.length = m) (h5 : 5 ≤ m) (h0 : b.getD 0 0 = 0#8) (V : Nat) (hV : Go.Kc.val ((b.drop 1).take 4) = V) :
    Calls Tryd.prog 53 #[.int .i64 (n : Int), .slice a m cap] w fun e w' =>
      newPost w w' e n m V b := by
  have hO := Own.start w
  have hnT : newT (n : Int) = List.replicate n 1024 := by unfold newT; rw [if_pos (by omega), Int.toNat_natCast]
  have hnE : newE (n : Int) = 0 := by unfold newE; rw [if_pos (by omega)]
  have HNEW := Lib.hid (fun w => new_calls (n : Int) w n (List.replicate n 1024) 0 (by rw [hnT, List.length_replicate]) hnT hnE)
  have HCL := Lib.hid (fun w h => cloneb_calls a m cap b w h hm)
  have HB := Lib.hid hb
  have hg0 : (u8s b)[0]? = some (.int .u8 0) := by
    have h : 0 < b.length := by omega
    rw [u8s_get b 0 h]
    have h0' : b[0] = 0#8 := by rw [← h0]; simp [h]
    rw [h0']; rfl
  have HG0 := Lib.hid hg0
  have HM := Lib.hid hm
  have HR := Lib.hid hR
  have HV := Lib.hid hV
  obtain ⟨ba, off, rfl⟩ := hR.place (by omega)
  have d1 : decide ((m : Int) < 5) = false := decide_eq_false (by omega)
  have hm5 : 0 < m := by omega
  have H5 := Lib.hid h5
  clear hR hb h0 hg0 hnT hnE hm hV h5
  generalize hWW : w = wn at hO HR ⊢
  clear hWW w
  go_enter Tryd.func53, Tryd.ntmps53
  go_wp2_with (first
    | ((with_reducible refine gG ?_); refine wpList_want rfl ?_)
    | (go_at_call 43; refine (HNEW.out _).mono ?_; rintro e ww ⟨a1, c1, rfl, hb, hr⟩; replace hO := hO.addRow hb hr; clear hb hr)
    | ((with_reducible refine gLoad (T := 5) ?_); refine ld_rd (hO.rd HR.out) rfl HG0.out (tA rfl) ?_)
    | (go_at_call 22; refine (HCL.out _ (hO.rd HR.out)).mono ?_; rintro e ww ⟨a2, c2, rfl, hb, hr⟩; replace hO := hO.addRow hb hr; clear hb hr)
    | ((with_reducible refine gBld (T := 124) ?_); refine own_bld (rC (.slice a1 n c1) (.slice a2 m c2) 1 4294967295 0) (by kernel_rfl) ?_)
    | ((with_reducible refine gBox ?_); first | (refine bxA hO rfl ?_; clear hO; intro rb ww hO) | (refine bx1 hO rfl rfl ?_; clear hO; intro rb ww hO)))
  go_loopg [] 4 (fun q wr => ∃ (j us code : Nat), q = 4 - j ∧ j ≤ 4 ∧ Hid (us = 1 + j) ∧ Hid (Go.Kc.val ((b.drop 1).take j) = code) ∧
    Own wn wr [.blk rb (.cells (rC (.slice a1 n c1) (.slice a2 m c2) us 4294967295 code) 124 (0,0)), .sl 5 1 (.slice a2 m c2) m (u8s b), .sl 3 1 (.slice a1 n c1) n (i64s (List.replicate n 1024))])
  case atStart => exact ⟨0, 1, 0, rfl, by omega, rfl, rfl, hO⟩
  case round =>
    obtain ⟨j, us, code, rfl, hj, HU, HC, hO1⟩ := hrel
    clear hO
    have hO := hO1
    clear hO1
    by_cases hj4 : j < 4
    · have d2 : decide ((us : Int) < 5) = true := decide_eq_true (by have := HU.out; omega)
      have hlt : us < b.length := by have h1 := HU.out; have h2 := HB.out; have h3 := H5.out; omega
      have hx : b[us]? = some (b.getD us 0) := by simp [hlt]
      obtain ⟨C, hC⟩ : ∃ C, code * 256 + (b.getD us 0).toNat = C := ⟨_, rfl⟩
      have HN : Hid (Go.Kc.val ((b.drop 1).take (j + 1)) = C) := by
        show _ = _
        rw [Go.Kc.be4 j (by rw [← HU.out]; exact hlt), HC.out, ← HU.out, hC]
      have hcl : code < 16777216 := by rw [← HC.out]; exact Go.Kc.lt4 b j (by omega)
      have HX := Lib.hid hx
      have HCC := Lib.hid hC
      have HCL2 := Lib.hid hcl
      have HLT : Hid (us < m) := by show us < m; rw [← HB.out]; exact hlt
      clear hx hC hcl hlt
      go_wp2_with (first
        | ((with_reducible refine gLoad ?_); first | refine ldX hO 0 rfl rfl (tA rfl) (tS rfl) ?_ | refine ldC hO 0 rfl rfl (tA rfl) rfl ?_)
        | (go_at_call 65; refine (octet_calls b _ HX.out HLT.out HM.out HCL2.out C HCC.out hO).mono ?_; rintro e ww ⟨rfl, hO2⟩; clear hO; have hO := hO2; clear hO2))
      go_roundg (4 - (j + 1))
      case measure => omega
      case rel => exact ⟨j + 1, us + 1, C, rfl, by omega, (by have h := HU.out; show us + 1 = 1 + (j + 1); omega), HN, hO⟩
    · obtain rfl : j = 4 := by omega
      obtain rfl : us = 5 := HU.out
      obtain rfl : code = V := by rw [← HC.out, HV.out]
      clear HC HV HU
      by_cases hv : code = 4294967295
      · subst hv
        go_wp2_with (first
          | ((with_reducible refine gLoad ?_); first | refine ldX hO 0 rfl rfl (tA rfl) (tS rfl) ?_ | refine ldC hO 0 rfl rfl (tA rfl) rfl ?_))
        go_ret2
        unfold newPost
        rw [if_pos rfl]
        exact ⟨rfl, hO.below⟩
      · have d3 : ((code : Int) == 4294967295) = false := by simp; omega
        have HNV : Hid (¬ code = 4294967295) := hv
        clear hv
        go_wp2_with (first
          | ((with_reducible refine gLoad ?_); first | refine ldX hO 0 rfl rfl (tA rfl) (tS rfl) ?_ | refine ldC hO 0 rfl rfl (tA rfl) rfl ?_))
        go_ret2
        unfold newPost
        rw [if_neg HNV.out]
        exact ⟨rb, a1, c1, a2, c2, rfl, hO⟩
end Go.Proofs.YtniibdglodnhoaaDoor

/- Walk: NewReader, whatever it is given; Next of what may not be; Used. -/
namespace Go.Proofs.YtniibdglodnhoaaDoor
open Go.RowKit Go.Own Go.Bv Go.Ord Go.Eq Go.Opn Go.Pb

set_option maxHeartbeats 4000000 in
set_option maxRecDepth 100000 in
theorem newR_bad (x : Int) (a : Option Addr) (m cap : Nat) (b : List (BitVec 8)) (w : World) (hR : Rd w 1 a m cap (u8s b)) (hm : m ≤ 10000000) (E : Int) (hE : Go.Kc.opE x b = E) (h0 : E ≠ 0) :
    Calls Tryd.prog 53 #[.int .i64 x, .slice a m cap] w fun e w' => e = .returned (.tuple #[.pointer none, .int .i64 E]) ∧ Below w.heap.size w w' := by
  have hb : b.length = m := by have := hR.len; rw [u8s_length] at this; omega
  have hO := Own.start w
  by_cases hx : 0 ≤ x ∧ x ≤ 1024
  · obtain ⟨n, rfl⟩ : ∃ n : Nat, x = (n : Int) := ⟨x.toNat, by omega⟩
    have hnT : newT (n : Int) = List.replicate n 1024 := by unfold newT; rw [if_pos (by omega), Int.toNat_natCast]
    have hnE : newE (n : Int) = 0 := by unfold newE; rw [if_pos (by omega)]
    have HNEW := Lib.hid (fun w => new_calls (n : Int) w n (List.replicate n 1024) 0 (by rw [hnT, List.length_replicate]) hnT hnE)
    have hmo : ¬ Go.Kc.mayOpen b := by
      intro h
      unfold Go.Kc.opE at hE
      rw [if_pos hx, if_pos h] at hE
      exact h0 hE.symm
    have e1 : E = 2 := by rw [← hE]; unfold Go.Kc.opE; rw [if_pos hx, if_neg hmo]
    subst e1
    by_cases h5 : m < 5
    · have d1 : decide ((m : Int) < 5) = true := decide_eq_true (by omega)
      clear hE hnT hnE hR hx hb hmo h0
      generalize hWW : w = wn at hO ⊢
      clear hWW w
      go_enter Tryd.func53, Tryd.ntmps53
      go_wp2_with (first
        | ((with_reducible refine gG ?_); refine wpList_want rfl ?_)
        | (go_at_call 43; refine (HNEW.out _).mono ?_; rintro e ww ⟨a1, c1, rfl, hb, hr⟩; replace hO := hO.addRow hb hr; clear hb hr))
      go_ret2
      exact ⟨rfl, hO.below⟩
    · by_cases hz : b.getD 0 0 = 0#8
      · have hV : Go.Kc.val ((b.drop 1).take 4) = 4294967295 := by
          apply Classical.byContradiction
          intro hne
          exact hmo ⟨by omega, hz, hne⟩
        refine (newR_ok n (by omega) a m cap b w hR hm hb (by omega) hz _ rfl).mono ?_
        rintro e w' h
        unfold newPost at h
        rw [if_pos hV] at h
        exact h
      · have d1 : decide ((m : Int) < 5) = false := decide_eq_false (by omega)
        have h0b : 0 < b.length := by omega
        have hg0 : (u8s b)[0]? = some (.int .u8 ((b.getD 0 0).toNat : Int)) := by
          rw [u8s_get b 0 h0b]; simp [h0b]
        have hzz : ((b.getD 0 0).toNat : Int) ≠ 0 := by
          intro h; exact hz (BitVec.eq_of_toNat_eq (by simpa using h))
        generalize b.getD 0 0 = c0 at hg0 hzz
        have dz : ((c0.toNat : Int) == 0) = false := by simpa using hzz
        have HG0 := Lib.hid hg0
        have HR := Lib.hid hR
        obtain ⟨ba, off, rfl⟩ := hR.place (by omega)
        have hm5 : 0 < m := by omega
        clear hE hnT hnE hR hx hb hmo h0 hz h0b hg0 hzz
        generalize hWW : w = wn at hO HR ⊢
        clear hWW w
        go_enter Tryd.func53, Tryd.ntmps53
        go_wp2_with (first
          | ((with_reducible refine gG ?_); refine wpList_want rfl ?_)
          | (go_at_call 43; refine (HNEW.out _).mono ?_; rintro e ww ⟨a1, c1, rfl, hb, hr⟩; replace hO := hO.addRow hb hr; clear hb hr)
          | ((with_reducible refine gLoad (T := 5) ?_); refine ld_rd (hO.rd HR.out) rfl HG0.out (tA rfl) ?_))
        go_ret2
        exact ⟨rfl, hO.below⟩
  · have e1 : E = 1 := by rw [← hE]; unfold Go.Kc.opE; rw [if_neg hx]
    subst e1
    have hnT : newT x = [] := by unfold newT; rw [if_neg hx]
    have hnE : newE x = 1 := by unfold newE; rw [if_neg hx]
    have HNEW := Lib.hid (fun w => new_calls x w 0 [] 1 (by rw [hnT]; rfl) hnT hnE)
    clear hE hnT hnE hR hx hb h0
    generalize hWW : w = wn at hO ⊢
    clear hWW w
    go_enter Tryd.func53, Tryd.ntmps53
    go_wp2_with (first
      | ((with_reducible refine gG ?_); refine wpList_want rfl ?_)
      | (go_at_call 43; refine (HNEW.out _).mono ?_; rintro e ww ⟨a1, c1, rfl, hb, hr⟩; replace hO := hO.addRow hb hr; clear hb hr))
    go_ret2
    exact ⟨rfl, hO.below⟩

set_option maxHeartbeats 1000000 in
theorem next_nil (x : Int) (w : World) :
    Calls Tryd.prog 72 #[.pointer none, .int .i64 x] w fun e w' => e = .returned (.tuple #[.bool false, .int .i64 1]) ∧ w = w' := by
  go_enter Tryd.func72, Tryd.ntmps72
  go_wp2_with (first
    | ((with_reducible refine gG ?_); refine wpList_want rfl ?_))
  go_ret2
  exact ⟨rfl, rfl⟩

set_option maxHeartbeats 2000000 in
set_option maxRecDepth 100000 in
theorem next_bad {w0 w : World} {L : List Res} {rb : Nat} {aP : Option Addr} {n cP : Nat} {bS : Value} {used span code : Nat} (x : Int) (hx : x < 0 ∨ (n : Int) ≤ x)
    (aB : Option Addr) (m cB : Nat) (hB : bS = .slice aB m cB)
    (hO : Own w0 w (.blk rb (.cells (rC (.slice aP n cP) bS used span code) 124 (0,0)) :: L)) :
    Calls Tryd.prog 72 #[.pointer (some ⟨rb, 0, none⟩), .int .i64 x] w fun e w' => e = .returned (.tuple #[.bool false, .int .i64 4]) ∧ Own w0 w' (.blk rb (.cells (rC (.slice aP n cP) bS used span code) 124 (0,0)) :: L) := by
  subst hB
  by_cases h1 : x < 0
  · have i1 : decide (x < 0) = true := decide_eq_true h1
    clear hx h1
    go_enter Tryd.func72, Tryd.ntmps72
    go_wp2_with (first
      | ((with_reducible refine gG ?_); refine wpList_want rfl ?_)
      | ((with_reducible refine gLoad ?_); first | refine ldX hO 0 rfl rfl (tA rfl) (tS rfl) ?_ | refine ldC hO 0 rfl rfl (tA rfl) rfl ?_))
    go_ret2
    exact ⟨rfl, hO⟩
  · have i1 : decide (x < 0) = false := decide_eq_false h1
    have i2 : decide ((n : Int) ≤ x) = true := decide_eq_true (by omega)
    clear hx h1
    go_enter Tryd.func72, Tryd.ntmps72
    go_wp2_with (first
      | ((with_reducible refine gG ?_); refine wpList_want rfl ?_)
      | ((with_reducible refine gLoad ?_); first | refine ldX hO 0 rfl rfl (tA rfl) (tS rfl) ?_ | refine ldC hO 0 rfl rfl (tA rfl) rfl ?_))
    go_ret2
    exact ⟨rfl, hO⟩

set_option maxHeartbeats 1000000 in
theorem used_nil (w : World) :
    Calls Tryd.prog 55 #[.pointer none] w fun e w' => e = .returned (.int .i64 0) ∧ w = w' := by
  go_enter Tryd.func55, Tryd.ntmps55
  go_wp2
  go_ret
  exact ⟨rfl, rfl⟩
set_option maxHeartbeats 1000000 in
theorem used_calls {w0 w : World} {L : List Res} {rb : Nat} {pS bS : Value} {used span code : Nat}
    (hO : Own w0 w (.blk rb (.cells (rC pS bS used span code) 124 (0,0)) :: L)) :
    Calls Tryd.prog 55 #[.pointer (some ⟨rb, 0, none⟩)] w fun e w' => e = .returned (.int .i64 (used : Int)) ∧ w = w' := by
  go_enter Tryd.func55, Tryd.ntmps55
  go_wp2_with (first
    | ((with_reducible refine gLoad ?_); first | refine ldX hO 0 rfl rfl (tA rfl) (tS rfl) ?_ | refine ldC hO 0 rfl rfl (tA rfl) rfl ?_))
  go_ret
  exact ⟨rfl, rfl⟩
end Go.Proofs.YtniibdglodnhoaaDoor

/- Walks: the unpacker's bit, number, token; Unpack. -/
namespace Go.Proofs.YtniibdglodnhoaaDoor
open Go.RowKit Go.Own Go.Bv Go.Ord Go.Eq Go.Opn Go.Pb Go.Mt

def uC (rb : Nat) (bad : Bool) : Array Value := #[.pointer (some ⟨rb, 0, none⟩), .int .i64 (if bad then 2 else 0)]
/-- what an unpacker stands on -/
def uL (rb ub : Nat) (aB : Option Addr) (m cB : Nat) (aP : Option Addr) (cP : Nat) (b : List (BitVec 8)) (s : Go.Pz.Us) (L : List Res) : List Res :=
  .blk rb (.cells (rC (.slice aP 528 cP) (.slice aB m cB) s.r.used s.r.span s.r.code) 124 (0,0)) :: .sl 5 1 (.slice aB m cB) m (u8s b) :: .sl 3 1 (.slice aP 528 cP) 528 (i64s s.r.p) :: .blk ub (.cells (uC rb s.bad) 111 (0,0)) :: L

set_option maxHeartbeats 4000000 in
set_option maxRecDepth 100000 in
theorem ubit_calls {w0 w : World} {L : List Res} {rb ub : Nat} {aB : Option Addr} {m cB : Nat} {aP : Option Addr} {cP : Nat} (b : List (BitVec 8)) (s : Go.Pz.Us) (hr : Go.Kc.Rok 528 b s.r) (hb : b.length = m) (hm : m ≤ 10000000) (a : Nat) (ha : a < 528) (x : Nat) (t : Go.Pz.Us) (hx : (Go.Pz.ub b s a).1.toNat = x) (ht : (Go.Pz.ub b s a).2 = t)
    (hO : Own w0 w (uL rb ub aB m cB aP cP b s L)) :
    Calls Tryd.prog 66 #[.pointer (some ⟨ub, 0, none⟩), .int .i64 (a : Int)] w fun e w' => e = .returned (.int .i64 (x : Int)) ∧ Own w0 w' (uL rb ub aB m cB aP cP b t L) := by
  obtain ⟨r, bad⟩ := s
  cases bad
  · have hux : Go.Pz.ub b ⟨r, false⟩ a = if Go.Kc.nxtE 528 b r (a : Int) = 0 then (r.set a, ⟨r.next b a, false⟩) else (false, ⟨r, true⟩) := rfl
    by_cases hn : Go.Kc.nxtE 528 b r (a : Int) = 0
    · rw [if_pos hn] at hux
      rw [hux] at hx ht
      dsimp only at hx ht hr
      subst ht
      obtain ⟨k, e, hk, hmay⟩ := Go.Kc.nxtE_ok hn
      obtain rfl : a = k := by omega
      obtain ⟨u, hu⟩ : ∃ u, r.next b a = u := ⟨_, rfl⟩
      obtain ⟨sb, hsb⟩ : ∃ u, r.set a = u := ⟨_, rfl⟩
      rw [hsb] at hx
      rw [hu]
      have HRK := Lib.hid hr
      have HB := Lib.hid hb
      have HM := Lib.hid hm
      have HA := Lib.hid ha
      have HMAY := Lib.hid hmay
      have HT := Lib.hid hu
      have HBT := Lib.hid hsb
      unfold uL at hO
      dsimp only at hO
      clear hux hn hr hb hm e hk hmay hu hsb ha
      cases sb
      · subst hx
        go_enter Tryd.func66, Tryd.ntmps66
        go_wp2_with (first
          | ((with_reducible refine gLoad ?_); first | refine ldX hO 0 rfl rfl (tA rfl) (tS rfl) ?_ | refine ldC hO 0 rfl rfl (tA rfl) rfl ?_ | refine ldX hO 1 rfl rfl (tA rfl) (tS rfl) ?_ | refine ldC hO 1 rfl rfl (tA rfl) rfl ?_ | refine ldX hO 2 rfl rfl (tA rfl) (tS rfl) ?_ | refine ldC hO 2 rfl rfl (tA rfl) rfl ?_ | refine ldX hO 3 rfl rfl (tA rfl) (tS rfl) ?_ | refine ldC hO 3 rfl rfl (tA rfl) rfl ?_)
          | (go_at_call 72; refine (next_ok r b HRK.out HB.out HM.out a HA.out HMAY.out u HT.out hO).mono ?_; rw [HBT.out]; rintro e ww ⟨rfl, hO2⟩; clear hO; have hO := hO2; clear hO2)
          | ((with_reducible refine gStore ?_); first | (refine stX hO 0 rfl rfl rfl rfl rfl (tS rfl) ?_; clear hO; intro ww hO) | (refine stC hO 0 rfl rfl rfl (ltb rfl) rfl (tS rfl) ?_; clear hO; intro ww hO) | (refine stX hO 1 rfl rfl rfl rfl rfl (tS rfl) ?_; clear hO; intro ww hO) | (refine stC hO 1 rfl rfl rfl (ltb rfl) rfl (tS rfl) ?_; clear hO; intro ww hO) | (refine stX hO 2 rfl rfl rfl rfl rfl (tS rfl) ?_; clear hO; intro ww hO) | (refine stC hO 2 rfl rfl rfl (ltb rfl) rfl (tS rfl) ?_; clear hO; intro ww hO) | (refine stX hO 3 rfl rfl rfl rfl rfl (tS rfl) ?_; clear hO; intro ww hO) | (refine stC hO 3 rfl rfl rfl (ltb rfl) rfl (tS rfl) ?_; clear hO; intro ww hO)))
        go_ret
        exact ⟨rfl, hO⟩
      · subst hx
        go_enter Tryd.func66, Tryd.ntmps66
        go_wp2_with (first
          | ((with_reducible refine gLoad ?_); first | refine ldX hO 0 rfl rfl (tA rfl) (tS rfl) ?_ | refine ldC hO 0 rfl rfl (tA rfl) rfl ?_ | refine ldX hO 1 rfl rfl (tA rfl) (tS rfl) ?_ | refine ldC hO 1 rfl rfl (tA rfl) rfl ?_ | refine ldX hO 2 rfl rfl (tA rfl) (tS rfl) ?_ | refine ldC hO 2 rfl rfl (tA rfl) rfl ?_ | refine ldX hO 3 rfl rfl (tA rfl) (tS rfl) ?_ | refine ldC hO 3 rfl rfl (tA rfl) rfl ?_)
          | (go_at_call 72; refine (next_ok r b HRK.out HB.out HM.out a HA.out HMAY.out u HT.out hO).mono ?_; rw [HBT.out]; rintro e ww ⟨rfl, hO2⟩; clear hO; have hO := hO2; clear hO2)
          | ((with_reducible refine gStore ?_); first | (refine stX hO 0 rfl rfl rfl rfl rfl (tS rfl) ?_; clear hO; intro ww hO) | (refine stC hO 0 rfl rfl rfl (ltb rfl) rfl (tS rfl) ?_; clear hO; intro ww hO) | (refine stX hO 1 rfl rfl rfl rfl rfl (tS rfl) ?_; clear hO; intro ww hO) | (refine stC hO 1 rfl rfl rfl (ltb rfl) rfl (tS rfl) ?_; clear hO; intro ww hO) | (refine stX hO 2 rfl rfl rfl rfl rfl (tS rfl) ?_; clear hO; intro ww hO) | (refine stC hO 2 rfl rfl rfl (ltb rfl) rfl (tS rfl) ?_; clear hO; intro ww hO) | (refine stX hO 3 rfl rfl rfl rfl rfl (tS rfl) ?_; clear hO; intro ww hO) | (refine stC hO 3 rfl rfl rfl (ltb rfl) rfl (tS rfl) ?_; clear hO; intro ww hO)))
        go_ret
        exact ⟨rfl, hO⟩
    · rw [if_neg hn] at hux
      rw [hux] at hx ht
      dsimp only at hx ht hr
      subst ht
      subst hx
      have hno : ¬ r.may b a := by
        rcases Go.Kc.nxtE_cases 528 b r (a : Int) with h | ⟨_, k, e, _, h⟩ | ⟨_, h⟩
        · exact absurd h hn
        · obtain rfl : a = k := by omega
          exact h
        · omega
      have HRK := Lib.hid hr
      have HB := Lib.hid hb
      have HM := Lib.hid hm
      have HA := Lib.hid ha
      have HMAY := Lib.hid hno
      unfold uL at hO
      dsimp only at hO
      clear hux hn hr hb hm hno ha
      go_enter Tryd.func66, Tryd.ntmps66
      go_wp2_with (first
        | ((with_reducible refine gLoad ?_); first | refine ldX hO 0 rfl rfl (tA rfl) (tS rfl) ?_ | refine ldC hO 0 rfl rfl (tA rfl) rfl ?_ | refine ldX hO 1 rfl rfl (tA rfl) (tS rfl) ?_ | refine ldC hO 1 rfl rfl (tA rfl) rfl ?_ | refine ldX hO 2 rfl rfl (tA rfl) (tS rfl) ?_ | refine ldC hO 2 rfl rfl (tA rfl) rfl ?_ | refine ldX hO 3 rfl rfl (tA rfl) (tS rfl) ?_ | refine ldC hO 3 rfl rfl (tA rfl) rfl ?_)
        | (go_at_call 72; refine (next_short r b HRK.out HB.out HM.out a HA.out HMAY.out hO).mono ?_; rintro e ww ⟨rfl, hO2⟩; clear hO; have hO := hO2; clear hO2)
        | ((with_reducible refine gStore ?_); first | (refine stX hO 0 rfl rfl rfl rfl rfl (tS rfl) ?_; clear hO; intro ww hO) | (refine stC hO 0 rfl rfl rfl (ltb rfl) rfl (tS rfl) ?_; clear hO; intro ww hO) | (refine stX hO 1 rfl rfl rfl rfl rfl (tS rfl) ?_; clear hO; intro ww hO) | (refine stC hO 1 rfl rfl rfl (ltb rfl) rfl (tS rfl) ?_; clear hO; intro ww hO) | (refine stX hO 2 rfl rfl rfl rfl rfl (tS rfl) ?_; clear hO; intro ww hO) | (refine stC hO 2 rfl rfl rfl (ltb rfl) rfl (tS rfl) ?_; clear hO; intro ww hO) | (refine stX hO 3 rfl rfl rfl rfl rfl (tS rfl) ?_; clear hO; intro ww hO) | (refine stC hO 3 rfl rfl rfl (ltb rfl) rfl (tS rfl) ?_; clear hO; intro ww hO)))
      go_ret
      exact ⟨rfl, hO⟩
  · have hux : Go.Pz.ub b ⟨r, true⟩ a = (false, ⟨r, true⟩) := rfl
    rw [hux] at hx ht
    dsimp only at hx ht
    subst ht
    subst hx
    unfold uL at hO
    dsimp only at hO
    clear hux hr hb hm ha
    go_enter Tryd.func66, Tryd.ntmps66
    go_wp2_with (first
      | ((with_reducible refine gLoad ?_); first | refine ldX hO 0 rfl rfl (tA rfl) (tS rfl) ?_ | refine ldC hO 0 rfl rfl (tA rfl) rfl ?_ | refine ldX hO 1 rfl rfl (tA rfl) (tS rfl) ?_ | refine ldC hO 1 rfl rfl (tA rfl) rfl ?_ | refine ldX hO 2 rfl rfl (tA rfl) (tS rfl) ?_ | refine ldC hO 2 rfl rfl (tA rfl) rfl ?_ | refine ldX hO 3 rfl rfl (tA rfl) (tS rfl) ?_ | refine ldC hO 3 rfl rfl (tA rfl) rfl ?_))
    go_ret
    exact ⟨rfl, hO⟩

set_option maxHeartbeats 4000000 in
set_option maxRecDepth 100000 in
theorem unum_calls {w0 w : World} {L : List Res} {rb ub : Nat} {aB : Option Addr} {m cB : Nat} {aP : Option Addr} {cP : Nat} (b : List (BitVec 8)) (s : Go.Pz.Us) (hr : Go.Kc.Rok 528 b s.r) (hb : b.length = m) (hm : m ≤ 10000000) (wide tree p : Nat) (hw : wide = 4 ∧ p = 16 ∨ wide = 8 ∧ p = 256) (htr : tree + p ≤ 528) (v : Nat) (t : Go.Pz.Us) (hv : (Go.Pz.un b tree wide 1 s).1 - p = v) (ht : (Go.Pz.un b tree wide 1 s).2 = t)
    (hO : Own w0 w (uL rb ub aB m cB aP cP b s L)) :
    Calls Tryd.prog 67 #[.pointer (some ⟨ub, 0, none⟩), .int .i64 (wide : Int), .int .i64 (tree : Int)] w fun e w' => e = .returned (.int .i64 (v : Int)) ∧ Own w0 w' (uL rb ub aB m cB aP cP b t L) := by
  have hl := Go.Pz.un_lt (b := b) (tree := tree) wide 1 s
  have hp2 : 2 ^ wide = p := by rcases hw with ⟨rfl, rfl⟩ | ⟨rfl, rfl⟩ <;> decide
  rw [hp2] at hl
  have hw8 : wide ≤ 8 := by omega
  have HB := Lib.hid hb
  have HM := Lib.hid hm
  have HV : Hid ((Go.Pz.un b tree wide 1 s).1 = v + p) := by show _ = _; omega
  have HT := Lib.hid ht
  have HP := Lib.hid hp2
  have HRK := Lib.hid hr
  have hvp : v < p := by omega
  clear hb hm hv ht hl hp2 hr
  have hw2 := Lib.hid hw
  go_enter Tryd.func67, Tryd.ntmps67
  clear hw
  go_wp2
  go_loopg [7, 9] wide (fun mm s7 cc wr => ∃ (i node : Nat) (u : Go.Pz.Us), mm = wide - i ∧ i ≤ wide ∧ cc = .int .i64 (i : Int) ∧ s7 = .int .i64 (node : Int) ∧ Hid (Go.Pz.un b tree (wide - i) node u = Go.Pz.un b tree wide 1 s) ∧ Hid (2 ^ i ≤ node ∧ node < 2 ^ (i + 1)) ∧ Hid (Go.Kc.Rok 528 b u.r) ∧ Own w0 wr (uL rb ub aB m cB aP cP b u L))
  case atStart => exact ⟨0, 1, s, rfl, by omega, rfl, rfl, rfl, ⟨by decide, by decide⟩, HRK.out, hO⟩
  case round =>
    obtain ⟨i, node, u, rfl, hi, rfl, rfl, HU, HN, HK, hO1⟩ := hrel
    clear hO
    have hO := hO1
    clear hO1
    by_cases hlt : i < wide
    · have d1 : decide ((i : Int) < (wide : Int)) = true := decide_eq_true (by omega)
      have hn := HN.out.2
      have hnp : node < p := by
        rw [← HP.out]
        exact Nat.lt_of_lt_of_le hn (Nat.pow_le_pow_right (by decide) (by omega))
      have hp8 : p ≤ 256 := by have := hw2.out; omega
      obtain ⟨x, hx⟩ : ∃ x, (Go.Pz.ub b u (tree + node)).1.toNat = x := ⟨_, rfl⟩
      obtain ⟨t2, ht2⟩ : ∃ x, (Go.Pz.ub b u (tree + node)).2 = x := ⟨_, rfl⟩
      have hx1 : x < 2 := by rw [← hx]; cases (Go.Pz.ub b u (tree + node)).1 <;> simp
      have hst : Go.Pz.un b tree (wide - (i + 1)) (node * 2 + x) t2 = Go.Pz.un b tree wide 1 s := by
        rw [← HU.out, show wide - i = (wide - (i + 1)) + 1 by omega]
        show _ = Go.Pz.un b tree _ (node * 2 + (Go.Pz.ub b u (tree + node)).1.toNat) (Go.Pz.ub b u (tree + node)).2
        rw [hx, ht2]
      have HK2 : Hid (Go.Kc.Rok 528 b t2.r) := by rw [← ht2]; exact Go.Pz.ub_rok HK.out _
      have HN2 : Hid (2 ^ (i + 1) ≤ node * 2 + x ∧ node * 2 + x < 2 ^ (i + 1 + 1)) := by
        obtain ⟨n1, n2⟩ := HN.out
        rw [Nat.pow_succ] at n2
        show _ ∧ _
        rw [Nat.pow_succ, Nat.pow_succ]
        generalize 2 ^ i = z at *
        omega
      have e4 : bits .or .i64 ((node : Int) * 2) (x : Int) = ((node * 2 + x : Nat) : Int) := Go.Pz.or1_i64 node x (by omega) hx1
      have HX := Lib.hid hx
      have HT2 := Lib.hid ht2
      have HST := Lib.hid hst
      have HTN : Hid (tree + node < 528) := by show _ < _; omega
      have HBC := Lib.hid (fun (w : World) hO => ubit_calls (w0 := w0) (w := w) (L := L) (rb := rb) (ub := ub) (aB := aB) (cB := cB) (aP := aP) (cP := cP) b u HK.out HB.out HM.out (tree + node) HTN.out x t2 HX.out HT2.out hO)
      have hca : ((tree : Int) + (node : Int)) = ((tree + node : Nat) : Int) := by omega
      rw [← hca] at HBC
      clear hx ht2 hst hca
      go_wp2_with (first
        | (go_at_call 66; refine (HBC.out _ hO).mono ?_; rintro e ww ⟨rfl, hO2⟩; clear hO; have hO := hO2; clear hO2))
      go_roundg (wide - (i + 1))
      case measure => omega
      case rel => exact ⟨i + 1, node * 2 + x, t2, rfl, by omega, by go_num, rfl, HST.out, HN2.out, HK2.out, hO⟩
    · obtain rfl : i = wide := by omega
      have hu : Go.Pz.un b tree i 1 s = (node, u) := by
        rw [← HU.out, Nat.sub_self]; rfl
      have hv2 := HV.out
      have ht2 := HT.out
      rw [hu] at hv2 ht2
      dsimp only at hv2 ht2
      subst ht2
      subst hv2
      have hh := hw2.out
      clear HU HN HK HV HT hu HP HRK
      rcases hh with ⟨rfl, rfl⟩ | ⟨rfl, rfl⟩
      · go_wp2
        go_ret
        exact ⟨by simp, hO⟩
      · go_wp2
        go_ret
        exact ⟨by simp, hO⟩
end Go.Proofs.YtniibdglodnhoaaDoor

/- Walks: the unpacker's token; Unpack. -/
namespace Go.Proofs.YtniibdglodnhoaaDoor
open Go.RowKit Go.Own Go.Bv Go.Ord Go.Eq Go.Opn Go.Pb Go.Mt

set_option maxHeartbeats 8000000 in
set_option maxRecDepth 100000 in
theorem utok_calls {w0 w : World} {L : List Res} {rb ub : Nat} {aB : Option Addr} {m cB : Nat} {aP : Option Addr} {cP : Nat} {aO : Option Addr} {K cO : Nat} (b : List (BitVec 8)) (s : Go.Pz.Us) (hr : Go.Kc.Rok 528 b s.r) (hb : b.length = m) (hm : m ≤ 10000000)
    (out : List (BitVec 8)) (hK : out.length = K) (most : Nat) (hKm : K ≤ most) (hmost : most ≤ 70000) (t : Go.Pz.Us) (out2 : List (BitVec 8)) (ht : (Go.Pz.utok b s out most).1 = t) (ho : (Go.Pz.utok b s out most).2 = out2) (K2 : Nat) (hK2 : out2.length = K2)
    (hO : Own w0 w (uL rb ub aB m cB aP cP b s (.sl 5 1 (.slice aO K cO) K (u8s out) :: L))) :
    Calls Tryd.prog 54 #[.pointer (some ⟨ub, 0, none⟩), .slice aO K cO, .int .i64 (most : Int)] w fun e w' => ∃ a' c', e = .returned (.slice a' K2 c') ∧ Own w0 w' (uL rb ub aB m cB aP cP b t (.sl 5 1 (.slice a' K2 c') K2 (u8s out2) :: L)) := by
  have HB := Lib.hid hb
  have HM := Lib.hid hm
  obtain ⟨x0, hx0⟩ : ∃ x, (Go.Pz.ub b s 0).1 = x := ⟨_, rfl⟩
  obtain ⟨s1, hs1⟩ : ∃ x, (Go.Pz.ub b s 0).2 = x := ⟨_, rfl⟩
  have hr1 : Go.Kc.Rok 528 b s1.r := by rw [← hs1]; exact Go.Pz.ub_rok hr 0
  have H0 := Lib.hid (fun (w : World) hO => ubit_calls (w0 := w0) (w := w) (L := .sl 5 1 (.slice aO K cO) K (u8s out) :: L) (rb := rb) (ub := ub) (aB := aB) (cB := cB) (aP := aP) (cP := cP) b s hr hb hm 0 (by omega) x0.toNat s1 (by rw [hx0]) hs1 hO)
  unfold Go.Pz.utok at ht ho
  dsimp only at ht ho
  rw [hx0, hs1] at ht ho
  cases x0
  · simp only [if_true] at ht ho
    have hl := Go.Pz.un_lt (b := b) (tree := 0) 8 1 s1
    have e8 : 2 ^ 8 = 256 := by decide
    rw [e8] at hl
    obtain ⟨v, hv⟩ : ∃ v, (Go.Pz.un b 0 8 1 s1).1 - 256 = v := ⟨_, rfl⟩
    rw [hv] at ho
    have H8 := Lib.hid (fun (w : World) hO => unum_calls (w0 := w0) (w := w) (L := .sl 5 1 (.slice aO K cO) K (u8s out) :: L) (rb := rb) (ub := ub) (aB := aB) (cB := cB) (aP := aP) (cP := cP) b s1 hr1 hb hm 8 0 256 (.inr ⟨rfl, rfl⟩) (by omega) v t hv ht hO)
    obtain ⟨oc, hoc⟩ : ∃ x, BitVec.ofNat 8 v = x := ⟨_, rfl⟩
    rw [hoc] at ho
    have hvl : v < 256 := by omega
    have hov : oc.toNat = v := by rw [← hoc, BitVec.toNat_ofNat]; omega
    have f2 : IntKind.u8.wrap (v : Int) = (oc.toNat : Int) := by rw [IntKind.wrap_u8', hov]; omega
    have HUA : Hid (u8s out2 = u8s out ++ u8s [oc]) := by show _ = _; rw [← ho]; unfold u8s; rw [List.map_append]
    obtain rfl : K2 = K + 1 := by rw [← hK2, ← ho, List.length_append, hK]; rfl
    clear ht ho hv hl hoc hov hr hr1 hb hm hx0 hs1 hK hK2 e8
    go_enter Tryd.func54, Tryd.ntmps54
    go_wp2_with (first
      | (go_at_call 66; refine (H0.out _ hO).mono ?_; rintro e ww ⟨rfl, hO2⟩; clear hO; have hO := hO2; clear hO2)
      | (go_at_call 67; refine (H8.out _ hO).mono ?_; rintro e ww ⟨rfl, hO2⟩; clear hO; have hO := hO2; clear hO2; unfold uL at hO)
      | ((with_reducible refine gBuild (T := 28) ?_); refine own_build hO 28 1 _ eu8 (u8s [oc]).toArray (by omega) (by omega) (by kernel_rfl) rfl ?_; clear hO; intro g2 ww hO)
      | ((with_reducible refine gAppend ?_); refine own_append hO 5 _ _ 28 eu8 rfl rfl rfl (hO.rdAt 0 rfl) (u8s_one _) (K + 1) rfl (by simp [maxLen]; omega) (by omega) ?_; clear hO; intro a2 c2 ww hO))
    go_ret
    exact ⟨a2, c2, rfl, by rw [HUA.out]; exact hO.tail⟩
  · simp only [Bool.true_eq_false, if_false] at ht ho
    obtain ⟨y, hy⟩ : ∃ x, (Go.Pz.un b 256 4 1 s1).1 - 16 = x := ⟨_, rfl⟩
    obtain ⟨s2, hs2⟩ : ∃ x, (Go.Pz.un b 256 4 1 s1).2 = x := ⟨_, rfl⟩
    have hr2 : Go.Kc.Rok 528 b s2.r := by rw [← hs2]; exact Go.Pz.un_rok _ _ hr1
    rw [hy, hs2] at ht ho
    obtain ⟨z, hz⟩ : ∃ x, (Go.Pz.un b 272 8 1 s2).1 - 256 = x := ⟨_, rfl⟩
    obtain ⟨s3, hs3⟩ : ∃ x, (Go.Pz.un b 272 8 1 s2).2 = x := ⟨_, rfl⟩
    rw [hz, hs3] at ht ho
    have hl4 := Go.Pz.un_lt (b := b) (tree := 256) 4 1 s1
    have hl8 := Go.Pz.un_lt (b := b) (tree := 272) 8 1 s2
    rw [show 2 ^ 4 = 16 by decide] at hl4
    rw [show 2 ^ 8 = 256 by decide] at hl8
    have hy16 : y < 16 := by omega
    have hz256 : z < 256 := by omega
    have H4 := Lib.hid (fun (w : World) hO => unum_calls (w0 := w0) (w := w) (L := .sl 5 1 (.slice aO K cO) K (u8s out) :: L) (rb := rb) (ub := ub) (aB := aB) (cB := cB) (aP := aP) (cP := cP) b s1 hr1 hb hm 4 256 16 (.inl ⟨rfl, rfl⟩) (by omega) y s2 hy hs2 hO)
    have H8 := Lib.hid (fun (w : World) hO => unum_calls (w0 := w0) (w := w) (L := .sl 5 1 (.slice aO K cO) K (u8s out) :: L) (rb := rb) (ub := ub) (aB := aB) (cB := cB) (aP := aP) (cP := cP) b s2 hr2 hb hm 8 272 256 (.inr ⟨rfl, rfl⟩) (by omega) z s3 hz hs3 hO)
    by_cases hc1 : K < z + 1
    · rw [if_pos (.inl (by rw [hK]; exact hc1))] at ht ho
      dsimp only at ht ho
      subst ht
      subst ho
      obtain rfl : K2 = K := by rw [← hK2, hK]
      have d1 : decide ((K2 : Int) < (z : Int) + 1) = true := decide_eq_true (by omega)
      clear hy hz hs2 hs3 hl4 hl8 hr hr1 hr2 hb hm hx0 hs1 hK hK2 hc1
      go_enter Tryd.func54, Tryd.ntmps54
      go_wp2_with (first
        | ((with_reducible refine gG ?_); refine wpList_want rfl ?_)
        | (go_at_call 66; refine (H0.out _ hO).mono ?_; rintro e ww ⟨rfl, hO2⟩; clear hO; have hO := hO2; clear hO2)
        | (go_at_call 67; (with_reducible refine gCall #[_, .int .i64 4, _] ?_); refine (H4.out _ hO).mono ?_; rintro e ww ⟨rfl, hO2⟩; clear hO; have hO := hO2; clear hO2)
        | (go_at_call 67; refine (H8.out _ hO).mono ?_; rintro e ww ⟨rfl, hO2⟩; clear hO; have hO := hO2; clear hO2; unfold uL at hO)
        | ((with_reducible refine gStore ?_); refine st_blk hO 3 rfl rfl rfl (ltb rfl) rfl (tS rfl) ?_; clear hO; intro ww hO))
      go_ret
      exact ⟨aO, cO, rfl, hO⟩
    · have d1 : decide ((K : Int) < (z : Int) + 1) = false := decide_eq_false (by omega)
      by_cases hc2 : most - K < y + 3
      · rw [if_pos (.inr (by rw [hK]; exact hc2))] at ht ho
        dsimp only at ht ho
        subst ht
        subst ho
        obtain rfl : K2 = K := by rw [← hK2, hK]
        have d2 : decide ((most : Int) - (K2 : Int) < (y : Int) + 3) = true := decide_eq_true (by omega)
        clear hy hz hs2 hs3 hl4 hl8 hr hr1 hr2 hb hm hx0 hs1 hK hK2 hc1 hc2
        go_enter Tryd.func54, Tryd.ntmps54
        go_wp2_with (first
          | ((with_reducible refine gG ?_); refine wpList_want rfl ?_)
          | (go_at_call 66; refine (H0.out _ hO).mono ?_; rintro e ww ⟨rfl, hO2⟩; clear hO; have hO := hO2; clear hO2)
          | (go_at_call 67; (with_reducible refine gCall #[_, .int .i64 4, _] ?_); refine (H4.out _ hO).mono ?_; rintro e ww ⟨rfl, hO2⟩; clear hO; have hO := hO2; clear hO2)
          | (go_at_call 67; refine (H8.out _ hO).mono ?_; rintro e ww ⟨rfl, hO2⟩; clear hO; have hO := hO2; clear hO2; unfold uL at hO)
          | ((with_reducible refine gStore ?_); refine st_blk hO 3 rfl rfl rfl (ltb rfl) rfl (tS rfl) ?_; clear hO; intro ww hO))
        go_ret
        exact ⟨aO, cO, rfl, hO⟩
      · rw [if_neg (by rw [hK]; rintro (h | h); exact hc1 h; exact hc2 h)] at ht ho
        dsimp only at ht ho
        subst ht
        have d2 : decide ((most : Int) - (K : Int) < (y : Int) + 3) = false := decide_eq_false (by omega)
        obtain ⟨D, hD⟩ : ∃ D, z + 1 = D := ⟨_, rfl⟩
        obtain ⟨N, hN⟩ : ∃ N, y + 3 = N := ⟨_, rfl⟩
        have hN2 : ((y : Int) + 3) = (N : Int) := by omega
        have hD2 : ((z : Int) + 1) = (D : Int) := by omega
        rw [hD, hN] at ho
        have d1b : decide ((K : Int) < (D : Int)) = false := decide_eq_false (by omega)
        have d2b : decide ((most : Int) - (K : Int) < (N : Int)) = false := decide_eq_false (by omega)
        have d1c : decide (K < D) = false := decide_eq_false (by omega)
        obtain rfl : K2 = K + N := by rw [← hK2, ← ho, again_length, hK]
        have HAN : Hid (∀ j, ∃ x, (again D j out)[K - D + j]? = some x ∧ again D (j + 1) out = again D j out ++ [x]) := fun j => again_next D j out K hK (by omega) (by omega)
        have HOUT := Lib.hid ho
        have hDK : D ≤ K := by omega
        have hD1 : 1 ≤ D := by omega
        have hN18 : N ≤ 18 := by omega
        clear hy hz hs2 hs3 hl4 hl8 hr hr1 hr2 hb hm hx0 hs1 hK hK2 hc1 hc2 ho
        go_enter Tryd.func54, Tryd.ntmps54
        go_wp2_with (first
          | ((with_reducible refine gG ?_); refine wpList_want rfl ?_)
          | (go_at_call 66; refine (H0.out _ hO).mono ?_; rintro e ww ⟨rfl, hO2⟩; clear hO; have hO := hO2; clear hO2)
          | (go_at_call 67; (with_reducible refine gCall #[_, .int .i64 4, _] ?_); refine (H4.out _ hO).mono ?_; rintro e ww ⟨rfl, hO2⟩; clear hO; have hO := hO2; clear hO2)
          | (go_at_call 67; refine (H8.out _ hO).mono ?_; rintro e ww ⟨rfl, hO2⟩; clear hO; have hO := hO2; clear hO2; unfold uL at hO))
        clear d1 d2 d1b d2b d1c H0 H4 H8
        go_loopg [1, 41] N (fun mm s1_ cc wr => ∃ (j : Nat) (aJ : Option Addr) (cJ : Nat), mm = N - j ∧ j ≤ N ∧ cc = .int .i64 (j : Int) ∧ s1_ = .slice aJ (K + j) cJ ∧ Own w0 wr (uL rb ub aB m cB aP cP b s3 (.sl 5 1 (.slice aJ (K + j) cJ) (K + j) (u8s (again D j out)) :: L)))
        case atStart => exact ⟨0, aO, cO, rfl, by omega, rfl, rfl, hO⟩
        case round =>
          obtain ⟨j, aJ, cJ, rfl, hj, rfl, rfl, hO1⟩ := hrel
          clear hO
          have hO := hO1
          clear hO1
          by_cases c1 : j < N
          · have d1 : decide ((j : Int) < (N : Int)) = true := decide_eq_true (by omega)
            have d1' : decide ((j : Int) < (y : Int) + 3) = true := decide_eq_true (by omega)
            unfold uL at hO
            obtain ⟨gJ, rfl⟩ := hO.slPlace 4 rfl (by omega)
            obtain ⟨x, hx1, hx2⟩ := HAN.out j
            have HX : Hid ((u8s (again D j out))[K - D + j]? = some (.int .u8 (x.toNat : Int))) := by show _ = _; unfold u8s; rw [List.getElem?_map, hx1]; rfl
            have HX2 : Hid (u8s (again D (j + 1) out) = u8s (again D j out) ++ u8s [x]) := by show _ = _; rw [hx2]; unfold u8s; rw [← List.map_append]
            obtain ⟨F, hF⟩ : ∃ F, K - D + j = F := ⟨_, rfl⟩
            rw [hF] at HX
            have e2 : wrap64 ((K : Int) + (j : Int) - ((z : Int) + 1)) = (F : Int) := by unfold wrap64; omega
            have e3 : (K : Int) + (j : Int) - ((z : Int) + 1) = (F : Int) := by omega
            have e4 : F < K + j := by omega
            have e5 : (K : Int) + (j : Int) - (D : Int) = (F : Int) := by omega
            have e6 : wrap64 ((K : Int) + (j : Int) - (D : Int)) = (F : Int) := by unfold wrap64; omega
            clear hx1 hx2 hF hN2 hD2 hD hN
            generalize u8s (again D j out) = cur at *
            go_wp2_with (first
              | ((with_reducible refine gLoad (T := 5) ?_); refine ld_sl hO 4 rfl rfl HX.out (tA rfl) ?_)
              | ((with_reducible refine gBuild (T := 28) ?_); refine own_build hO 28 1 _ eu8 (u8s [x]).toArray (by omega) (by omega) (by kernel_rfl) rfl ?_; clear hO; intro g2 ww hO)
              | ((with_reducible refine gAppend ?_); refine own_append hO 5 _ _ 28 eu8 rfl rfl rfl (hO.rdAt 0 rfl) (u8s_one _) (K + (j + 1)) (by omega) (by simp [maxLen]; omega) (by omega) ?_; clear hO; intro a2 c2 ww hO))
            go_roundg (N - (j + 1))
            case measure => omega
            case rel => exact ⟨j + 1, a2, c2, rfl, by omega, by go_num, rfl, by rw [HX2.out]; exact hO.tail⟩
          · obtain rfl : j = N := by omega
            have d1' : decide ((j : Int) < (y : Int) + 3) = false := decide_eq_false (by omega)
            go_wp2
            go_ret
            exact ⟨aJ, cJ, rfl, by rw [← HOUT.out]; exact hO⟩
end Go.Proofs.YtniibdglodnhoaaDoor

/- Walk: press.Unpack. -/
namespace Go.Proofs.YtniibdglodnhoaaDoor
open Go.RowKit Go.Own Go.Bv Go.Ord Go.Eq Go.Opn Go.Pb Go.Mt

theorem u8s_drop (b : List (BitVec 8)) (k : Nat) : (u8s b).drop k = u8s (b.drop k) := by unfold u8s; rw [List.map_drop]
theorem u8s_all (b : List (BitVec 8)) (n : Nat) (h : b.length ≤ n) : (u8s b).take n = u8s b := List.take_of_length_le (by rw [u8s_length]; exact h)
/-- the octets behind the first four -/
theorem rd_four {w : World} {ba off n cap : Nat} {b : List (BitVec 8)} (hR : Rd w 1 (some ⟨ba, off, none⟩) n cap (u8s b)) (h4 : 4 ≤ n) : Rd w 1 (some ⟨ba, off + 4, none⟩) (n - 4) (cap - 4) (u8s (b.drop 4)) := by
  have hl : b.length = n := by have := hR.len; rw [u8s_length] at this; omega
  have h := hR.cut 4 (n - 4) (by omega)
  rw [u8s_drop, u8s_all _ _ (by simp; omega)] at h
  exact h
theorem longV_le (b : List (BitVec 8)) : Go.Pz.longV b ≤ 65536 := by unfold Go.Pz.longV; split; omega; split <;> omega

set_option maxHeartbeats 8000000 in
set_option maxRecDepth 100000 in
theorem unpack_calls (a : Option Addr) (n cap : Nat) (b : List (BitVec 8)) (most : Int) (w : World) (hR : Rd w 1 a n cap (u8s b)) (hn : n ≤ 10000000) (T : List (BitVec 8)) (E : Int) (M : Nat) (hT : Go.Pz.unT b most = T) (hE : Go.Pz.unE b most = E) (hM : T.length = M) :
    Calls Tryd.prog 37 #[.slice a n cap, .int .i64 most] w fun e w' => ∃ a' c', e = .returned (.tuple #[.slice a' M c', .int .i64 E]) ∧ Below w.heap.size w w' ∧ w'.ownsRow w.heap.size 5 1 (.slice a' M c') M (u8s T) := by
  have hO := Own.start w
  have hlen : b.length = n := by have := hR.len; rw [u8s_length] at this; omega
  have nilT : E ≠ 0 → T = [] ∧ M = 0 := fun h => by
    have h1 : T = [] := by rw [← hT]; unfold Go.Pz.unT; rw [hE, if_neg h]
    exact ⟨h1, by rw [← hM, h1]; rfl⟩
  by_cases h1 : most < 0
  · have e1 : E = 1 := by rw [← hE]; unfold Go.Pz.unE; rw [if_pos h1]
    obtain ⟨rfl, rfl⟩ := nilT (by rw [e1]; decide)
    subst e1
    have d1 : decide (most < 0) = true := decide_eq_true h1
    clear hR hT hE hM hlen nilT h1
    generalize hW : w = wn at hO ⊢
    clear hW w
    go_enter Tryd.func37, Tryd.ntmps37
    go_wp2
    go_ret2
    exact ⟨none, 0, rfl, hO.below, World.ownsRow_nil _ _ _ _⟩
  have d1 : decide (most < 0) = false := decide_eq_false h1
  obtain ⟨V, hV⟩ : ∃ V, Go.Pz.longV b = V := ⟨_, rfl⟩
  obtain ⟨LE, hLE⟩ : ∃ V, Go.Pz.longE b = V := ⟨_, rfl⟩
  have HLO := Lib.hid (fun w h => plong_calls a n cap b w h V LE hV hLE)
  by_cases h2 : LE ≠ 0
  · have e1 : E = LE := by rw [← hE]; unfold Go.Pz.unE; rw [if_neg h1, hLE, if_pos h2]
    obtain ⟨rfl, rfl⟩ := nilT (by rw [e1]; exact h2)
    subst e1
    have d2 : (E == 0) = false := by simpa using h2
    have d2' : decide (E = 0) = false := by simpa using h2
    have HR := Lib.hid hR
    clear hR hT hE hM hlen nilT h1 hV hLE h2
    generalize hW : w = wn at hO HR ⊢
    clear hW w
    go_enter Tryd.func37, Tryd.ntmps37
    go_wp2_with (first
      | (go_at_call 52; refine (HLO.out _ (hO.rd HR.out)).mono ?_; rintro e w1 ⟨rfl, rfl⟩))
    go_ret2
    exact ⟨none, 0, rfl, hO.below, World.ownsRow_nil _ _ _ _⟩
  have h2' : LE = 0 := Classical.not_not.1 h2
  rw [h2'] at HLO
  have h9 : 9 ≤ n := by
    rw [h2'] at hLE
    unfold Go.Pz.longE at hLE
    split at hLE
    · cases hLE
    · omega
  have hV65 : V ≤ 65536 := by rw [← hV]; exact longV_le b
  by_cases h3 : most < (V : Int)
  · have e1 : E = 3 := by rw [← hE]; unfold Go.Pz.unE; rw [if_neg h1, hLE, if_neg h2, hV, if_pos h3]
    obtain ⟨rfl, rfl⟩ := nilT (by rw [e1]; decide)
    subst e1
    have d2 : decide (most < (V : Int)) = true := decide_eq_true h3
    have HR := Lib.hid hR
    clear hR hT hE hM hlen nilT h1 hV hLE h2 h2' h3
    generalize hW : w = wn at hO HR ⊢
    clear hW w
    go_enter Tryd.func37, Tryd.ntmps37
    go_wp2_with (first
      | (go_at_call 52; refine (HLO.out _ (hO.rd HR.out)).mono ?_; rintro e w1 ⟨rfl, rfl⟩))
    go_ret2
    exact ⟨none, 0, rfl, hO.below, World.ownsRow_nil _ _ _ _⟩
  have d2 : decide (most < (V : Int)) = false := decide_eq_false h3
  obtain ⟨n4, rfl⟩ : ∃ n4, n = n4 + 4 := ⟨n - 4, by omega⟩
  obtain ⟨ba, off, rfl⟩ := hR.place (by omega)
  have hR4 := rd_four hR (by omega)
  rw [Nat.add_sub_cancel] at hR4
  obtain ⟨b4, hb4⟩ : ∃ x, b.drop 4 = x := ⟨_, rfl⟩
  rw [hb4] at hR4
  have hl4 : b4.length = n4 := by rw [← hb4, List.length_drop, hlen, Nat.add_sub_cancel]
  have hmc : n4 + 4 ≤ cap := hR.le
  have hmm := Nat.le_trans hR.le hR.max
  unfold maxLen at hmm
  have hE4 : E = if Go.Kc.opE 528 b4 ≠ 0 then 2 else if (Go.Pz.uloop b4 V V ⟨Go.Kc.open_ 528 b4, false⟩ []).1.bad = true ∨ (Go.Pz.uloop b4 V V ⟨Go.Kc.open_ 528 b4, false⟩ []).1.r.used ≠ n4 then 2 else 0 := by
    rw [← hE]; unfold Go.Pz.unE; rw [if_neg h1, hLE, if_neg h2, hV, if_neg h3, hb4, hlen, Nat.add_sub_cancel]
  by_cases h40 : Go.Kc.opE 528 b4 = 0
  rotate_left
  · have h4 : Go.Kc.opE 528 b4 ≠ 0 := h40
    rw [if_pos h4] at hE4
    obtain ⟨rfl, rfl⟩ := nilT (by rw [hE4]; decide)
    subst hE4
    have h42 : Go.Kc.opE 528 b4 = 2 := by
      unfold Go.Kc.opE at h4 ⊢
      rw [if_pos (by omega)] at h4 ⊢
      split at h4
      · exact absurd rfl h4
      · rename_i hmo; rw [if_neg hmo]
    have HNR := Lib.hid (fun w h => newR_bad 528 (some ⟨ba, off + 4, none⟩) n4 (cap - 4) b4 w h (by omega) 2 h42 (by decide))
    have HR := Lib.hid hR
    have HR4 := Lib.hid hR4
    clear hR hT hE hM hlen nilT h1 hV hLE h2 h2' h3 hR4 hl4 hb4 h4 h40 h42
    generalize hW : w = wn at hO HR HR4 ⊢
    clear hW w
    go_enter Tryd.func37, Tryd.ntmps37
    go_wp2_with (first
      | ((with_reducible refine gG ?_); refine wpList_want rfl ?_)
      | (go_at_call 52; refine (HLO.out _ (hO.rd HR.out)).mono ?_; rintro e w1 ⟨rfl, rfl⟩)
      | (go_at_call 53; refine (HNR.out _ (hO.rd HR4.out)).mono ?_; rintro e ww ⟨rfl, hb⟩; replace hO := hO.call hb; clear hb)
      | ((with_reducible refine gBld (T := 111) ?_); refine own_bld #[.pointer none, .int .i64 2] (by kernel_rfl) ?_)
      | ((with_reducible refine gBox ?_); first | (refine bxA hO rfl ?_; clear hO; intro ub ww hO) | (refine bx1 hO rfl rfl ?_; clear hO; intro ub ww hO))
      | ((with_reducible refine gLoad ?_); first | refine ldX hO 0 rfl rfl (tA rfl) (tS rfl) ?_ | refine ldC hO 0 rfl rfl (tA rfl) rfl ?_))
    go_loopg [] 1 (fun q wr => q ≤ 1 ∧ Own wn wr [.blk ub (.cells #[.pointer none, .int .i64 2] 111 (0,0))])
    case atStart => exact ⟨by omega, hO⟩
    case round =>
      obtain ⟨hq, hO1⟩ := hrel
      clear hO
      have hO := hO1
      clear hO1
      go_wp2_with (first
        | ((with_reducible refine gG ?_); refine wpList_want rfl ?_)
        | ((with_reducible refine gLoad ?_); first | refine ldX hO 0 rfl rfl (tA rfl) (tS rfl) ?_ | refine ldC hO 0 rfl rfl (tA rfl) rfl ?_))
      go_ret2
      exact ⟨none, 0, rfl, hO.below, World.ownsRow_nil _ _ _ _⟩
  · rw [if_neg (fun h => h h40)] at hE4
    have ho : Go.Kc.mayOpen b4 := by obtain ⟨_, _, _, h⟩ := Go.Kc.opE_ok h40; exact h
    have hT4 : T = if E = 0 then (Go.Pz.uloop b4 V V ⟨Go.Kc.open_ 528 b4, false⟩ []).2 else [] := by rw [← hT]; unfold Go.Pz.unT; rw [hE, hV, hb4]
    have HNR := Lib.hid (fun w h => newR_ok 528 (by omega) (some ⟨ba, off + 4, none⟩) n4 (cap - 4) b4 w h (by omega) hl4 (by rw [← hl4]; exact ho.1) ho.2.1 _ rfl)
    have HNV : Hid (¬ Go.Kc.val ((b4.drop 1).take 4) = 4294967295) := ho.2.2
    have HOP := Lib.hid (Go.Kc.rok_open (n := 528) ho)
    have HE4 := Lib.hid hE4
    have HT4 := Lib.hid hT4
    have HMM := Lib.hid hM
    have HR := Lib.hid hR
    have HR4 := Lib.hid hR4
    have HB4 := Lib.hid hl4
    have HN4 : Hid (n4 ≤ 10000000) := by show _ ≤ _; omega
    have HNIL := Lib.hid nilT
    clear hR hT hE hM hlen nilT h1 hV hLE h2 h2' h3 hR4 hl4 hb4 h40 ho hE4 hT4
    generalize hW : w = wn at hO HR HR4 ⊢
    clear hW w
    go_enter Tryd.func37, Tryd.ntmps37
    go_wp2_with (first
      | ((with_reducible refine gG ?_); refine wpList_want rfl ?_)
      | (go_at_call 52; refine (HLO.out _ (hO.rd HR.out)).mono ?_; rintro e w1 ⟨rfl, rfl⟩)
      | (go_at_call 53; refine (HNR.out _ (hO.rd HR4.out)).mono ?_; rintro e ww hpost; unfold newPost at hpost; rw [if_neg HNV.out] at hpost; obtain ⟨rb, aP, cP, aB, cB, rfl, hK⟩ := hpost; replace hO := hO.join hK; clear hK)
      | ((with_reducible refine gBld (T := 111) ?_); refine own_bld (uC rb false) (by kernel_rfl) ?_)
      | ((with_reducible refine gBox ?_); first | (refine bxA hO rfl ?_; clear hO; intro ub ww hO) | (refine bx1 hO rfl rfl ?_; clear hO; intro ub ww hO)))
    have hO2 : Own wn ww (uL rb ub aB n4 cB aP cP b4 ⟨Go.Kc.open_ 528 b4, false⟩ [.sl 5 1 (.slice none 0 0) 0 (u8s [])]) := by
      have h := hO.add (Below.refl _ _) (r := .sl 5 1 (.slice none 0 0) 0 (u8s [])) (World.ownsRow_nil _ _ _ _)
      exact h.perm ((List.perm_append_comm (l₁ := [_, _]) (l₂ := [_, _, _])).trans (List.Perm.append_left [_, _, _] (List.Perm.swap _ _ _)))
    clear hO
    have hO := hO2
    clear hO2 HNR HLO
    go_loopg [10] (V + 1) (fun mm s10 wr => ∃ (s : Go.Pz.Us) (out : List (BitVec 8)) (K f : Nat) (aO : Option Addr) (cO : Nat), mm = (if s.bad then 0 else V - K + 1) ∧ s10 = .slice aO K cO ∧ K ≤ V ∧ Hid (out.length = K) ∧ Hid (Go.Pz.uloop b4 V f s out = Go.Pz.uloop b4 V V ⟨Go.Kc.open_ 528 b4, false⟩ []) ∧ Hid (s.bad = false → V ≤ K + f) ∧ Hid (Go.Kc.Rok 528 b4 s.r) ∧
      Own wn wr (uL rb ub aB n4 cB aP cP b4 s [.sl 5 1 (.slice aO K cO) K (u8s out)]))
    case atStart => exact ⟨⟨Go.Kc.open_ 528 b4, false⟩, [], 0, V, none, 0, by simp, rfl, by omega, rfl, rfl, fun _ => by omega, HOP.out, hO⟩
    case round =>
      obtain ⟨s, out, K, f, aO, cO, hmm2, rfl, hKV, HK, HF, HV, HRK, hO1⟩ := hrel
      clear hO
      have hO := hO1
      clear hO1
      obtain ⟨r, bad⟩ := s
      cases bad
      · dsimp only at hmm2
        simp only [Bool.false_eq_true, if_false] at hmm2
        unfold uL at hO
        dsimp only at hO
        by_cases hlt : K < V
        · have d5 : decide ((K : Int) < (V : Int)) = true := decide_eq_true (by omega)
          obtain ⟨g, rfl⟩ : ∃ g, f = g + 1 := ⟨f - 1, by have := HV.out rfl; omega⟩
          obtain ⟨t, ht⟩ : ∃ t, (Go.Pz.utok b4 ⟨r, false⟩ out V).1 = t := ⟨_, rfl⟩
          obtain ⟨o2, ho2⟩ : ∃ t, (Go.Pz.utok b4 ⟨r, false⟩ out V).2 = t := ⟨_, rfl⟩
          obtain ⟨K2, hK2⟩ : ∃ K2, o2.length = K2 := ⟨_, rfl⟩
          have hlen2 := Go.Pz.utok_len (b := b4) (s := ⟨r, false⟩) (out := out) (most := V) (by rw [HK.out]; exact hlt)
          rw [ht, ho2, hK2, HK.out] at hlen2
          have hst : Go.Pz.uloop b4 V g t o2 = Go.Pz.uloop b4 V V ⟨Go.Kc.open_ 528 b4, false⟩ [] := by
            rw [← HF.out]
            conv => rhs; unfold Go.Pz.uloop
            rw [if_pos ⟨rfl, by rw [HK.out]; exact hlt⟩, ht, ho2]
          have hrk : Go.Kc.Rok 528 b4 t.r := by rw [← ht]; exact Go.Pz.utok_rok HRK.out out V
          have HTC := Lib.hid (fun (w : World) hO => utok_calls (w0 := wn) (w := w) (L := []) (rb := rb) (ub := ub) (aB := aB) (cB := cB) (aP := aP) (cP := cP) (aO := aO) (cO := cO) b4 ⟨r, false⟩ HRK.out HB4.out HN4.out out HK.out V hKV (by omega) t o2 ht ho2 K2 hK2 hO)
          have HST := Lib.hid hst
          have HRK2 := Lib.hid hrk
          have HL2 := Lib.hid hlen2
          have HK2 := Lib.hid hK2
          have HVG : Hid (V ≤ K + (g + 1)) := HV.out rfl
          clear ht ho2 hst hrk hlen2 hK2 HF HV
          go_wp2_with (first
            | ((with_reducible refine gG ?_); refine wpList_want rfl ?_)
            | ((with_reducible refine gLoad ?_); first | refine ldX hO 0 rfl rfl (tA rfl) (tS rfl) ?_ | refine ldC hO 0 rfl rfl (tA rfl) rfl ?_ | refine ldX hO 1 rfl rfl (tA rfl) (tS rfl) ?_ | refine ldC hO 1 rfl rfl (tA rfl) rfl ?_ | refine ldX hO 2 rfl rfl (tA rfl) (tS rfl) ?_ | refine ldC hO 2 rfl rfl (tA rfl) rfl ?_ | refine ldX hO 3 rfl rfl (tA rfl) (tS rfl) ?_ | refine ldC hO 3 rfl rfl (tA rfl) rfl ?_)
            | (go_at_call 54; refine (HTC.out _ hO).mono ?_; rintro e ww ⟨a2, c2, rfl, hO2⟩; clear hO; have hO := hO2; clear hO2))
          go_roundg (if t.bad then 0 else V - K2 + 1)
          case measure =>
            have h := HL2.out
            cases hb : t.bad
            · have := h.2.1 hb
              simp; omega
            · simp; omega
          case rel => exact ⟨t, o2, K2, g, a2, c2, rfl, rfl, HL2.out.1, HK2.out, HST.out, fun hb => by have h := HL2.out.2.1 hb; have h2 := HVG.out; omega, HRK2.out, hO⟩
        · obtain rfl : K = V := by omega
          have d5 : decide ((K : Int) < (K : Int)) = false := decide_eq_false (by omega)
          have hfin : Go.Pz.uloop b4 K K ⟨Go.Kc.open_ 528 b4, false⟩ [] = (⟨r, false⟩, out) := by
            rw [← HF.out]; exact Go.Pz.uloop_stop (.inr (by rw [HK.out]; exact Nat.le_refl _)) f
          have he := HE4.out
          have ht := HT4.out
          rw [hfin] at he ht
          dsimp only at he ht
          by_cases hu : r.used = n4
          · rw [if_neg (by rintro (h | h); cases h; exact h hu)] at he
            rw [he, if_pos rfl] at ht
            subst ht
            subst he
            obtain rfl : M = K := by rw [← HMM.out, HK.out]
            have d6 : ((r.used : Int) == (n4 : Int)) = true := by simp [hu]
            have d6' : decide ((r.used : Int) = (n4 : Int)) = true := decide_eq_true (by omega)
            clear hfin HF HV HK HE4 HT4 HMM HNIL hmm2
            go_wp2_with (first
              | ((with_reducible refine gG ?_); refine wpList_want rfl ?_)
              | ((with_reducible refine gLoad ?_); first | refine ldX hO 0 rfl rfl (tA rfl) (tS rfl) ?_ | refine ldC hO 0 rfl rfl (tA rfl) rfl ?_ | refine ldX hO 1 rfl rfl (tA rfl) (tS rfl) ?_ | refine ldC hO 1 rfl rfl (tA rfl) rfl ?_ | refine ldX hO 2 rfl rfl (tA rfl) (tS rfl) ?_ | refine ldC hO 2 rfl rfl (tA rfl) rfl ?_ | refine ldX hO 3 rfl rfl (tA rfl) (tS rfl) ?_ | refine ldC hO 3 rfl rfl (tA rfl) rfl ?_)
              | (go_at_call 55; refine (used_calls hO).mono ?_; rintro e w1 ⟨rfl, rfl⟩))
            go_ret2
            exact ⟨aO, cO, rfl, hO.below, hO.row 4 rfl⟩
          · rw [if_pos (.inr hu)] at he
            obtain ⟨e1, e2⟩ := HNIL.out (by rw [he]; decide)
            subst e1
            subst e2
            subst he
            have d6 : ((r.used : Int) == (n4 : Int)) = false := by simp; omega
            have d6' : decide ((r.used : Int) = (n4 : Int)) = false := decide_eq_false (by omega)
            clear hfin HF HV HK HE4 HT4 HMM HNIL hmm2
            go_wp2_with (first
              | ((with_reducible refine gG ?_); refine wpList_want rfl ?_)
              | ((with_reducible refine gLoad ?_); first | refine ldX hO 0 rfl rfl (tA rfl) (tS rfl) ?_ | refine ldC hO 0 rfl rfl (tA rfl) rfl ?_ | refine ldX hO 1 rfl rfl (tA rfl) (tS rfl) ?_ | refine ldC hO 1 rfl rfl (tA rfl) rfl ?_ | refine ldX hO 2 rfl rfl (tA rfl) (tS rfl) ?_ | refine ldC hO 2 rfl rfl (tA rfl) rfl ?_ | refine ldX hO 3 rfl rfl (tA rfl) (tS rfl) ?_ | refine ldC hO 3 rfl rfl (tA rfl) rfl ?_)
              | (go_at_call 55; refine (used_calls hO).mono ?_; rintro e w1 ⟨rfl, rfl⟩))
            go_ret2
            exact ⟨none, 0, rfl, hO.below, World.ownsRow_nil _ _ _ _⟩
      · have hfin : Go.Pz.uloop b4 V V ⟨Go.Kc.open_ 528 b4, false⟩ [] = (⟨r, true⟩, out) := by
          rw [← HF.out]; exact Go.Pz.uloop_stop (.inl rfl) f
        have he := HE4.out
        rw [hfin] at he
        dsimp only at he
        rw [if_pos (.inl rfl)] at he
        obtain ⟨e1, e2⟩ := HNIL.out (by rw [he]; decide)
        subst e1
        subst e2
        subst he
        unfold uL at hO
        dsimp only at hO
        clear hfin HF HV HK HE4 HT4 HMM HNIL hmm2
        go_wp2_with (first
          | ((with_reducible refine gG ?_); refine wpList_want rfl ?_)
          | ((with_reducible refine gLoad ?_); first | refine ldX hO 0 rfl rfl (tA rfl) (tS rfl) ?_ | refine ldC hO 0 rfl rfl (tA rfl) rfl ?_ | refine ldX hO 1 rfl rfl (tA rfl) (tS rfl) ?_ | refine ldC hO 1 rfl rfl (tA rfl) rfl ?_ | refine ldX hO 2 rfl rfl (tA rfl) (tS rfl) ?_ | refine ldC hO 2 rfl rfl (tA rfl) rfl ?_ | refine ldX hO 3 rfl rfl (tA rfl) (tS rfl) ?_ | refine ldC hO 3 rfl rfl (tA rfl) rfl ?_))
        go_ret2
        exact ⟨none, 0, rfl, hO.below, World.ownsRow_nil _ _ _ _⟩
end Go.Proofs.YtniibdglodnhoaaDoor

/- Walk: the document's more. -/
namespace Go.Own
open Go.RowKit
/-- of what a call has made, one thing -/
theorem Own.only {w0 w : World} {L : List Res} (h : Own w0 w L) {r : Res} (hr : r ∈ L) : Own w0 w [r] :=
  ⟨h.below, fun q hq => by rw [List.mem_singleton] at hq; rw [hq]; exact h.mem r hr, List.pairwise_singleton _ _⟩
end Go.Own
namespace Go.Proofs.YtniibdglodnhoaaDoor
open Go.RowKit Go.Own Go.Bv Go.Ord Go.Eq Go.Opn Go.Pb

theorem iu8x : (Tryd.prog.info? 5).map (·.size) = some 1 := by kernel_rfl
end Go.Proofs.YtniibdglodnhoaaDoor

/- Walk: the document's Encode. -/
namespace Go.Kc
theorem dtext_carry {K V P : Nat} {tx : List (BitVec 8)} (htx : be (1 + K) (V / 4294967296) = tx) (hc : 4294967296 ≤ V % 4294967296 + P) (hP : P < 4294967296) (hroom : V ≤ 4294967296 * 256 ^ K) : be (1 + K) (val tx + 1) = be (1 + K) ((V + P) / 4294967296) := by
  have h1 : V / 4294967296 < 256 ^ (1 + K) := by
    have : 0 < 256 ^ K := Nat.pow_pos (by decide)
    rw [Nat.pow_add, Nat.pow_one]
    omega
  rw [← htx, val_be _ _ h1]
  congr 1
  omega
/-- the writer's next state and what the document's writer wants of it -/
theorem dfacts {n : Nat} {l : List (Nat × Bool)} (hw : within n l) {k : Nat} {r : Rc} (hr : enc n (l.take k) = r) {a : Nat} (ha : a < n) (b : Bool) :
    r.Good ∧ r.p.length = n ∧ r.V ≤ 4294967296 * 256 ^ r.k ∧ r.k ≤ l.length ∧ 253952 ≤ r.part a ∧ r.part a + 253952 ≤ r.span ∧ mayB (r.p.getD a 0) = true := by
  have hw2 : within n (l.take k) := fun x hx => hw x (List.mem_of_mem_take hx)
  obtain ⟨g, _, h3, h4⟩ := enc_facts hw2
  have h5 := rc_room hw2
  rw [hr] at g h3 h4 h5
  obtain ⟨b1, b2, _⟩ := part_bounds g (a := a) (by rw [h3]; exact ha)
  refine ⟨g, h3, by omega, ?_, b1, b2, all_get g.may (by rw [h3]; exact ha)⟩
  rw [List.length_take] at h4
  omega
end Go.Kc
namespace Go.Proofs.YtniibdglodnhoaaDoor
open Go.RowKit Go.Own Go.Bv Go.Ord Go.Eq Go.Opn Go.Pb

end Go.Proofs.YtniibdglodnhoaaDoor

/- Walk: the document's Encode, whatever it is given. -/
namespace Go.Proofs.YtniibdglodnhoaaDoor
open Go.RowKit Go.Own Go.Bv Go.Ord Go.Eq Go.Opn Go.Pb

end Go.Proofs.YtniibdglodnhoaaDoor

/- Walks: the document's SameBits, Start. -/
namespace Go.Own
open Go.RowKit
section
variable {P : Program}
/-- three results: a slot, a block, a slot -/
theorem res_tct {fn : Func} {p u v : Tmp} {ty : TypeId} (h : fn.results = #[.tmp v, .cell p ty, .tmp u]) (tmps : Array Value) (w : World) (g : Nat) (t : TypeId) (cs : Array Value) (fr : Nat × Nat) (d : TypeDesc)
    (hp : tmps.getD p undef = .pointer (some ⟨g, 0, none⟩)) (hg : w.heap[g]? = some (.cells cs t fr))
    (hu : P.underlying ty = some d) (hd : (match d with | .struct _ | .array _ _ => true | _ => false) = true) (hi : (P.info? ty).map (·.size) = some cs.size) :
    (results fn tmps).run P w = .ok (.tuple #[tmps.getD v undef, .agg cs, tmps.getD u undef]) w := by
  have hp' : tmps[p]?.getD undef = .pointer (some ⟨g, 0, none⟩) := by simpa using hp
  simp [results, h, hp', asAddr, run_loadVar_row w g t ty cs fr d hg hu hd hi]
end
end Go.Own
namespace Go.Proofs.YtniibdglodnhoaaDoor
open Go.RowKit Go.Own Go.Bv Go.Ord Go.Eq Go.Opn Go.Pb

def rgC (pS : Value) (span code used : Nat) : Array Value := #[pS, .int .u32 (span : Int), .int .u32 (code : Int), .int .i64 (used : Int)]
end Go.Proofs.YtniibdglodnhoaaDoor

/- Walks: solid's Seal. -/
namespace Go.Proofs.YtniibdglodnhoaaDoor
open Go.RowKit Go.Own Go.Bv Go.Ord Go.Eq Go.Opn Go.Pb

set_option maxHeartbeats 4000000 in
set_option maxRecDepth 100000 in
theorem sseal_ok (key : St) (n : BitVec 64) (a : Option Addr) (len cap : Nat) (b : List (BitVec 8)) (w : World) (hR : Rd w 1 a len cap (u8s b)) (hl : len ≤ 600) (hn : n ≠ 18446744073709551615#64) (hT : Turns w) (T : List (BitVec 8)) (hTT : sealT key n b = T) (M : Nat) (hM : T.length = M) :
    Calls Tryd.prog 7 #[.agg (ringC key n), .slice a len cap] w fun e w' => ∃ a' c', e = .returned (.tuple #[.slice a' M c', .agg (ringC key (n + 1#64)), .int .i64 0]) ∧ Below w.heap.size w w' ∧ w'.ownsRow w.heap.size 5 1 (.slice a' M c') M (u8s T) := by
  have hO := Own.start w
  have hbl : b.length = len := by have := hR.len; rw [u8s_length] at this; omega
  obtain ⟨l1, l2⟩ := Go.Pz.pack_length b
  have hls := sealT_length key n b
  obtain ⟨p, hp⟩ : ∃ p, Go.Pz.packT b = p := ⟨_, rfl⟩
  obtain ⟨P, hP⟩ : ∃ P, p.length = P := ⟨_, rfl⟩
  have hTT2 := hTT
  unfold sealT boxT at hTT2
  rw [hp] at l1 l2 hls hTT2
  rw [hP] at l1 l2 hls
  rw [hTT, hM] at hls
  obtain ⟨t, ht⟩ : ∃ t, key.hide n p = t := ⟨_, rfl⟩
  have htl : t.length = P := by rw [← ht, St.hide_length, hP]
  obtain ⟨u, hu⟩ : ∃ u, key.tag n t = u := ⟨_, rfl⟩
  rw [ht, hu] at hTT2
  have g1 := fun w h => pack_ok a len cap b w h (by omega) p hp P hP
  have g2 := fun w a c h hT => seal_ok key n a P c p w h (by omega) hn hT
  rw [ht, hu] at g2
  have g3 := fun w a c h => bytes_ok n u a P c t w h (by omega)
  have hx : (eight n ++ u.octs ++ t).length = 24 + P := by rw [List.length_append, List.length_append, eight_length, St.octs_length, htl]
  obtain ⟨X, hX⟩ : ∃ X, eight n ++ u.octs ++ t = X := ⟨_, rfl⟩
  rw [hX] at g3 hTT2 hx
  have hP8 : 8 + 16 + P + 4 = M := by omega
  have g4 := fun w a c h => seal_calls a (8 + 16 + P) c X w h (by omega)
  rw [hTT2, hP8] at g4
  obtain ⟨n1, hn1⟩ : ∃ n1, n + 1#64 = n1 := ⟨_, rfl⟩
  rw [hn1] at g2 ⊢
  have G1 := Lib.hid g1
  have G2 := Lib.hid g2
  have G3 := Lib.hid g3
  have G4 := Lib.hid g4
  have HR := Lib.hid hR
  have HT := Lib.hid hT
  have HTL := Lib.hid htl
  have hP6 : P ≤ 65536 := by omega
  clear hR hT hTT hTT2 hM hbl l1 l2 hls hp hP ht htl hu g1 g2 g3 g4 hx hX hn1 hn hP8
  generalize hW : w = wn at hO HT HR ⊢
  clear hW w
  go_enter Tryd.func7, Tryd.ntmps7
  go_wp2_with (first
    | ((with_reducible refine gBox ?_); first | (refine bxA hO rfl ?_; clear hO; intro br ww hO) | (refine bx1 hO rfl rfl ?_; clear hO; intro br ww hO))
    | ((with_reducible refine gG ?_); refine wpList_want rfl ?_)
    | ((with_reducible refine gAlloc (T := 51) ?_); refine own_alloc hO _ _ ibz ?_; clear hO; intro bx ww hO)
    | ((with_reducible refine gAlloc (T := 27) ?_); refine own_alloc hO _ _ irz ?_; clear hO; intro bn ww hO)
    | (go_at_call 16; refine (G1.out _ (hO.rd HR.out)).mono ?_; rintro e ww ⟨a2, c2, rfl, hb, hr⟩; replace hO := hO.addRow hb hr; clear hb hr)
    | (go_at_call 17; refine (G2.out _ _ _ (hO.rdAt 0 rfl) (HT.out.own hO)).mono ?_; rintro e ww ⟨g, C, rfl, hb, hh, hC⟩; replace hO := hO.add hb hh; clear hb hh)
    | (go_at_call 18; refine (G3.out _ _ _ (rd_blk_off (hO.blk 2 rfl) 0 (by rw [List.drop_zero]; exact hC) (by rw [u8s_length]; exact HTL.out) (Nat.le_refl _) (by simp [maxLen]; omega))).mono ?_; rintro e ww ⟨a3, c3, rfl, hb, hr⟩; replace hO := hO.addRow hb hr; clear hb hr)
    | ((with_reducible refine gLoad ?_); first | refine ldX hO 0 rfl rfl (tA rfl) (tS rfl) ?_ | refine ldC hO 0 rfl rfl (tA rfl) rfl ?_ | refine ldX hO 1 rfl rfl (tA rfl) (tS rfl) ?_ | refine ldC hO 1 rfl rfl (tA rfl) rfl ?_ | refine ldX hO 2 rfl rfl (tA rfl) (tS rfl) ?_ | refine ldC hO 2 rfl rfl (tA rfl) rfl ?_ | refine ldX hO 3 rfl rfl (tA rfl) (tS rfl) ?_ | refine ldC hO 3 rfl rfl (tA rfl) rfl ?_ | refine ldX hO 4 rfl rfl (tA rfl) (tS rfl) ?_ | refine ldC hO 4 rfl rfl (tA rfl) rfl ?_ | refine ldX hO 5 rfl rfl (tA rfl) (tS rfl) ?_ | refine ldC hO 5 rfl rfl (tA rfl) rfl ?_)
    | ((with_reducible refine gStore ?_); first | (refine stX hO 0 rfl rfl rfl rfl rfl (tS rfl) ?_; clear hO; intro ww hO) | (refine stC hO 0 rfl rfl rfl (ltb rfl) rfl (tS rfl) ?_; clear hO; intro ww hO) | (refine stX hO 1 rfl rfl rfl rfl rfl (tS rfl) ?_; clear hO; intro ww hO) | (refine stC hO 1 rfl rfl rfl (ltb rfl) rfl (tS rfl) ?_; clear hO; intro ww hO) | (refine stX hO 2 rfl rfl rfl rfl rfl (tS rfl) ?_; clear hO; intro ww hO) | (refine stC hO 2 rfl rfl rfl (ltb rfl) rfl (tS rfl) ?_; clear hO; intro ww hO) | (refine stX hO 3 rfl rfl rfl rfl rfl (tS rfl) ?_; clear hO; intro ww hO) | (refine stC hO 3 rfl rfl rfl (ltb rfl) rfl (tS rfl) ?_; clear hO; intro ww hO) | (refine stX hO 4 rfl rfl rfl rfl rfl (tS rfl) ?_; clear hO; intro ww hO) | (refine stC hO 4 rfl rfl rfl (ltb rfl) rfl (tS rfl) ?_; clear hO; intro ww hO) | (refine stX hO 5 rfl rfl rfl rfl rfl (tS rfl) ?_; clear hO; intro ww hO) | (refine stC hO 5 rfl rfl rfl (ltb rfl) rfl (tS rfl) ?_; clear hO; intro ww hO)))
  refine wp_region_textS (fun w' => Own wn w' [.blk bn (.cells (ringC key n1) 27 (0,0))]) (fun op => match op with | .load _ _ => true | _ => false) (by kernel_rfl) (by kernel_rfl) (hO.drew.only (by simp)) ?_
  replace hO := hO.drew
  generalize World.drew _ = wd at hO ⊢
  go_wp2_with (first
    | (((with_reducible refine gIL ?_); first | refine wpI_ldS (fun w' hS => hS.blk 0 rfl) rfl rfl (tA rfl) (tS rfl) ?_); first | (refine wpI_act (by simp only [Act.put, List.setIfInBounds_toArray, List.set_cons_succ, List.set_cons_zero]; rfl) ?_) | skip)
    | (go_at_call 15; refine (G4.out _ _ _ (hO.rdAt 0 rfl)).mono ?_; rintro e ww ⟨a4, c4, rfl, hb, hr⟩; replace hO := hO.addRow hb hr; clear hb hr)
    | ((with_reducible refine gStore ?_); first | (refine stX hO 0 rfl rfl rfl rfl rfl (tS rfl) ?_; clear hO; intro ww hO) | (refine stC hO 0 rfl rfl rfl (ltb rfl) rfl (tS rfl) ?_; clear hO; intro ww hO) | (refine stX hO 1 rfl rfl rfl rfl rfl (tS rfl) ?_; clear hO; intro ww hO) | (refine stC hO 1 rfl rfl rfl (ltb rfl) rfl (tS rfl) ?_; clear hO; intro ww hO) | (refine stX hO 2 rfl rfl rfl rfl rfl (tS rfl) ?_; clear hO; intro ww hO) | (refine stC hO 2 rfl rfl rfl (ltb rfl) rfl (tS rfl) ?_; clear hO; intro ww hO) | (refine stX hO 3 rfl rfl rfl rfl rfl (tS rfl) ?_; clear hO; intro ww hO) | (refine stC hO 3 rfl rfl rfl (ltb rfl) rfl (tS rfl) ?_; clear hO; intro ww hO) | (refine stX hO 4 rfl rfl rfl rfl rfl (tS rfl) ?_; clear hO; intro ww hO) | (refine stC hO 4 rfl rfl rfl (ltb rfl) rfl (tS rfl) ?_; clear hO; intro ww hO) | (refine stX hO 5 rfl rfl rfl rfl rfl (tS rfl) ?_; clear hO; intro ww hO) | (refine stC hO 5 rfl rfl rfl (ltb rfl) rfl (tS rfl) ?_; clear hO; intro ww hO) | (refine stX hO 6 rfl rfl rfl rfl rfl (tS rfl) ?_; clear hO; intro ww hO) | (refine stC hO 6 rfl rfl rfl (ltb rfl) rfl (tS rfl) ?_; clear hO; intro ww hO) | (refine stX hO 7 rfl rfl rfl rfl rfl (tS rfl) ?_; clear hO; intro ww hO) | (refine stC hO 7 rfl rfl rfl (ltb rfl) rfl (tS rfl) ?_; clear hO; intro ww hO))
    | ((with_reducible refine gI ?_); refine wpI_step rfl rfl (by kernel_rfl) ?_; intro K hK; have HK := Lib.hid hK; clear hK) | ((with_reducible refine gI ?_); first | refine wpI_skip rfl ?_ | refine wpI_want rfl ?_) | ((with_reducible refine gOnlyK HK.out ?_ ?_); exact hO.only (by simp); clear HK K; first | (refine wpI_act (by simp only [Act.put, List.setIfInBounds_toArray, List.set_cons_succ, List.set_cons_zero]; rfl) ?_) | skip) | (with_reducible refine wpI_nil ?_))
  refine bodyPost_ret (res_tct rfl _ _ _ 27 (ringC key n1) (0,0) _ rfl (hO.blk 6 rfl) Tryd.underlying27 rfl (irs _ _)) rfl ⟨a4, c4, rfl, hO.below, hO.row 0 rfl⟩

set_option maxHeartbeats 2000000 in
set_option maxRecDepth 100000 in
theorem sseal_full (key : St) (n : BitVec 64) (a : Option Addr) (len cap : Nat) (b : List (BitVec 8)) (w : World) (hR : Rd w 1 a len cap (u8s b)) (hl : len ≤ 600) (hn : n = 18446744073709551615#64) (hT : Turns w) :
    Calls Tryd.prog 7 #[.agg (ringC key n), .slice a len cap] w fun e w' => e = .returned (.tuple #[.slice none 0 0, .agg (ringC St.zero 0#64), .int .i64 6]) ∧ Below w.heap.size w w' := by
  have hO := Own.start w
  have hbl : b.length = len := by have := hR.len; rw [u8s_length] at this; omega
  obtain ⟨l1, l2⟩ := Go.Pz.pack_length b
  obtain ⟨p, hp⟩ : ∃ p, Go.Pz.packT b = p := ⟨_, rfl⟩
  obtain ⟨P, hP⟩ : ∃ P, p.length = P := ⟨_, rfl⟩
  rw [hp] at l1 l2
  rw [hP] at l1 l2
  have g1 := fun w h => pack_ok a len cap b w h (by omega) p hp P hP
  have g2 := fun w a c h hT => seal_full key n a P c p w h (by omega) hn hT
  have G1 := Lib.hid g1
  have G2 := Lib.hid g2
  have HR := Lib.hid hR
  have HT := Lib.hid hT
  clear hR hT hbl l1 l2 hp hP g1 g2 hn
  generalize hW : w = wn at hO HT HR ⊢
  clear hW w
  go_enter Tryd.func7, Tryd.ntmps7
  go_wp2_with (first
    | ((with_reducible refine gBox ?_); first | (refine bxA hO rfl ?_; clear hO; intro br ww hO) | (refine bx1 hO rfl rfl ?_; clear hO; intro br ww hO))
    | ((with_reducible refine gG ?_); refine wpList_want rfl ?_)
    | ((with_reducible refine gAlloc (T := 51) ?_); refine own_alloc hO _ _ ibz ?_; clear hO; intro bx ww hO)
    | ((with_reducible refine gAlloc (T := 27) ?_); refine own_alloc hO _ _ irz ?_; clear hO; intro bn ww hO)
    | (go_at_call 16; refine (G1.out _ (hO.rd HR.out)).mono ?_; rintro e ww ⟨a2, c2, rfl, hb, hr⟩; replace hO := hO.addRow hb hr; clear hb hr)
    | (go_at_call 17; refine (G2.out _ _ _ (hO.rdAt 0 rfl) (HT.out.own hO)).mono ?_; rintro e ww ⟨rfl, hb⟩; replace hO := hO.call hb; clear hb)
    | ((with_reducible refine gBld (T := 27) ?_); refine own_bld (ringC St.zero 0#64) (by kernel_rfl) ?_)
    | ((with_reducible refine gLoad ?_); first | refine ldX hO 0 rfl rfl (tA rfl) (tS rfl) ?_ | refine ldC hO 0 rfl rfl (tA rfl) rfl ?_ | refine ldX hO 1 rfl rfl (tA rfl) (tS rfl) ?_ | refine ldC hO 1 rfl rfl (tA rfl) rfl ?_ | refine ldX hO 2 rfl rfl (tA rfl) (tS rfl) ?_ | refine ldC hO 2 rfl rfl (tA rfl) rfl ?_ | refine ldX hO 3 rfl rfl (tA rfl) (tS rfl) ?_ | refine ldC hO 3 rfl rfl (tA rfl) rfl ?_ | refine ldX hO 4 rfl rfl (tA rfl) (tS rfl) ?_ | refine ldC hO 4 rfl rfl (tA rfl) rfl ?_ | refine ldX hO 5 rfl rfl (tA rfl) (tS rfl) ?_ | refine ldC hO 5 rfl rfl (tA rfl) rfl ?_)
    | ((with_reducible refine gStore ?_); first | (refine stX hO 0 rfl rfl rfl rfl rfl (tS rfl) ?_; clear hO; intro ww hO) | (refine stC hO 0 rfl rfl rfl (ltb rfl) rfl (tS rfl) ?_; clear hO; intro ww hO) | (refine stX hO 1 rfl rfl rfl rfl rfl (tS rfl) ?_; clear hO; intro ww hO) | (refine stC hO 1 rfl rfl rfl (ltb rfl) rfl (tS rfl) ?_; clear hO; intro ww hO) | (refine stX hO 2 rfl rfl rfl rfl rfl (tS rfl) ?_; clear hO; intro ww hO) | (refine stC hO 2 rfl rfl rfl (ltb rfl) rfl (tS rfl) ?_; clear hO; intro ww hO) | (refine stX hO 3 rfl rfl rfl rfl rfl (tS rfl) ?_; clear hO; intro ww hO) | (refine stC hO 3 rfl rfl rfl (ltb rfl) rfl (tS rfl) ?_; clear hO; intro ww hO) | (refine stX hO 4 rfl rfl rfl rfl rfl (tS rfl) ?_; clear hO; intro ww hO) | (refine stC hO 4 rfl rfl rfl (ltb rfl) rfl (tS rfl) ?_; clear hO; intro ww hO) | (refine stX hO 5 rfl rfl rfl rfl rfl (tS rfl) ?_; clear hO; intro ww hO) | (refine stC hO 5 rfl rfl rfl (ltb rfl) rfl (tS rfl) ?_; clear hO; intro ww hO)))
  refine bodyPost_ret (res_tct rfl _ _ _ 27 (ringC St.zero 0#64) (0,0) _ rfl (hO.blk 3 rfl) Tryd.underlying27 rfl (irs _ _)) rfl ⟨rfl, hO.below⟩
end Go.Proofs.YtniibdglodnhoaaDoor

/- Equality of states. -/
namespace Go.Proofs.YtniibdglodnhoaaDoor
open Go.RowKit Go.Own Go.Bv Go.Ord Go.Eq

theorem eqW (s t : St) (w : World) : (binOp .eql 24 (.agg s.C) (.agg t.C)).run Tryd.prog w = .ok (.bool (decide (s = t))) w := by
  have := run_eql_u32 (P := Tryd.prog) w Tryd.underlying24 Tryd.underlying22 iu32s s.l t.l rfl rfl
  rw [show decide (s = t) = decide (s.l = t.l) from decide_eq_decide.2 St.l_inj.symm]
  exact this
theorem eqWT (s : St) (w : World) : (binOp .eql 24 (.agg s.C) (.agg s.C)).run Tryd.prog w = .ok (.bool true) w := by
  rw [eqW, decide_eq_true rfl]

end Go.Proofs.YtniibdglodnhoaaDoor

/- Walks: bytes.Equal, envelope's Same. -/
namespace Go.Proofs.YtniibdglodnhoaaDoor
open Go.RowKit Go.Own Go.Bv Go.Ord Go.Eq

end Go.Proofs.YtniibdglodnhoaaDoor
