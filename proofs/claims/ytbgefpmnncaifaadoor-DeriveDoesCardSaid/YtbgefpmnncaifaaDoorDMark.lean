/- The walk of DeriveMark. -/
import Derived.Test.YtbgefpmnncaifaaDoorDGoes
namespace Go.Proofs.YtbgefpmnncaifaaDoor
open Go.RowKit Go.Own Go.Bv Go.Ord Go.Eq

theorem dmark_flW : flat Tryd.prog 24 = false := by kernel_rfl
def St.mark (s : St) : BitVec 32 := Go.Bva.bxor s.perm.a s.d

set_option maxHeartbeats 1000000 in
set_option maxRecDepth 100000 in
theorem mark_calls (s : St) (w : World) (hT : Turns w) :
    Calls Tryd.prog 15 #[.agg s.C] w fun e w' => e = .returned (.int .u32 (s.mark.toNat : Int)) ∧ Below w.heap.size w w' := by
  have hO := Own.start w
  obtain ⟨u, hu⟩ : ∃ u, s.perm = u := ⟨_, rfl⟩
  have HM : Hid (s.mark = Go.Bva.bxor u.a s.d) := by show _ = _; unfold St.mark; rw [hu]
  rw [HM.out]
  have HU := Lib.hid hu
  have HT := Lib.hid hT
  clear hT hu
  have i0 : ∀ w, (Instr.index 24 (.agg u.C) (.int .i64 0)).run Tryd.prog w = .ok (.int .u32 (u.a.toNat : Int)) w := fun _ => by kernel_rfl
  generalize hW : w = wn at hO HT ⊢
  clear hW w
  go_enter Tryd.func15, Tryd.ntmps15
  go_wp2_with (first | ((with_reducible refine gBox ?_); first | (refine bxA hO rfl ?_; clear hO; intro b ww hO) | (refine bx1 hO rfl rfl ?_; clear hO; intro b ww hO)))
  replace hO : Own wn _ [.blk b (.cells s.C 24 (0,0))] := hO
  refine wp_region_textS (fun w' => Own wn w' [.blk b (.cells s.C 24 (0,0))]) (fun op => match op with | .load _ _ => true | _ => false) (by kernel_rfl) (by kernel_rfl) hO.drew ?_
  replace hO := hO.drew
  generalize World.drew _ = wd at hO ⊢
  go_wp2_with (first
    | (((with_reducible refine gIL ?_); first | refine wpI_ldS (fun w' hS => hS.blk 0 rfl) rfl rfl (tA rfl) (tS rfl) ?_); first | (refine wpI_act (by simp only [Act.put, List.setIfInBounds_toArray, List.set_cons_succ, List.set_cons_zero]; rfl) ?_) | skip)
    | (((with_reducible refine gIL ?_); first | refine wpI_ldcS (fun w' hS => hS.blk 0 rfl) rfl rfl (tA rfl) rfl ?_); first | (refine wpI_act (by simp only [Act.put, List.setIfInBounds_toArray, List.set_cons_succ, List.set_cons_zero]; rfl) ?_) | skip)
    | (go_at_call 20; refine (perm_calls s _ (HT.out.own hO)).mono ?_; rw [HU.out]; rintro e ww ⟨rfl, hb⟩; replace hO := hO.call hb; clear hb)
    | ((with_reducible refine Go.Bva.gBin ?_); refine Go.Bva.xor_u32 rfl rfl ?_)
    | ((with_reducible refine gI ?_); refine wpI_step rfl rfl (by kernel_rfl) ?_; intro K hK; have HK := Lib.hid hK; clear hK) | ((with_reducible refine gI ?_); first | refine wpI_skip rfl ?_ | refine wpI_want rfl ?_) | ((with_reducible refine gOnlyK HK.out ?_ ?_); exact hO; clear HK K; first | (refine wpI_act (by simp only [Act.put, List.setIfInBounds_toArray, List.set_cons_succ, List.set_cons_zero]; rfl) ?_) | skip) | (with_reducible refine wpI_nil ?_))
  go_ret
  exact ⟨rfl, hO.below⟩

set_option maxHeartbeats 1000000 in
set_option maxRecDepth 100000 in
theorem dmark_long (a1 : Option Addr) (n1 c1 : Nat) (word : List (BitVec 8)) (a2 : Option Addr) (n2 c2 : Nat) (salt : List (BitVec 8)) (r : Nat) (w : World) (hR1 : Rd w 1 a1 n1 c1 (u8s word)) (hR2 : Rd w 1 a2 n2 c2 (u8s salt)) (h : 64 < n1 ∨ 64 < n2) (hr : r < 256) (hT : Turns w)
    (hs1 : n1 ≤ 140737488355328) (hs2 : n2 ≤ 140737488355328) :
    Calls Tryd.prog 7 #[.slice a1 n1 c1, .slice a2 n2 c2, .int .u8 (r : Int)] w fun e w' => e = .returned (.bool true) ∧ Below w.heap.size w w' := by
  have hO := Own.start w
  have a0 : (0 : Int) ≤ (r : Int) := by omega
  have aL : (r : Int) < 256 := by omega
  have m1 := rd_le hR1
  have m2 := rd_le hR2
  obtain ⟨z, hz⟩ : ∃ z, St.zero = z := ⟨_, rfl⟩
  have g1 := fun a1 c1 a2 c2 w r => key_long a1 n1 c1 a2 n2 c2 r w m1 m2 h
  rw [hz] at g1
  have G1 := Lib.hid g1
  have HQ : Hid (∀ w, (binOp .eql 24 (.agg z.C) (.agg #[.int .u32 0, .int .u32 0, .int .u32 0, .int .u32 0])).run Tryd.prog w = .ok (.bool true) w) := fun w => by rw [← hz]; exact eqWT St.zero w
  have iwz' := iwz
  rw [hz] at iwz'
  have IWZ := Lib.hid iwz'
  have HR1 := Lib.hid hR1
  have HR2 := Lib.hid hR2
  have HT := Lib.hid hT
  clear hR1 hR2 hT g1 hz iwz'
  unfold maxLen at m1 m2
  generalize hW : w = wn at hO HR1 HR2 HT ⊢
  clear hW w
  by_cases h1 : 64 < n1
  · have d1 : decide ((64 : Int) < (n1 : Int)) = true := by simp; omega
    clear h
    go_enter Tryd.func7, Tryd.ntmps7
    go_wp2_with (first
      | ((with_reducible refine gG ?_); refine wpList_want rfl ?_)
      | ((with_reducible refine gLoad ?_); first | refine ldX hO 0 rfl rfl (tA rfl) (tS rfl) ?_ | refine ldC hO 0 rfl rfl (tA rfl) rfl ?_ | refine ldX hO 1 rfl rfl (tA rfl) (tS rfl) ?_ | refine ldC hO 1 rfl rfl (tA rfl) rfl ?_ | refine ldX hO 2 rfl rfl (tA rfl) (tS rfl) ?_ | refine ldC hO 2 rfl rfl (tA rfl) rfl ?_ | refine ldX hO 3 rfl rfl (tA rfl) (tS rfl) ?_ | refine ldC hO 3 rfl rfl (tA rfl) rfl ?_)
      | ((with_reducible refine gStore ?_); first | (refine stX hO 0 rfl rfl rfl rfl rfl (tS rfl) ?_; clear hO; intro ww hO) | (refine stC hO 0 rfl rfl rfl (ltb rfl) rfl (tS rfl) ?_; clear hO; intro ww hO))
      | ((with_reducible refine gAlloc ?_); refine own_alloc hO _ _ IWZ.out ?_; clear hO; intro bb ww hO)
      | (go_at_call 8; refine (dlive_calls _ (HT.out.own hO)).mono ?_; rintro e ww ⟨rfl, hb⟩; replace hO := hO.call hb; clear hb)
      | ((with_reducible refine gAppend ?_); first
          | (refine own_appendNil hO _ _ 25 eu8 rfl rfl (hO.rd HR1.out) (u8s_one _) m1 (by omega) ?_; clear hO; intro a' c' ww hO)
          | (refine own_appendNil hO _ _ 25 eu8 rfl rfl (hO.rd HR2.out) (u8s_one _) m2 (by omega) ?_; clear hO; intro a' c' ww hO))
      | (go_at_call 11; refine (G1.out _ _ _ _ _ _).mono ?_; rintro e ww ⟨rfl, hb⟩; replace hO := hO.call hb; clear hb)
      | ((with_reducible refine gEql (t := 24) ?_); refine eqD goes_eg rfl rfl ?_; refine ⟨_, HQ.out, ?_⟩))
    go_ret
    exact ⟨rfl, hO.below⟩
  · have d1 : decide ((64 : Int) < (n1 : Int)) = false := by simp; omega
    have d2 : decide ((64 : Int) < (n2 : Int)) = true := by simp; omega
    clear h
    go_enter Tryd.func7, Tryd.ntmps7
    go_wp2_with (first
      | ((with_reducible refine gG ?_); refine wpList_want rfl ?_)
      | ((with_reducible refine gLoad ?_); first | refine ldX hO 0 rfl rfl (tA rfl) (tS rfl) ?_ | refine ldC hO 0 rfl rfl (tA rfl) rfl ?_ | refine ldX hO 1 rfl rfl (tA rfl) (tS rfl) ?_ | refine ldC hO 1 rfl rfl (tA rfl) rfl ?_ | refine ldX hO 2 rfl rfl (tA rfl) (tS rfl) ?_ | refine ldC hO 2 rfl rfl (tA rfl) rfl ?_ | refine ldX hO 3 rfl rfl (tA rfl) (tS rfl) ?_ | refine ldC hO 3 rfl rfl (tA rfl) rfl ?_)
      | ((with_reducible refine gStore ?_); first | (refine stX hO 0 rfl rfl rfl rfl rfl (tS rfl) ?_; clear hO; intro ww hO) | (refine stC hO 0 rfl rfl rfl (ltb rfl) rfl (tS rfl) ?_; clear hO; intro ww hO))
      | ((with_reducible refine gAlloc ?_); refine own_alloc hO _ _ IWZ.out ?_; clear hO; intro bb ww hO)
      | (go_at_call 8; refine (dlive_calls _ (HT.out.own hO)).mono ?_; rintro e ww ⟨rfl, hb⟩; replace hO := hO.call hb; clear hb)
      | ((with_reducible refine gAppend ?_); first
          | (refine own_appendNil hO _ _ 25 eu8 rfl rfl (hO.rd HR1.out) (u8s_one _) m1 (by omega) ?_; clear hO; intro a' c' ww hO)
          | (refine own_appendNil hO _ _ 25 eu8 rfl rfl (hO.rd HR2.out) (u8s_one _) m2 (by omega) ?_; clear hO; intro a' c' ww hO))
      | (go_at_call 11; refine (G1.out _ _ _ _ _ _).mono ?_; rintro e ww ⟨rfl, hb⟩; replace hO := hO.call hb; clear hb)
      | ((with_reducible refine gEql (t := 24) ?_); refine eqD goes_eg rfl rfl ?_; refine ⟨_, HQ.out, ?_⟩))
    go_ret
    exact ⟨rfl, hO.below⟩

set_option maxHeartbeats 2000000 in
set_option maxRecDepth 100000 in
theorem dmark_in (a1 : Option Addr) (n1 c1 : Nat) (word : List (BitVec 8)) (a2 : Option Addr) (n2 c2 : Nat) (salt : List (BitVec 8)) (r : Nat) (w : World) (hR1 : Rd w 1 a1 n1 c1 (u8s word)) (hR2 : Rd w 1 a2 n2 c2 (u8s salt)) (h1 : n1 ≤ 64) (h2 : n2 ≤ 64) (hr : r < 256) (hT : Turns w) :
    Calls Tryd.prog 7 #[.slice a1 n1 c1, .slice a2 n2 c2, .int .u8 (r : Int)] w fun e w' => e = .returned (.bool true) ∧ Below w.heap.size w w' := by
  have hO := Own.start w
  have a0 : (0 : Int) ≤ (r : Int) := by omega
  have aL : (r : Int) < 256 := by omega
  obtain ⟨x, hx⟩ : ∃ x, (St.startOf word salt).goN word (r % 40 + 1) = x := ⟨_, rfl⟩
  have g1 := fun a1 c1 a2 c2 w hR hR2 hT => key_ok a1 n1 c1 word a2 n2 c2 salt (r % 40 + 1) w hR hR2 h1 h2 (by omega) (by omega) hT
  rw [hx, show ((r % 40 + 1 : Nat) : Int) = (r : Int) % 40 + 1 by omega] at g1
  obtain ⟨m, hm⟩ : ∃ m, x.mark = m := ⟨_, rfl⟩
  have g2 := fun w hT => mark_calls x w hT
  rw [hm] at g2
  have G1 := Lib.hid g1
  have G2 := Lib.hid g2
  have HR1 := Lib.hid hR1
  have HR2 := Lib.hid hR2
  have HT := Lib.hid hT
  clear hR1 hR2 hT g1 g2 hx hm
  generalize hW : w = wn at hO HR1 HR2 HT ⊢
  clear hW w
  go_enter Tryd.func7, Tryd.ntmps7
  go_wp2_with (first
    | ((with_reducible refine gLoad ?_); first | refine ldX hO 0 rfl rfl (tA rfl) (tS rfl) ?_ | refine ldC hO 0 rfl rfl (tA rfl) rfl ?_ | refine ldX hO 1 rfl rfl (tA rfl) (tS rfl) ?_ | refine ldC hO 1 rfl rfl (tA rfl) rfl ?_ | refine ldX hO 2 rfl rfl (tA rfl) (tS rfl) ?_ | refine ldC hO 2 rfl rfl (tA rfl) rfl ?_ | refine ldX hO 3 rfl rfl (tA rfl) (tS rfl) ?_ | refine ldC hO 3 rfl rfl (tA rfl) rfl ?_)
    | ((with_reducible refine gStore ?_); first | (refine stX hO 0 rfl rfl rfl rfl rfl (tS rfl) ?_; clear hO; intro ww hO) | (refine stC hO 0 rfl rfl rfl (ltb rfl) rfl (tS rfl) ?_; clear hO; intro ww hO))
    | ((with_reducible refine gAlloc ?_); refine own_alloc hO _ _ iwz ?_; clear hO; intro bb ww hO)
    | (go_at_call 8; refine (dlive_calls _ (HT.out.own hO)).mono ?_; rintro e ww ⟨rfl, hb⟩; replace hO := hO.call hb; clear hb)
    | ((with_reducible refine gAppend ?_); first
        | (refine own_appendNil hO _ _ 25 eu8 rfl rfl (hO.rd HR1.out) (u8s_one _) (by simp [maxLen]; omega) (by omega) ?_; clear hO; intro a' c' ww hO)
        | (refine own_appendNil hO _ _ 25 eu8 rfl rfl (hO.rd HR2.out) (u8s_one _) (by simp [maxLen]; omega) (by omega) ?_; clear hO; intro a' c' ww hO))
    | (go_at_call 11; (with_reducible refine gCall #[.slice a1 n1 c1, _, _] ?_); refine (G1.out _ _ _ _ _ (hO.rd HR1.out) (hO.rd HR2.out) (HT.out.own hO)).mono ?_; rintro e ww ⟨rfl, hb⟩; replace hO := hO.call hb; clear hb)
    | (go_at_call 11; refine (G1.out _ _ _ _ _ (hO.rdAt 1 rfl) (hO.rdAt 0 rfl) (HT.out.own hO)).mono ?_; rintro e ww ⟨rfl, hb⟩; replace hO := hO.call hb; clear hb))
  replace hO : Own wn _ [.blk _ (.cells x.C 24 (0,0)), .sl _ 1 _ _ _, .sl _ 1 _ _ _, .blk _ (.cells x.C 24 (0,0))] := hO
  refine wp_region_textS (fun w' => Own wn w' [.blk _ (.cells x.C 24 (0,0)), .sl _ 1 _ _ _, .sl _ 1 _ _ _, .blk _ (.cells x.C 24 (0,0))]) (fun op => match op with | .load _ _ => true | .binOp _ 24 _ _ _ => true | _ => false) (by kernel_rfl) (by kernel_rfl) hO.drew ?_
  replace hO := hO.drew
  generalize World.drew _ = wd at hO ⊢
  go_wp2_with (first
    | (((with_reducible refine gIL ?_); first | refine wpI_ldS (fun w' hS => hS.blk 0 rfl) rfl rfl (tA rfl) (tS rfl) ?_ | refine wpI_ldS (fun w' hS => hS.blk 1 rfl) rfl rfl (tA rfl) (tS rfl) ?_ | refine wpI_ldS (fun w' hS => hS.blk 2 rfl) rfl rfl (tA rfl) (tS rfl) ?_ | refine wpI_ldS (fun w' hS => hS.blk 3 rfl) rfl rfl (tA rfl) (tS rfl) ?_); first | (refine wpI_act (by simp only [Act.put, List.setIfInBounds_toArray, List.set_cons_succ, List.set_cons_zero]; rfl) ?_) | skip)
    | ((with_reducible refine gIE (t := 24) ?_); refine wpI_eqD goes_eg dmark_flW rfl rfl rfl ?_; (with_reducible refine ⟨_, eqWT _, ?_⟩); first | (refine wpI_act (by simp only [Act.put, List.setIfInBounds_toArray, List.set_cons_succ, List.set_cons_zero]; rfl) ?_) | skip)
    | (go_at_call 15; refine (G2.out _ (HT.out.own hO)).mono ?_; rintro e ww ⟨rfl, hb⟩; replace hO := hO.call hb; clear hb)
    | ((with_reducible refine gI ?_); refine wpI_step rfl rfl (by kernel_rfl) ?_; intro K hK; have HK := Lib.hid hK; clear hK) | ((with_reducible refine gI ?_); first | refine wpI_skip rfl ?_ | refine wpI_want rfl ?_) | ((with_reducible refine gOnlyK HK.out ?_ ?_); exact hO; clear HK K; first | (refine wpI_act (by simp only [Act.put, List.setIfInBounds_toArray, List.set_cons_succ, List.set_cons_zero]; rfl) ?_) | skip) | (with_reducible refine wpI_nil ?_))
  go_ret
  exact ⟨rfl, hO.below⟩
end Go.Proofs.YtbgefpmnncaifaaDoor
