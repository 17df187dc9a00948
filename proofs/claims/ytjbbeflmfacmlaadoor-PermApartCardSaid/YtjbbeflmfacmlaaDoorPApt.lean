/- The walk of PermApart. -/
import Derived.Test.YtjbbeflmfacmlaaDoorPi
import Derived.Test.YtjbbeflmfacmlaaDoorPOctEq
import Derived.Test.YtjbbeflmfacmlaaDoorH
namespace Go.Proofs.YtjbbeflmfacmlaaDoor
open Go.RowKit Go.Own Go.Bv Go.Ord Go.Eq

theorem gIC {ops : Array Oper} {S : World → Prop} {st : Op → Bool} {Q : Exit → Act → World → Prop} {rest : List Oper} {a : Act} {w : World} {d : Option Tmp} {s t : TypeId} {x : Operand} {ty : TypeId} {pos : String} {aft : Array Edge}
    (h : wpI Tryd.prog ops S st Q ({ dst := d, op := .convert s t x, type := ty, pos := pos, after := aft, guard := none } :: rest) a w) : wpI Tryd.prog ops S st Q ({ dst := d, op := .convert s t x, type := ty, pos := pos, after := aft, guard := none } :: rest) a w := h
theorem apt_egW : Tryd.prog.eqGuardType Tryd.prog.depth 24 = false := by kernel_rfl
theorem apt_flW : flat Tryd.prog 24 = false := by kernel_rfl
theorem apt_fi : flatInt Tryd.prog 25 = false := by kernel_rfl

set_option maxHeartbeats 1500000 in
set_option maxRecDepth 100000 in
theorem apart_in (s t : St) (a2 : Option Addr) (n2 cap2 : Nat) (bs : List (BitVec 8)) (a3 : Option Addr) (n3 cap3 : Nat) (es : List (BitVec 8)) (a4 : Option Addr) (n4 cap4 : Nat) (cs : List (BitVec 8)) (w : World)
    (hR2 : Rd w 1 a2 n2 cap2 (u8s bs)) (hR3 : Rd w 1 a3 n3 cap3 (u8s es)) (hR4 : Rd w 1 a4 n4 cap4 (u8s cs)) (h2 : n2 ≤ 300) (h3 : n3 ≤ 7) (h4 : n4 ≤ 7) (hT : Turns w) :
    Calls Tryd.prog 6 #[.agg s.C, .agg t.C, .slice a2 n2 cap2, .slice a3 n3 cap3, .slice a4 n4 cap4] w fun e w' => e = .returned (.bool true) ∧ Below w.heap.size w w' := by
  have hO := Own.start w
  have d2 : decide ((300 : Int) < (n2 : Int)) = false := by simp; omega
  have d3 : decide ((7 : Int) < (n3 : Int)) = false := by simp; omega
  have d4 : decide ((7 : Int) < (n4 : Int)) = false := by simp; omega
  have l3 : es.length = n3 := by have := hR3.len; rw [u8s_length] at this; omega
  have l4 : cs.length = n4 := by have := hR4.len; rw [u8s_length] at this; omega
  obtain ⟨B, hB⟩ : ∃ B : Bool, decide (s = t) = B := ⟨_, rfl⟩
  obtain ⟨D, hD⟩ : ∃ D : Bool, decide (es = cs) = D := ⟨_, rfl⟩
  have HQ1 : Hid (∀ w, (binOp .eql 24 (.agg s.C) (.agg t.C)).run Tryd.prog w = .ok (.bool B) w) := fun w => by rw [eqW, hB]
  have HQ2 : Hid (∀ w, (binOp .eql 24 (.agg (s.absorb bs).C) (.agg (t.absorb bs).C)).run Tryd.prog w = .ok (.bool B) w) := fun w => by
    rw [eqW, ← hB, decide_eq_decide.2 ⟨fun h => St.absorb_inj h, fun h => by rw [h]⟩]
  have HQ3 : Hid (∀ w, (binOp .eql 24 (.agg (s.absorb es).C) (.agg (s.absorb cs).C)).run Tryd.prog w = .ok (.bool D) w) := fun w => by
    rw [eqW, ← hD, decide_eq_decide.2 ⟨fun h => St.absorb_short (by omega) (by omega) h, fun h => by rw [h]⟩]
  have HQ4 : Hid (((strB es).toList == (strB cs).toList) = D) := by show _ = _; rw [strB_beq, hD]
  obtain ⟨u1, hu1⟩ : ∃ u, s.absorb bs = u := ⟨_, rfl⟩
  obtain ⟨u2, hu2⟩ : ∃ u, t.absorb bs = u := ⟨_, rfl⟩
  obtain ⟨u3, hu3⟩ : ∃ u, s.absorb es = u := ⟨_, rfl⟩
  obtain ⟨u4, hu4⟩ : ∃ u, s.absorb cs = u := ⟨_, rfl⟩
  rw [hu1, hu2] at HQ2
  rw [hu3, hu4] at HQ3
  have H1 := Lib.hid hu1
  have H2 := Lib.hid hu2
  have H3 := Lib.hid hu3
  have H4 := Lib.hid hu4
  clear hu1 hu2 hu3 hu4
  have HR2 := Lib.hid hR2
  have HR3 := Lib.hid hR3
  have HR4 := Lib.hid hR4
  have HT := Lib.hid hT
  clear hR2 hR3 hR4 hT hB hD l3 l4
  generalize hW : w = wn at hO HR2 HR3 HR4 HT ⊢
  clear hW w
  go_enter Tryd.func6, Tryd.ntmps6
  go_wp2_with (first
    | ((with_reducible refine gBox ?_); first | (refine bxA hO rfl ?_; clear hO; intro bb ww hO) | (refine bx1 hO rfl rfl ?_; clear hO; intro bb ww hO))
    | (go_at_call 8; refine (live_calls _).mono ?_; rintro e ww ⟨rfl, hb⟩; replace hO := hO.call hb; clear hb)
    | ((with_reducible refine gLoad ?_); first | refine ldX hO 0 rfl rfl (tA rfl) (tS rfl) ?_ | refine ldC hO 0 rfl rfl (tA rfl) rfl ?_ | refine ldX hO 1 rfl rfl (tA rfl) (tS rfl) ?_ | refine ldC hO 1 rfl rfl (tA rfl) rfl ?_ | refine ldX hO 2 rfl rfl (tA rfl) (tS rfl) ?_ | refine ldC hO 2 rfl rfl (tA rfl) rfl ?_ | refine ldX hO 3 rfl rfl (tA rfl) (tS rfl) ?_ | refine ldC hO 3 rfl rfl (tA rfl) rfl ?_ | refine ldX hO 4 rfl rfl (tA rfl) (tS rfl) ?_ | refine ldC hO 4 rfl rfl (tA rfl) rfl ?_ | refine ldX hO 5 rfl rfl (tA rfl) (tS rfl) ?_ | refine ldC hO 5 rfl rfl (tA rfl) rfl ?_ | refine ldX hO 6 rfl rfl (tA rfl) (tS rfl) ?_ | refine ldC hO 6 rfl rfl (tA rfl) rfl ?_)
    | ((with_reducible refine gStore ?_); first | (refine stX hO 0 rfl rfl rfl rfl rfl (tS rfl) ?_; clear hO; intro ww hO) | (refine stC hO 0 rfl rfl rfl (ltb rfl) rfl (tS rfl) ?_; clear hO; intro ww hO))
    | ((with_reducible refine gAlloc ?_); refine own_alloc hO _ _ iwz ?_; clear hO; intro bb ww hO)
    | (go_at_call 18; (with_reducible refine gCall #[.agg s.C, .slice a2 n2 cap2] ?_); refine (absorb1_calls s _ _ _ bs _ (hO.rd HR2.out) (HT.out.own hO) (by omega)).mono ?_; rw [H1.out]; rintro e ww ⟨rfl, hb⟩; replace hO := hO.call hb; clear hb)
    | (go_at_call 18; (with_reducible refine gCall #[.agg t.C, .slice a2 n2 cap2] ?_); refine (absorb1_calls t _ _ _ bs _ (hO.rd HR2.out) (HT.out.own hO) (by omega)).mono ?_; rw [H2.out]; rintro e ww ⟨rfl, hb⟩; replace hO := hO.call hb; clear hb)
    | (go_at_call 18; (with_reducible refine gCall #[.agg s.C, .slice a3 n3 cap3] ?_); refine (absorb1_calls s _ _ _ es _ (hO.rd HR3.out) (HT.out.own hO) (by omega)).mono ?_; rw [H3.out]; rintro e ww ⟨rfl, hb⟩; replace hO := hO.call hb; clear hb)
    | (go_at_call 18; (with_reducible refine gCall #[.agg s.C, .slice a4 n4 cap4] ?_); refine (absorb1_calls s _ _ _ cs _ (hO.rd HR4.out) (HT.out.own hO) (by omega)).mono ?_; rw [H4.out]; rintro e ww ⟨rfl, hb⟩; replace hO := hO.call hb; clear hb))
  replace hO : Own wn _ [.blk _ (.cells u4.C 24 (0,0)), .blk _ (.cells u3.C 24 (0,0)), .blk _ (.cells u2.C 24 (0,0)), .blk _ (.cells u1.C 24 (0,0)), .blk _ (.cells t.C 24 (0,0)), .blk _ (.cells s.C 24 (0,0))] := hO
  refine wp_region_textS (fun w' => Own wn w' [.blk _ (.cells u4.C 24 (0,0)), .blk _ (.cells u3.C 24 (0,0)), .blk _ (.cells u2.C 24 (0,0)), .blk _ (.cells u1.C 24 (0,0)), .blk _ (.cells t.C 24 (0,0)), .blk _ (.cells s.C 24 (0,0))]) (fun op => match op with | .load _ _ => true | .binOp _ 24 _ _ _ => true | .convert _ _ _ => true | _ => false) (by kernel_rfl) (by kernel_rfl) hO.drew ?_
  replace hO := hO.drew
  generalize World.drew _ = wd at hO ⊢
  have hq4 := HQ4.out
  go_wp2_with (first
    | (((with_reducible refine gIL ?_); first | refine wpI_ldS (fun w' hS => hS.blk 0 rfl) rfl rfl (tA rfl) (tS rfl) ?_ | refine wpI_ldS (fun w' hS => hS.blk 1 rfl) rfl rfl (tA rfl) (tS rfl) ?_ | refine wpI_ldS (fun w' hS => hS.blk 2 rfl) rfl rfl (tA rfl) (tS rfl) ?_ | refine wpI_ldS (fun w' hS => hS.blk 3 rfl) rfl rfl (tA rfl) (tS rfl) ?_ | refine wpI_ldS (fun w' hS => hS.blk 4 rfl) rfl rfl (tA rfl) (tS rfl) ?_ | refine wpI_ldS (fun w' hS => hS.blk 5 rfl) rfl rfl (tA rfl) (tS rfl) ?_); first | (refine wpI_act (by simp only [Act.put, List.setIfInBounds_toArray, List.set_cons_succ, List.set_cons_zero]; rfl) ?_) | skip)
    | ((with_reducible refine gIE (t := 24) ?_); refine wpI_eqD apt_egW apt_flW rfl rfl rfl ?_; first | (with_reducible refine ⟨_, HQ1.out, ?_⟩) | (with_reducible refine ⟨_, HQ2.out, ?_⟩) | (with_reducible refine ⟨_, HQ3.out, ?_⟩); first | (refine wpI_act (by simp only [Act.put, List.setIfInBounds_toArray, List.set_cons_succ, List.set_cons_zero]; rfl) ?_) | skip)
    | ((with_reducible refine gIC ?_); first | refine wpI_steady (.string (strB es)) rfl rfl (ok_convS apt_fi) (fun w' hS => run_value rfl (run_bytes_string w' Tryd.underlying25 Tryd.underlying5 Tryd.underlying9 (hS.rd HR3.out))) ?_ | refine wpI_steady (.string (strB cs)) rfl rfl (ok_convS apt_fi) (fun w' hS => run_value rfl (run_bytes_string w' Tryd.underlying25 Tryd.underlying5 Tryd.underlying9 (hS.rd HR4.out))) ?_; first | (refine wpI_act (by simp only [Act.put, List.setIfInBounds_toArray, List.set_cons_succ, List.set_cons_zero]; rfl) ?_) | skip)
    | ((with_reducible refine gI ?_); refine wpI_step rfl rfl (by first | ((with_reducible refine okI ?_ ?_) <;> rfl) | ((with_reducible refine okIc ?_); rfl) | ((with_reducible refine okcI ?_); rfl) | ((with_reducible refine okBl ?_ ?_) <;> rfl) | ((with_reducible refine okSt ?_ ?_) <;> rfl) | ((with_reducible refine okCv ?_); rfl) | rfl) ?_; intro K hK; have HK := Lib.hid hK; clear hK) | ((with_reducible refine gI ?_); first | refine wpI_skip rfl ?_ | refine wpI_want rfl ?_) | ((with_reducible refine gOnlyK HK.out ?_ ?_); exact hO; clear HK K; first | (refine wpI_act (by simp only [Act.put, List.setIfInBounds_toArray, List.set_cons_succ, List.set_cons_zero]; rfl) ?_) | skip) | (with_reducible refine wpI_nil ?_))
  go_ret
  exact ⟨rfl, hO.below⟩

set_option maxHeartbeats 1000000 in
set_option maxRecDepth 100000 in
theorem apart_out (s t : St) (a2 : Option Addr) (n2 cap2 : Nat) (a3 : Option Addr) (n3 cap3 : Nat) (a4 : Option Addr) (n4 cap4 : Nat) (w : World) (h : 300 < n2 ∨ 7 < n3 ∨ 7 < n4) :
    Calls Tryd.prog 6 #[.agg s.C, .agg t.C, .slice a2 n2 cap2, .slice a3 n3 cap3, .slice a4 n4 cap4] w fun e w' => e = .returned (.bool true) ∧ Below w.heap.size w w' := by
  have hO := Own.start w
  generalize hW : w = wn at hO ⊢
  clear hW w
  by_cases h2 : 300 < n2
  · have d2 : decide ((300 : Int) < (n2 : Int)) = true := by simp; omega
    go_enter Tryd.func6, Tryd.ntmps6
    go_wp2_with (first
      | ((with_reducible refine gBox ?_); refine own_box hO 24 _ _ rfl ?_; clear hO; intro b w1 hO)
      | (go_at_call 8; refine (live_calls _).mono ?_; rintro e ww ⟨rfl, hb⟩; replace hO := hO.call hb; clear hb))
    go_ret
    exact ⟨rfl, hO.below⟩
  · have d2 : decide ((300 : Int) < (n2 : Int)) = false := by simp; omega
    by_cases h3 : 7 < n3
    · have d3 : decide ((7 : Int) < (n3 : Int)) = true := by simp; omega
      go_enter Tryd.func6, Tryd.ntmps6
      go_wp2_with (first
        | ((with_reducible refine gBox ?_); refine own_box hO 24 _ _ rfl ?_; clear hO; intro b w1 hO)
        | (go_at_call 8; refine (live_calls _).mono ?_; rintro e ww ⟨rfl, hb⟩; replace hO := hO.call hb; clear hb))
      go_ret
      exact ⟨rfl, hO.below⟩
    · have d3 : decide ((7 : Int) < (n3 : Int)) = false := by simp; omega
      have d4 : decide ((7 : Int) < (n4 : Int)) = true := by simp; omega
      go_enter Tryd.func6, Tryd.ntmps6
      go_wp2_with (first
        | ((with_reducible refine gBox ?_); refine own_box hO 24 _ _ rfl ?_; clear hO; intro b w1 hO)
        | (go_at_call 8; refine (live_calls _).mono ?_; rintro e ww ⟨rfl, hb⟩; replace hO := hO.call hb; clear hb))
      go_ret
      exact ⟨rfl, hO.below⟩

theorem apart_walk (s t : St) (a2 : Option Addr) (n2 cap2 : Nat) (bs : List (BitVec 8)) (a3 : Option Addr) (n3 cap3 : Nat) (es : List (BitVec 8)) (a4 : Option Addr) (n4 cap4 : Nat) (cs : List (BitVec 8)) (w : World)
    (hR2 : Rd w 1 a2 n2 cap2 (u8s bs)) (hR3 : Rd w 1 a3 n3 cap3 (u8s es)) (hR4 : Rd w 1 a4 n4 cap4 (u8s cs)) (hT : Turns w) :
    Calls Tryd.prog 6 #[.agg s.C, .agg t.C, .slice a2 n2 cap2, .slice a3 n3 cap3, .slice a4 n4 cap4] w fun e w' => e = .returned (.bool true) ∧ Below w.heap.size w w' := by
  by_cases h : 300 < n2 ∨ 7 < n3 ∨ 7 < n4
  · exact apart_out s t a2 n2 cap2 a3 n3 cap3 a4 n4 cap4 w h
  · exact apart_in s t a2 n2 cap2 bs a3 n3 cap3 es a4 n4 cap4 cs w hR2 hR3 hR4 (by omega) (by omega) (by omega) hT
end Go.Proofs.YtjbbeflmfacmlaaDoor
