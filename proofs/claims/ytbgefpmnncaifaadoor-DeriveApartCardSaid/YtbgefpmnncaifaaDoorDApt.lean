/- The walk of DeriveApart. -/
import Derived.Test.YtbgefpmnncaifaaDoorDGoes
namespace Go.Proofs.YtbgefpmnncaifaaDoor
open Go.RowKit Go.Own Go.Bv Go.Ord Go.Eq

theorem dapt_flW : flat Tryd.prog 24 = false := by kernel_rfl
theorem dapt_fi : flatInt Tryd.prog 25 = false := by kernel_rfl
theorem gIC {ops : Array Oper} {S : World → Prop} {st : Op → Bool} {Q : Exit → Act → World → Prop} {rest : List Oper} {a : Act} {w : World} {d : Option Tmp} {s t : TypeId} {x : Operand} {ty : TypeId} {pos : String} {aft : Array Edge}
    (h : wpI Tryd.prog ops S st Q ({ dst := d, op := .convert s t x, type := ty, pos := pos, after := aft, guard := none } :: rest) a w) : wpI Tryd.prog ops S st Q ({ dst := d, op := .convert s t x, type := ty, pos := pos, after := aft, guard := none } :: rest) a w := h

set_option maxHeartbeats 1000000 in
set_option maxRecDepth 100000 in
theorem dapt_long (s t : St) (a1 : Option Addr) (n1 c1 : Nat) (a2 : Option Addr) (n2 c2 : Nat) (r : Nat) (w : World) (hm1 : n1 ≤ maxLen) (h1 : 64 < n1) (hr : r < 256) (hT : Turns w) :
    Calls Tryd.prog 3 #[.agg s.C, .agg t.C, .slice a1 n1 c1, .slice a2 n2 c2, .int .u8 (r : Int)] w fun e w' => e = .returned (.bool true) ∧ Below w.heap.size w w' := by
  have hO := Own.start w
  have HT := Lib.hid hT
  have HG := Lib.hid (fun w s r => go_long s a1 n1 c1 r w hm1 h1)
  have a0 : (0 : Int) ≤ (r : Int) := by omega
  have aL : (r : Int) < 256 := by omega
  have d1 : decide ((64 : Int) < (n1 : Int)) = true := by simp; omega
  unfold maxLen at hm1
  clear hT
  generalize hW : w = wn at hO HT ⊢
  clear hW w
  go_enter Tryd.func3, Tryd.ntmps3
  go_wp2_with (first
    | ((with_reducible refine gBox ?_); first | (refine bxA hO rfl ?_; clear hO; intro bb ww hO) | (refine bx1 hO rfl rfl ?_; clear hO; intro bb ww hO))
    | ((with_reducible refine gLoad ?_); first | refine ldX hO 0 rfl rfl (tA rfl) (tS rfl) ?_ | refine ldC hO 0 rfl rfl (tA rfl) rfl ?_ | refine ldX hO 1 rfl rfl (tA rfl) (tS rfl) ?_ | refine ldC hO 1 rfl rfl (tA rfl) rfl ?_ | refine ldX hO 2 rfl rfl (tA rfl) (tS rfl) ?_ | refine ldC hO 2 rfl rfl (tA rfl) rfl ?_ | refine ldX hO 3 rfl rfl (tA rfl) (tS rfl) ?_ | refine ldC hO 3 rfl rfl (tA rfl) rfl ?_)
    | ((with_reducible refine gStore ?_); first | (refine stX hO 0 rfl rfl rfl rfl rfl (tS rfl) ?_; clear hO; intro ww hO) | (refine stC hO 0 rfl rfl rfl (ltb rfl) rfl (tS rfl) ?_; clear hO; intro ww hO))
    | ((with_reducible refine gAlloc ?_); refine own_alloc hO _ _ iwz ?_; clear hO; intro bb ww hO)
    | (go_at_call 8; refine (dlive_calls _ (HT.out.own hO)).mono ?_; rintro e ww ⟨rfl, hb⟩; replace hO := hO.call hb; clear hb)
    | (go_at_call 9; refine (HG.out _ _ _).mono ?_; rintro e ww ⟨rfl, hb⟩; replace hO := hO.call hb; clear hb))
  go_ret
  exact ⟨rfl, hO.below⟩

set_option maxHeartbeats 2000000 in
set_option maxRecDepth 100000 in
theorem dapt_in (s t : St) (a1 : Option Addr) (n1 c1 : Nat) (word : List (BitVec 8)) (a2 : Option Addr) (n2 c2 : Nat) (other : List (BitVec 8)) (r : Nat) (w : World) (hR1 : Rd w 1 a1 n1 c1 (u8s word)) (hR2 : Rd w 1 a2 n2 c2 (u8s other)) (h1 : n1 ≤ 64) (hr : r < 256) (hT : Turns w) :
    Calls Tryd.prog 3 #[.agg s.C, .agg t.C, .slice a1 n1 c1, .slice a2 n2 c2, .int .u8 (r : Int)] w fun e w' => e = .returned (.bool true) ∧ Below w.heap.size w w' := by
  have hO := Own.start w
  have a0 : (0 : Int) ≤ (r : Int) := by omega
  have aL : (r : Int) < 256 := by omega
  obtain ⟨x, hx⟩ : ∃ x, s.goN word (r % 40) = x := ⟨_, rfl⟩
  obtain ⟨y, hy⟩ : ∃ y, t.goN word (r % 40) = y := ⟨_, rfl⟩
  obtain ⟨p, hp⟩ : ∃ p, s.goN word 1 = p := ⟨_, rfl⟩
  obtain ⟨q, hq⟩ : ∃ q, s.goN other 1 = q := ⟨_, rfl⟩
  obtain ⟨B, hB⟩ : ∃ B : Bool, decide (s = t) = B := ⟨_, rfl⟩
  obtain ⟨D, hD⟩ : ∃ D : Bool, decide (word = other) = D := ⟨_, rfl⟩
  have l1 : word.length = n1 := by have := hR1.len; rw [u8s_length] at this; omega
  have l2 : other.length = n2 := by have := hR2.len; rw [u8s_length] at this; omega
  have HQ1 : Hid (∀ w, (binOp .eql 24 (.agg s.C) (.agg t.C)).run Tryd.prog w = .ok (.bool B) w) := fun w => by rw [eqW, hB]
  have HQ2 : Hid (∀ w, (binOp .eql 24 (.agg x.C) (.agg y.C)).run Tryd.prog w = .ok (.bool B) w) := fun w => by
    rw [eqW, ← hB, ← hx, ← hy, decide_eq_decide.2 ⟨fun h => St.goN_inj h, fun h => by rw [h]⟩]
  have HQ3 : Hid (n1 < 8 → n2 < 8 → ∀ w, (binOp .eql 24 (.agg p.C) (.agg q.C)).run Tryd.prog w = .ok (.bool D) w) := fun h1 h2 w => by
    rw [eqW, ← hD, ← hp, ← hq]
    have e : decide (s.goN word 1 = s.goN other 1) = decide (word = other) := decide_eq_decide.2 ⟨fun h => St.absorb_short (s := s) (by omega) (by omega) h, fun h => by rw [h]⟩
    rw [e]
  have HQ4 : Hid (((strB word).toList == (strB other).toList) = D) := by show _ = _; rw [strB_beq, hD]
  have g1 := fun w hR hT => go_ok s a1 n1 c1 word (r % 40) w hR h1 (by omega) hT
  have g2 := fun w hR hT => go_ok t a1 n1 c1 word (r % 40) w hR h1 (by omega) hT
  have g3 := fun w hR hT => go_ok s a1 n1 c1 word 1 w hR h1 (by omega) hT
  have g4 := fun w hR h hT => go_ok s a2 n2 c2 other 1 w hR h (by omega) hT
  rw [hx, show ((r % 40 : Nat) : Int) = (r : Int) % 40 by omega] at g1
  rw [hy, show ((r % 40 : Nat) : Int) = (r : Int) % 40 by omega] at g2
  rw [hp, show ((1 : Nat) : Int) = 1 by omega] at g3
  rw [hq, show ((1 : Nat) : Int) = 1 by omega] at g4
  have G1 := Lib.hid g1
  have G2 := Lib.hid g2
  have G3 := Lib.hid g3
  have G4 := Lib.hid g4
  have HR1 := Lib.hid hR1
  have HR2 := Lib.hid hR2
  have HT := Lib.hid hT
  have hm2 := rd_le hR2
  unfold maxLen at hm2
  clear hR1 hR2 hT g1 g2 g3 g4 hx hy hp hq hB hD l1 l2
  generalize hW : w = wn at hO HR1 HR2 HT ⊢
  clear hW w
  by_cases h7 : n1 < 8 ∧ n2 < 8
  · have d1 : decide ((7 : Int) < (n1 : Int)) = false := by simp; omega
    have d2 : decide ((7 : Int) < (n2 : Int)) = false := by simp; omega
    have HQ3' := Lib.hid (HQ3.out h7.1 h7.2)
    have h64 : n2 ≤ 64 := by omega
    clear HQ3 h7
    go_enter Tryd.func3, Tryd.ntmps3
    go_wp2_with (first
      | ((with_reducible refine gBox ?_); first | (refine bxA hO rfl ?_; clear hO; intro bb ww hO) | (refine bx1 hO rfl rfl ?_; clear hO; intro bb ww hO))
      | ((with_reducible refine gLoad ?_); first | refine ldX hO 0 rfl rfl (tA rfl) (tS rfl) ?_ | refine ldC hO 0 rfl rfl (tA rfl) rfl ?_ | refine ldX hO 1 rfl rfl (tA rfl) (tS rfl) ?_ | refine ldC hO 1 rfl rfl (tA rfl) rfl ?_ | refine ldX hO 2 rfl rfl (tA rfl) (tS rfl) ?_ | refine ldC hO 2 rfl rfl (tA rfl) rfl ?_ | refine ldX hO 3 rfl rfl (tA rfl) (tS rfl) ?_ | refine ldC hO 3 rfl rfl (tA rfl) rfl ?_)
      | ((with_reducible refine gStore ?_); first | (refine stX hO 0 rfl rfl rfl rfl rfl (tS rfl) ?_; clear hO; intro ww hO) | (refine stC hO 0 rfl rfl rfl (ltb rfl) rfl (tS rfl) ?_; clear hO; intro ww hO))
      | ((with_reducible refine gAlloc ?_); refine own_alloc hO _ _ iwz ?_; clear hO; intro bb ww hO)
      | (go_at_call 8; refine (dlive_calls _ (HT.out.own hO)).mono ?_; rintro e ww ⟨rfl, hb⟩; replace hO := hO.call hb; clear hb)
      | (go_at_call 9; (with_reducible refine gCall #[.agg s.C, _, .int .i64 ((r : Int) % 40)] ?_); refine (G1.out _ (hO.rd HR1.out) (HT.out.own hO)).mono ?_; rintro e ww ⟨rfl, hb⟩; replace hO := hO.call hb; clear hb)
      | (go_at_call 9; (with_reducible refine gCall #[.agg t.C, _, _] ?_); refine (G2.out _ (hO.rd HR1.out) (HT.out.own hO)).mono ?_; rintro e ww ⟨rfl, hb⟩; replace hO := hO.call hb; clear hb))
    replace hO : Own wn _ [.blk _ (.cells y.C 24 (0,0)), .blk _ (.cells x.C 24 (0,0)), .blk _ (.cells t.C 24 (0,0)), .blk _ (.cells s.C 24 (0,0))] := hO
    refine wp_region_textS (fun w' => Own wn w' [.blk _ (.cells y.C 24 (0,0)), .blk _ (.cells x.C 24 (0,0)), .blk _ (.cells t.C 24 (0,0)), .blk _ (.cells s.C 24 (0,0))]) (fun op => match op with | .load _ _ => true | .binOp _ 24 _ _ _ => true | _ => false) (by kernel_rfl) (by kernel_rfl) hO.drew ?_
    replace hO := hO.drew
    generalize World.drew _ = wd at hO ⊢
    go_wp2_with (first
      | (((with_reducible refine gIL ?_); first | refine wpI_ldS (fun w' hS => hS.blk 0 rfl) rfl rfl (tA rfl) (tS rfl) ?_ | refine wpI_ldS (fun w' hS => hS.blk 1 rfl) rfl rfl (tA rfl) (tS rfl) ?_ | refine wpI_ldS (fun w' hS => hS.blk 2 rfl) rfl rfl (tA rfl) (tS rfl) ?_ | refine wpI_ldS (fun w' hS => hS.blk 3 rfl) rfl rfl (tA rfl) (tS rfl) ?_); first | (refine wpI_act (by simp only [Act.put, List.setIfInBounds_toArray, List.set_cons_succ, List.set_cons_zero]; rfl) ?_) | skip)
      | ((with_reducible refine gIE (t := 24) ?_); refine wpI_eqD goes_eg dapt_flW rfl rfl rfl ?_; first | (with_reducible refine ⟨_, HQ1.out, ?_⟩) | (with_reducible refine ⟨_, HQ2.out, ?_⟩); first | (refine wpI_act (by simp only [Act.put, List.setIfInBounds_toArray, List.set_cons_succ, List.set_cons_zero]; rfl) ?_) | skip)
      | ((with_reducible refine gLoad ?_); first | refine ldX hO 0 rfl rfl (tA rfl) (tS rfl) ?_ | refine ldC hO 0 rfl rfl (tA rfl) rfl ?_ | refine ldX hO 1 rfl rfl (tA rfl) (tS rfl) ?_ | refine ldC hO 1 rfl rfl (tA rfl) rfl ?_ | refine ldX hO 2 rfl rfl (tA rfl) (tS rfl) ?_ | refine ldC hO 2 rfl rfl (tA rfl) rfl ?_ | refine ldX hO 3 rfl rfl (tA rfl) (tS rfl) ?_ | refine ldC hO 3 rfl rfl (tA rfl) rfl ?_ | refine ldX hO 4 rfl rfl (tA rfl) (tS rfl) ?_ | refine ldC hO 4 rfl rfl (tA rfl) rfl ?_ | refine ldX hO 5 rfl rfl (tA rfl) (tS rfl) ?_ | refine ldC hO 5 rfl rfl (tA rfl) rfl ?_)
      | ((with_reducible refine gStore ?_); first | (refine stX hO 0 rfl rfl rfl rfl rfl (tS rfl) ?_; clear hO; intro ww hO) | (refine stC hO 0 rfl rfl rfl (ltb rfl) rfl (tS rfl) ?_; clear hO; intro ww hO))
      | ((with_reducible refine gAlloc ?_); refine own_alloc hO _ _ iwz ?_; clear hO; intro bb ww hO)
      | (go_at_call 9; (with_reducible refine gCall #[.agg s.C, .slice a1 n1 c1, .int .i64 1] ?_); refine (G3.out _ (hO.rd HR1.out) (HT.out.own hO)).mono ?_; rintro e ww ⟨rfl, hb⟩; replace hO := hO.call hb; clear hb)
      | (go_at_call 9; (with_reducible refine gCall #[.agg s.C, .slice a2 n2 c2, .int .i64 1] ?_); refine (G4.out _ (hO.rd HR2.out) h64 (HT.out.own hO)).mono ?_; rintro e ww ⟨rfl, hb⟩; replace hO := hO.call hb; clear hb)
      | ((with_reducible refine gI ?_); refine wpI_step rfl rfl (by first | ((with_reducible refine okI ?_ ?_) <;> rfl) | ((with_reducible refine okIc ?_); rfl) | ((with_reducible refine okcI ?_); rfl) | ((with_reducible refine okBl ?_ ?_) <;> rfl) | ((with_reducible refine okSt ?_ ?_) <;> rfl) | ((with_reducible refine okCv ?_); rfl) | rfl) ?_; intro K hK; have HK := Lib.hid hK; clear hK) | ((with_reducible refine gI ?_); first | refine wpI_skip rfl ?_ | refine wpI_want rfl ?_) | ((with_reducible refine gOnlyK HK.out ?_ ?_); exact hO; clear HK K; first | (refine wpI_act (by simp only [Act.put, List.setIfInBounds_toArray, List.set_cons_succ, List.set_cons_zero]; rfl) ?_) | skip) | (with_reducible refine wpI_nil ?_))
    replace hO : Own wn _ [.blk _ (.cells q.C 24 (0,0)), .blk _ (.cells p.C 24 (0,0)), .blk _ (.cells y.C 24 (0,0)), .blk _ (.cells x.C 24 (0,0)), .blk _ (.cells t.C 24 (0,0)), .blk _ (.cells s.C 24 (0,0))] := hO
    refine wp_region_textS (fun w' => Own wn w' [.blk _ (.cells q.C 24 (0,0)), .blk _ (.cells p.C 24 (0,0)), .blk _ (.cells y.C 24 (0,0)), .blk _ (.cells x.C 24 (0,0)), .blk _ (.cells t.C 24 (0,0)), .blk _ (.cells s.C 24 (0,0))]) (fun op => match op with | .load _ _ => true | .binOp _ 24 _ _ _ => true | .convert _ _ _ => true | _ => false) (by kernel_rfl) (by kernel_rfl) hO.drew ?_
    replace hO := hO.drew
    generalize World.drew _ = wd at hO ⊢
    have hq4 := HQ4.out
    go_wp2_with (first
      | (((with_reducible refine gIL ?_); first | refine wpI_ldS (fun w' hS => hS.blk 0 rfl) rfl rfl (tA rfl) (tS rfl) ?_ | refine wpI_ldS (fun w' hS => hS.blk 1 rfl) rfl rfl (tA rfl) (tS rfl) ?_ | refine wpI_ldS (fun w' hS => hS.blk 2 rfl) rfl rfl (tA rfl) (tS rfl) ?_ | refine wpI_ldS (fun w' hS => hS.blk 3 rfl) rfl rfl (tA rfl) (tS rfl) ?_ | refine wpI_ldS (fun w' hS => hS.blk 4 rfl) rfl rfl (tA rfl) (tS rfl) ?_ | refine wpI_ldS (fun w' hS => hS.blk 5 rfl) rfl rfl (tA rfl) (tS rfl) ?_); first | (refine wpI_act (by simp only [Act.put, List.setIfInBounds_toArray, List.set_cons_succ, List.set_cons_zero]; rfl) ?_) | skip)
      | ((with_reducible refine gIE (t := 24) ?_); refine wpI_eqD goes_eg dapt_flW rfl rfl rfl ?_; (with_reducible refine ⟨_, HQ3'.out, ?_⟩); first | (refine wpI_act (by simp only [Act.put, List.setIfInBounds_toArray, List.set_cons_succ, List.set_cons_zero]; rfl) ?_) | skip)
      | ((with_reducible refine gIC ?_); first | refine wpI_steady (.string (strB word)) rfl rfl (ok_convS dapt_fi) (fun w' hS => run_value rfl (run_bytes_string w' Tryd.underlying25 Tryd.underlying5 Tryd.underlying9 (hS.rd HR1.out))) ?_ | refine wpI_steady (.string (strB other)) rfl rfl (ok_convS dapt_fi) (fun w' hS => run_value rfl (run_bytes_string w' Tryd.underlying25 Tryd.underlying5 Tryd.underlying9 (hS.rd HR2.out))) ?_; first | (refine wpI_act (by simp only [Act.put, List.setIfInBounds_toArray, List.set_cons_succ, List.set_cons_zero]; rfl) ?_) | skip)
      | ((with_reducible refine gI ?_); refine wpI_step rfl rfl (by first | ((with_reducible refine okI ?_ ?_) <;> rfl) | ((with_reducible refine okIc ?_); rfl) | ((with_reducible refine okcI ?_); rfl) | ((with_reducible refine okBl ?_ ?_) <;> rfl) | ((with_reducible refine okSt ?_ ?_) <;> rfl) | ((with_reducible refine okCv ?_); rfl) | rfl) ?_; intro K hK; have HK := Lib.hid hK; clear hK) | ((with_reducible refine gI ?_); first | refine wpI_skip rfl ?_ | refine wpI_want rfl ?_) | ((with_reducible refine gOnlyK HK.out ?_ ?_); exact hO; clear HK K; first | (refine wpI_act (by simp only [Act.put, List.setIfInBounds_toArray, List.set_cons_succ, List.set_cons_zero]; rfl) ?_) | skip) | (with_reducible refine wpI_nil ?_))
    go_ret
    exact ⟨rfl, hO.below⟩
  · clear HQ3 HQ4
    have h64 : n2 ≤ 64 ∨ True := .inr trivial
    by_cases h8 : n1 < 8
    · have d1 : decide ((7 : Int) < (n1 : Int)) = false := by simp; omega
      have d2 : decide ((7 : Int) < (n2 : Int)) = true := by simp; omega
      clear h7 h8 h64
      go_enter Tryd.func3, Tryd.ntmps3
      go_wp2_with (first
        | ((with_reducible refine gBox ?_); first | (refine bxA hO rfl ?_; clear hO; intro bb ww hO) | (refine bx1 hO rfl rfl ?_; clear hO; intro bb ww hO))
        | ((with_reducible refine gLoad ?_); first | refine ldX hO 0 rfl rfl (tA rfl) (tS rfl) ?_ | refine ldC hO 0 rfl rfl (tA rfl) rfl ?_ | refine ldX hO 1 rfl rfl (tA rfl) (tS rfl) ?_ | refine ldC hO 1 rfl rfl (tA rfl) rfl ?_ | refine ldX hO 2 rfl rfl (tA rfl) (tS rfl) ?_ | refine ldC hO 2 rfl rfl (tA rfl) rfl ?_ | refine ldX hO 3 rfl rfl (tA rfl) (tS rfl) ?_ | refine ldC hO 3 rfl rfl (tA rfl) rfl ?_)
        | ((with_reducible refine gStore ?_); first | (refine stX hO 0 rfl rfl rfl rfl rfl (tS rfl) ?_; clear hO; intro ww hO) | (refine stC hO 0 rfl rfl rfl (ltb rfl) rfl (tS rfl) ?_; clear hO; intro ww hO))
        | ((with_reducible refine gAlloc ?_); refine own_alloc hO _ _ iwz ?_; clear hO; intro bb ww hO)
        | (go_at_call 8; refine (dlive_calls _ (HT.out.own hO)).mono ?_; rintro e ww ⟨rfl, hb⟩; replace hO := hO.call hb; clear hb)
        | (go_at_call 9; (with_reducible refine gCall #[.agg s.C, _, .int .i64 ((r : Int) % 40)] ?_); refine (G1.out _ (hO.rd HR1.out) (HT.out.own hO)).mono ?_; rintro e ww ⟨rfl, hb⟩; replace hO := hO.call hb; clear hb)
        | (go_at_call 9; (with_reducible refine gCall #[.agg t.C, _, _] ?_); refine (G2.out _ (hO.rd HR1.out) (HT.out.own hO)).mono ?_; rintro e ww ⟨rfl, hb⟩; replace hO := hO.call hb; clear hb))
      replace hO : Own wn _ [.blk _ (.cells y.C 24 (0,0)), .blk _ (.cells x.C 24 (0,0)), .blk _ (.cells t.C 24 (0,0)), .blk _ (.cells s.C 24 (0,0))] := hO
      refine wp_region_textS (fun w' => Own wn w' [.blk _ (.cells y.C 24 (0,0)), .blk _ (.cells x.C 24 (0,0)), .blk _ (.cells t.C 24 (0,0)), .blk _ (.cells s.C 24 (0,0))]) (fun op => match op with | .load _ _ => true | .binOp _ 24 _ _ _ => true | _ => false) (by kernel_rfl) (by kernel_rfl) hO.drew ?_
      replace hO := hO.drew
      generalize World.drew _ = wd at hO ⊢
      go_wp2_with (first
        | (((with_reducible refine gIL ?_); first | refine wpI_ldS (fun w' hS => hS.blk 0 rfl) rfl rfl (tA rfl) (tS rfl) ?_ | refine wpI_ldS (fun w' hS => hS.blk 1 rfl) rfl rfl (tA rfl) (tS rfl) ?_ | refine wpI_ldS (fun w' hS => hS.blk 2 rfl) rfl rfl (tA rfl) (tS rfl) ?_ | refine wpI_ldS (fun w' hS => hS.blk 3 rfl) rfl rfl (tA rfl) (tS rfl) ?_); first | (refine wpI_act (by simp only [Act.put, List.setIfInBounds_toArray, List.set_cons_succ, List.set_cons_zero]; rfl) ?_) | skip)
        | ((with_reducible refine gIE (t := 24) ?_); refine wpI_eqD goes_eg dapt_flW rfl rfl rfl ?_; first | (with_reducible refine ⟨_, HQ1.out, ?_⟩) | (with_reducible refine ⟨_, HQ2.out, ?_⟩); first | (refine wpI_act (by simp only [Act.put, List.setIfInBounds_toArray, List.set_cons_succ, List.set_cons_zero]; rfl) ?_) | skip)
        | ((with_reducible refine gLoad ?_); first | refine ldX hO 0 rfl rfl (tA rfl) (tS rfl) ?_ | refine ldC hO 0 rfl rfl (tA rfl) rfl ?_ | refine ldX hO 1 rfl rfl (tA rfl) (tS rfl) ?_ | refine ldC hO 1 rfl rfl (tA rfl) rfl ?_ | refine ldX hO 2 rfl rfl (tA rfl) (tS rfl) ?_ | refine ldC hO 2 rfl rfl (tA rfl) rfl ?_ | refine ldX hO 3 rfl rfl (tA rfl) (tS rfl) ?_ | refine ldC hO 3 rfl rfl (tA rfl) rfl ?_ | refine ldX hO 4 rfl rfl (tA rfl) (tS rfl) ?_ | refine ldC hO 4 rfl rfl (tA rfl) rfl ?_ | refine ldX hO 5 rfl rfl (tA rfl) (tS rfl) ?_ | refine ldC hO 5 rfl rfl (tA rfl) rfl ?_)
        | ((with_reducible refine gStore ?_); first | (refine stX hO 0 rfl rfl rfl rfl rfl (tS rfl) ?_; clear hO; intro ww hO) | (refine stC hO 0 rfl rfl rfl (ltb rfl) rfl (tS rfl) ?_; clear hO; intro ww hO))
        | ((with_reducible refine gAlloc ?_); refine own_alloc hO _ _ iwz ?_; clear hO; intro bb ww hO)
        | ((with_reducible refine gI ?_); refine wpI_step rfl rfl (by first | ((with_reducible refine okI ?_ ?_) <;> rfl) | ((with_reducible refine okIc ?_); rfl) | ((with_reducible refine okcI ?_); rfl) | ((with_reducible refine okBl ?_ ?_) <;> rfl) | ((with_reducible refine okSt ?_ ?_) <;> rfl) | ((with_reducible refine okCv ?_); rfl) | rfl) ?_; intro K hK; have HK := Lib.hid hK; clear hK) | ((with_reducible refine gI ?_); first | refine wpI_skip rfl ?_ | refine wpI_want rfl ?_) | ((with_reducible refine gOnlyK HK.out ?_ ?_); exact hO; clear HK K; first | (refine wpI_act (by simp only [Act.put, List.setIfInBounds_toArray, List.set_cons_succ, List.set_cons_zero]; rfl) ?_) | skip) | (with_reducible refine wpI_nil ?_))
      go_ret
      exact ⟨rfl, hO.below⟩
    · have d1 : decide ((7 : Int) < (n1 : Int)) = true := by simp; omega
      clear h7 h8 h64
      go_enter Tryd.func3, Tryd.ntmps3
      go_wp2_with (first
        | ((with_reducible refine gBox ?_); first | (refine bxA hO rfl ?_; clear hO; intro bb ww hO) | (refine bx1 hO rfl rfl ?_; clear hO; intro bb ww hO))
        | ((with_reducible refine gLoad ?_); first | refine ldX hO 0 rfl rfl (tA rfl) (tS rfl) ?_ | refine ldC hO 0 rfl rfl (tA rfl) rfl ?_ | refine ldX hO 1 rfl rfl (tA rfl) (tS rfl) ?_ | refine ldC hO 1 rfl rfl (tA rfl) rfl ?_ | refine ldX hO 2 rfl rfl (tA rfl) (tS rfl) ?_ | refine ldC hO 2 rfl rfl (tA rfl) rfl ?_ | refine ldX hO 3 rfl rfl (tA rfl) (tS rfl) ?_ | refine ldC hO 3 rfl rfl (tA rfl) rfl ?_)
        | ((with_reducible refine gStore ?_); first | (refine stX hO 0 rfl rfl rfl rfl rfl (tS rfl) ?_; clear hO; intro ww hO) | (refine stC hO 0 rfl rfl rfl (ltb rfl) rfl (tS rfl) ?_; clear hO; intro ww hO))
        | ((with_reducible refine gAlloc ?_); refine own_alloc hO _ _ iwz ?_; clear hO; intro bb ww hO)
        | (go_at_call 8; refine (dlive_calls _ (HT.out.own hO)).mono ?_; rintro e ww ⟨rfl, hb⟩; replace hO := hO.call hb; clear hb)
        | (go_at_call 9; (with_reducible refine gCall #[.agg s.C, _, .int .i64 ((r : Int) % 40)] ?_); refine (G1.out _ (hO.rd HR1.out) (HT.out.own hO)).mono ?_; rintro e ww ⟨rfl, hb⟩; replace hO := hO.call hb; clear hb)
        | (go_at_call 9; (with_reducible refine gCall #[.agg t.C, _, _] ?_); refine (G2.out _ (hO.rd HR1.out) (HT.out.own hO)).mono ?_; rintro e ww ⟨rfl, hb⟩; replace hO := hO.call hb; clear hb))
      replace hO : Own wn _ [.blk _ (.cells y.C 24 (0,0)), .blk _ (.cells x.C 24 (0,0)), .blk _ (.cells t.C 24 (0,0)), .blk _ (.cells s.C 24 (0,0))] := hO
      refine wp_region_textS (fun w' => Own wn w' [.blk _ (.cells y.C 24 (0,0)), .blk _ (.cells x.C 24 (0,0)), .blk _ (.cells t.C 24 (0,0)), .blk _ (.cells s.C 24 (0,0))]) (fun op => match op with | .load _ _ => true | .binOp _ 24 _ _ _ => true | _ => false) (by kernel_rfl) (by kernel_rfl) hO.drew ?_
      replace hO := hO.drew
      generalize World.drew _ = wd at hO ⊢
      go_wp2_with (first
        | (((with_reducible refine gIL ?_); first | refine wpI_ldS (fun w' hS => hS.blk 0 rfl) rfl rfl (tA rfl) (tS rfl) ?_ | refine wpI_ldS (fun w' hS => hS.blk 1 rfl) rfl rfl (tA rfl) (tS rfl) ?_ | refine wpI_ldS (fun w' hS => hS.blk 2 rfl) rfl rfl (tA rfl) (tS rfl) ?_ | refine wpI_ldS (fun w' hS => hS.blk 3 rfl) rfl rfl (tA rfl) (tS rfl) ?_); first | (refine wpI_act (by simp only [Act.put, List.setIfInBounds_toArray, List.set_cons_succ, List.set_cons_zero]; rfl) ?_) | skip)
        | ((with_reducible refine gIE (t := 24) ?_); refine wpI_eqD goes_eg dapt_flW rfl rfl rfl ?_; first | (with_reducible refine ⟨_, HQ1.out, ?_⟩) | (with_reducible refine ⟨_, HQ2.out, ?_⟩); first | (refine wpI_act (by simp only [Act.put, List.setIfInBounds_toArray, List.set_cons_succ, List.set_cons_zero]; rfl) ?_) | skip)
        | ((with_reducible refine gLoad ?_); first | refine ldX hO 0 rfl rfl (tA rfl) (tS rfl) ?_ | refine ldC hO 0 rfl rfl (tA rfl) rfl ?_ | refine ldX hO 1 rfl rfl (tA rfl) (tS rfl) ?_ | refine ldC hO 1 rfl rfl (tA rfl) rfl ?_ | refine ldX hO 2 rfl rfl (tA rfl) (tS rfl) ?_ | refine ldC hO 2 rfl rfl (tA rfl) rfl ?_ | refine ldX hO 3 rfl rfl (tA rfl) (tS rfl) ?_ | refine ldC hO 3 rfl rfl (tA rfl) rfl ?_ | refine ldX hO 4 rfl rfl (tA rfl) (tS rfl) ?_ | refine ldC hO 4 rfl rfl (tA rfl) rfl ?_ | refine ldX hO 5 rfl rfl (tA rfl) (tS rfl) ?_ | refine ldC hO 5 rfl rfl (tA rfl) rfl ?_)
        | ((with_reducible refine gStore ?_); first | (refine stX hO 0 rfl rfl rfl rfl rfl (tS rfl) ?_; clear hO; intro ww hO) | (refine stC hO 0 rfl rfl rfl (ltb rfl) rfl (tS rfl) ?_; clear hO; intro ww hO))
        | ((with_reducible refine gAlloc ?_); refine own_alloc hO _ _ iwz ?_; clear hO; intro bb ww hO)
        | ((with_reducible refine gI ?_); refine wpI_step rfl rfl (by first | ((with_reducible refine okI ?_ ?_) <;> rfl) | ((with_reducible refine okIc ?_); rfl) | ((with_reducible refine okcI ?_); rfl) | ((with_reducible refine okBl ?_ ?_) <;> rfl) | ((with_reducible refine okSt ?_ ?_) <;> rfl) | ((with_reducible refine okCv ?_); rfl) | rfl) ?_; intro K hK; have HK := Lib.hid hK; clear hK) | ((with_reducible refine gI ?_); first | refine wpI_skip rfl ?_ | refine wpI_want rfl ?_) | ((with_reducible refine gOnlyK HK.out ?_ ?_); exact hO; clear HK K; first | (refine wpI_act (by simp only [Act.put, List.setIfInBounds_toArray, List.set_cons_succ, List.set_cons_zero]; rfl) ?_) | skip) | (with_reducible refine wpI_nil ?_))
      go_ret
      exact ⟨rfl, hO.below⟩

theorem dapt_walk (s t : St) (a1 : Option Addr) (n1 c1 : Nat) (word : List (BitVec 8)) (a2 : Option Addr) (n2 c2 : Nat) (other : List (BitVec 8)) (r : Nat) (w : World) (hR1 : Rd w 1 a1 n1 c1 (u8s word)) (hR2 : Rd w 1 a2 n2 c2 (u8s other)) (hr : r < 256) (hT : Turns w) :
    Calls Tryd.prog 3 #[.agg s.C, .agg t.C, .slice a1 n1 c1, .slice a2 n2 c2, .int .u8 (r : Int)] w fun e w' => e = .returned (.bool true) ∧ Below w.heap.size w w' := by
  by_cases h1 : n1 ≤ 64
  · exact dapt_in s t a1 n1 c1 word a2 n2 c2 other r w hR1 hR2 h1 hr hT
  · exact dapt_long s t a1 n1 c1 a2 n2 c2 r w (rd_le hR1) (by omega) hr hT
end Go.Proofs.YtbgefpmnncaifaaDoor
