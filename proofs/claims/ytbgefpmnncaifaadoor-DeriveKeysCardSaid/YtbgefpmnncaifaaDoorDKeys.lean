/- The walk of DeriveKeys. -/
import Derived.Test.YtbgefpmnncaifaaDoorDGoes
namespace Go.Proofs.YtbgefpmnncaifaaDoor
open Go.RowKit Go.Own Go.Bv Go.Ord Go.Eq

theorem dkeys_flW : flat Tryd.prog 24 = false := by kernel_rfl
theorem dkeys_fi : flatInt Tryd.prog 25 = false := by kernel_rfl
theorem dkeys_gIC {ops : Array Oper} {S : World → Prop} {st : Op → Bool} {Q : Exit → Act → World → Prop} {rest : List Oper} {a : Act} {w : World} {d : Option Tmp} {s t : TypeId} {x : Operand} {ty : TypeId} {pos : String} {aft : Array Edge}
    (h : wpI Tryd.prog ops S st Q ({ dst := d, op := .convert s t x, type := ty, pos := pos, after := aft, guard := none } :: rest) a w) : wpI Tryd.prog ops S st Q ({ dst := d, op := .convert s t x, type := ty, pos := pos, after := aft, guard := none } :: rest) a w := h

set_option maxHeartbeats 1000000 in
set_option maxRecDepth 100000 in
theorem dkeys_out (a1 : Option Addr) (n1 c1 : Nat) (a2 : Option Addr) (n2 c2 : Nat) (a3 : Option Addr) (n3 c3 : Nat) (r : Int) (w : World) (h : 7 < n2 ∨ 7 < n3 ∨ 64 < n1) (hT : Turns w) :
    Calls Tryd.prog 5 #[.slice a1 n1 c1, .slice a2 n2 c2, .slice a3 n3 c3, .int .u8 r] w fun e w' => e = .returned (.bool true) ∧ Below w.heap.size w w' := by
  have hO := Own.start w
  have HT := Lib.hid hT
  clear hT
  generalize hW : w = wn at hO HT ⊢
  clear hW w
  by_cases h2 : 7 < n2
  · have d2 : decide ((7 : Int) < (n2 : Int)) = true := by simp; omega
    go_enter Tryd.func5, Tryd.ntmps5
    go_wp2_with (first | (go_at_call 8; refine (dlive_calls _ (HT.out.own hO)).mono ?_; rintro e ww ⟨rfl, hb⟩; replace hO := hO.call hb; clear hb))
    go_ret
    exact ⟨rfl, hO.below⟩
  · have d2 : decide ((7 : Int) < (n2 : Int)) = false := by simp; omega
    by_cases h3 : 7 < n3
    · have d3 : decide ((7 : Int) < (n3 : Int)) = true := by simp; omega
      go_enter Tryd.func5, Tryd.ntmps5
      go_wp2_with (first | (go_at_call 8; refine (dlive_calls _ (HT.out.own hO)).mono ?_; rintro e ww ⟨rfl, hb⟩; replace hO := hO.call hb; clear hb))
      go_ret
      exact ⟨rfl, hO.below⟩
    · have d3 : decide ((7 : Int) < (n3 : Int)) = false := by simp; omega
      have d1 : decide ((64 : Int) < (n1 : Int)) = true := by simp; omega
      go_enter Tryd.func5, Tryd.ntmps5
      go_wp2_with (first | (go_at_call 8; refine (dlive_calls _ (HT.out.own hO)).mono ?_; rintro e ww ⟨rfl, hb⟩; replace hO := hO.call hb; clear hb))
      go_ret
      exact ⟨rfl, hO.below⟩

set_option maxHeartbeats 2000000 in
set_option maxRecDepth 100000 in
theorem dkeys_in (a1 : Option Addr) (n1 c1 : Nat) (word : List (BitVec 8)) (a2 : Option Addr) (n2 c2 : Nat) (as_ : List (BitVec 8)) (a3 : Option Addr) (n3 c3 : Nat) (bs : List (BitVec 8)) (r : Nat) (w : World) (hR1 : Rd w 1 a1 n1 c1 (u8s word)) (hR2 : Rd w 1 a2 n2 c2 (u8s as_)) (hR3 : Rd w 1 a3 n3 c3 (u8s bs)) (h1 : n1 ≤ 64) (h2 : n2 ≤ 7) (h3 : n3 ≤ 7) (hr : r < 256) (hT : Turns w) :
    Calls Tryd.prog 5 #[.slice a1 n1 c1, .slice a2 n2 c2, .slice a3 n3 c3, .int .u8 (r : Int)] w fun e w' => e = .returned (.bool true) ∧ Below w.heap.size w w' := by
  have hO := Own.start w
  have a0 : (0 : Int) ≤ (r : Int) := by omega
  have aL : (r : Int) < 256 := by omega
  have d2 : decide ((7 : Int) < (n2 : Int)) = false := by simp; omega
  have d3 : decide ((7 : Int) < (n3 : Int)) = false := by simp; omega
  have d1 : decide ((64 : Int) < (n1 : Int)) = false := by simp; omega
  obtain ⟨x, hx⟩ : ∃ x, (St.startOf word as_).goN word (r % 40 + 1) = x := ⟨_, rfl⟩
  obtain ⟨y, hy⟩ : ∃ y, (St.startOf word bs).goN word (r % 40 + 1) = y := ⟨_, rfl⟩
  obtain ⟨p, hp⟩ : ∃ p, St.startOf as_ word = p := ⟨_, rfl⟩
  obtain ⟨q, hq⟩ : ∃ q, St.startOf bs word = q := ⟨_, rfl⟩
  obtain ⟨D, hD⟩ : ∃ D : Bool, decide (as_ = bs) = D := ⟨_, rfl⟩
  have l2 : as_.length = n2 := by have := hR2.len; rw [u8s_length] at this; omega
  have l3 : bs.length = n3 := by have := hR3.len; rw [u8s_length] at this; omega
  have HQ1 : Hid (∀ w, (binOp .eql 24 (.agg x.C) (.agg y.C)).run Tryd.prog w = .ok (.bool D) w) := fun w => by
    rw [eqW, ← hD, ← hx, ← hy]
    have e : decide ((St.startOf word as_).goN word (r % 40 + 1) = (St.startOf word bs).goN word (r % 40 + 1)) = decide (as_ = bs) :=
      decide_eq_decide.2 ⟨fun h => St.absorb_short (s := St.zero) (by omega) (by omega) (St.absorb_inj (St.goN_inj h)), fun h => by rw [h]⟩
    rw [e]
  have HQ2 : Hid (∀ w, (binOp .eql 24 (.agg p.C) (.agg q.C)).run Tryd.prog w = .ok (.bool D) w) := fun w => by
    rw [eqW, ← hD, ← hp, ← hq]
    have e : decide (St.startOf as_ word = St.startOf bs word) = decide (as_ = bs) :=
      decide_eq_decide.2 ⟨fun h => St.absorb_short (s := St.zero.absorb word) (by omega) (by omega) h, fun h => by rw [h]⟩
    rw [e]
  have HQ4 : Hid (((strB as_).toList == (strB bs).toList) = D) := by show _ = _; rw [strB_beq, hD]
  have g1 := fun w hR hR2 hT => key_ok a1 n1 c1 word a2 n2 c2 as_ (r % 40 + 1) w hR hR2 h1 (by omega) (by omega) (by omega) hT
  have g2 := fun w hR hR2 hT => key_ok a1 n1 c1 word a3 n3 c3 bs (r % 40 + 1) w hR hR2 h1 (by omega) (by omega) (by omega) hT
  have g3 := fun w hR hR2 hT => start_ok a2 n2 c2 as_ a1 n1 c1 word w hR hR2 (by omega) h1 hT
  have g4 := fun w hR hR2 hT => start_ok a3 n3 c3 bs a1 n1 c1 word w hR hR2 (by omega) h1 hT
  rw [hx, show ((r % 40 + 1 : Nat) : Int) = (r : Int) % 40 + 1 by omega] at g1
  rw [hy, show ((r % 40 + 1 : Nat) : Int) = (r : Int) % 40 + 1 by omega] at g2
  rw [hp] at g3
  rw [hq] at g4
  have G1 := Lib.hid g1
  have G2 := Lib.hid g2
  have G3 := Lib.hid g3
  have G4 := Lib.hid g4
  have HR1 := Lib.hid hR1
  have HR2 := Lib.hid hR2
  have HR3 := Lib.hid hR3
  have HT := Lib.hid hT
  clear hR1 hR2 hR3 hT g1 g2 g3 g4 hx hy hp hq hD l2 l3
  generalize hW : w = wn at hO HR1 HR2 HR3 HT ⊢
  clear hW w
  go_enter Tryd.func5, Tryd.ntmps5
  go_wp2_with (first
    | ((with_reducible refine gBox ?_); first | (refine bxA hO rfl ?_; clear hO; intro bb ww hO) | (refine bx1 hO rfl rfl ?_; clear hO; intro bb ww hO))
    | ((with_reducible refine gLoad ?_); first | refine ldX hO 0 rfl rfl (tA rfl) (tS rfl) ?_ | refine ldC hO 0 rfl rfl (tA rfl) rfl ?_ | refine ldX hO 1 rfl rfl (tA rfl) (tS rfl) ?_ | refine ldC hO 1 rfl rfl (tA rfl) rfl ?_ | refine ldX hO 2 rfl rfl (tA rfl) (tS rfl) ?_ | refine ldC hO 2 rfl rfl (tA rfl) rfl ?_ | refine ldX hO 3 rfl rfl (tA rfl) (tS rfl) ?_ | refine ldC hO 3 rfl rfl (tA rfl) rfl ?_)
    | ((with_reducible refine gStore ?_); first | (refine stX hO 0 rfl rfl rfl rfl rfl (tS rfl) ?_; clear hO; intro ww hO) | (refine stC hO 0 rfl rfl rfl (ltb rfl) rfl (tS rfl) ?_; clear hO; intro ww hO))
    | ((with_reducible refine gAlloc ?_); refine own_alloc hO _ _ iwz ?_; clear hO; intro bb ww hO)
    | (go_at_call 8; refine (dlive_calls _ (HT.out.own hO)).mono ?_; rintro e ww ⟨rfl, hb⟩; replace hO := hO.call hb; clear hb)
    | (go_at_call 11; (with_reducible refine gCall #[_, .slice a2 n2 c2, _] ?_); refine (G1.out _ (hO.rd HR1.out) (hO.rd HR2.out) (HT.out.own hO)).mono ?_; rintro e ww ⟨rfl, hb⟩; replace hO := hO.call hb; clear hb)
    | (go_at_call 11; (with_reducible refine gCall #[_, .slice a3 n3 c3, _] ?_); refine (G2.out _ (hO.rd HR1.out) (hO.rd HR3.out) (HT.out.own hO)).mono ?_; rintro e ww ⟨rfl, hb⟩; replace hO := hO.call hb; clear hb)
    | (go_at_call 10; (with_reducible refine gCall #[.slice a2 n2 c2, _] ?_); refine (G3.out _ (hO.rd HR2.out) (hO.rd HR1.out) (HT.out.own hO)).mono ?_; rintro e ww ⟨rfl, hb⟩; replace hO := hO.call hb; clear hb)
    | (go_at_call 10; (with_reducible refine gCall #[.slice a3 n3 c3, _] ?_); refine (G4.out _ (hO.rd HR3.out) (hO.rd HR1.out) (HT.out.own hO)).mono ?_; rintro e ww ⟨rfl, hb⟩; replace hO := hO.call hb; clear hb))
  replace hO : Own wn _ [.blk _ (.cells q.C 24 (0,0)), .blk _ (.cells p.C 24 (0,0)), .blk _ (.cells y.C 24 (0,0)), .blk _ (.cells x.C 24 (0,0))] := hO
  refine wp_region_textS (fun w' => Own wn w' [.blk _ (.cells q.C 24 (0,0)), .blk _ (.cells p.C 24 (0,0)), .blk _ (.cells y.C 24 (0,0)), .blk _ (.cells x.C 24 (0,0))]) (fun op => match op with | .load _ _ => true | .binOp _ 24 _ _ _ => true | .convert _ _ _ => true | _ => false) (by kernel_rfl) (by kernel_rfl) hO.drew ?_
  replace hO := hO.drew
  generalize World.drew _ = wd at hO ⊢
  have hq4 := HQ4.out
  go_wp2_with (first
    | (((with_reducible refine gIL ?_); first | refine wpI_ldS (fun w' hS => hS.blk 0 rfl) rfl rfl (tA rfl) (tS rfl) ?_ | refine wpI_ldS (fun w' hS => hS.blk 1 rfl) rfl rfl (tA rfl) (tS rfl) ?_ | refine wpI_ldS (fun w' hS => hS.blk 2 rfl) rfl rfl (tA rfl) (tS rfl) ?_ | refine wpI_ldS (fun w' hS => hS.blk 3 rfl) rfl rfl (tA rfl) (tS rfl) ?_); first | (refine wpI_act (by simp only [Act.put, List.setIfInBounds_toArray, List.set_cons_succ, List.set_cons_zero]; rfl) ?_) | skip)
    | ((with_reducible refine gIE (t := 24) ?_); refine wpI_eqD goes_eg dkeys_flW rfl rfl rfl ?_; first | (with_reducible refine ⟨_, HQ1.out, ?_⟩) | (with_reducible refine ⟨_, HQ2.out, ?_⟩); first | (refine wpI_act (by simp only [Act.put, List.setIfInBounds_toArray, List.set_cons_succ, List.set_cons_zero]; rfl) ?_) | skip)
    | ((with_reducible refine dkeys_gIC ?_); first | refine wpI_steady (.string (strB as_)) rfl rfl (ok_convS dkeys_fi) (fun w' hS => run_value rfl (run_bytes_string w' Tryd.underlying25 Tryd.underlying5 Tryd.underlying9 (hS.rd HR2.out))) ?_ | refine wpI_steady (.string (strB bs)) rfl rfl (ok_convS dkeys_fi) (fun w' hS => run_value rfl (run_bytes_string w' Tryd.underlying25 Tryd.underlying5 Tryd.underlying9 (hS.rd HR3.out))) ?_; first | (refine wpI_act (by simp only [Act.put, List.setIfInBounds_toArray, List.set_cons_succ, List.set_cons_zero]; rfl) ?_) | skip)
    | ((with_reducible refine gI ?_); refine wpI_step rfl rfl (by first | ((with_reducible refine okI ?_ ?_) <;> rfl) | ((with_reducible refine okIc ?_); rfl) | ((with_reducible refine okcI ?_); rfl) | ((with_reducible refine okBl ?_ ?_) <;> rfl) | ((with_reducible refine okSt ?_ ?_) <;> rfl) | ((with_reducible refine okCv ?_); rfl) | rfl) ?_; intro K hK; have HK := Lib.hid hK; clear hK) | ((with_reducible refine gI ?_); first | refine wpI_skip rfl ?_ | refine wpI_want rfl ?_) | ((with_reducible refine gOnlyK HK.out ?_ ?_); exact hO; clear HK K; first | (refine wpI_act (by simp only [Act.put, List.setIfInBounds_toArray, List.set_cons_succ, List.set_cons_zero]; rfl) ?_) | skip) | (with_reducible refine wpI_nil ?_))
  go_ret
  exact ⟨rfl, hO.below⟩

theorem dkeys_walk (a1 : Option Addr) (n1 c1 : Nat) (word : List (BitVec 8)) (a2 : Option Addr) (n2 c2 : Nat) (as_ : List (BitVec 8)) (a3 : Option Addr) (n3 c3 : Nat) (bs : List (BitVec 8)) (r : Nat) (w : World) (hR1 : Rd w 1 a1 n1 c1 (u8s word)) (hR2 : Rd w 1 a2 n2 c2 (u8s as_)) (hR3 : Rd w 1 a3 n3 c3 (u8s bs)) (hr : r < 256) (hT : Turns w) :
    Calls Tryd.prog 5 #[.slice a1 n1 c1, .slice a2 n2 c2, .slice a3 n3 c3, .int .u8 (r : Int)] w fun e w' => e = .returned (.bool true) ∧ Below w.heap.size w w' := by
  by_cases h : 7 < n2 ∨ 7 < n3 ∨ 64 < n1
  · exact dkeys_out a1 n1 c1 a2 n2 c2 a3 n3 c3 r w h hT
  · exact dkeys_in a1 n1 c1 word a2 n2 c2 as_ a3 n3 c3 bs r w hR1 hR2 hR3 (by omega) (by omega) (by omega) hr hT
end Go.Proofs.YtbgefpmnncaifaaDoor
