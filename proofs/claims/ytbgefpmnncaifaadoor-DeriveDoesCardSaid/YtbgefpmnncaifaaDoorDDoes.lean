/- The walk of DeriveDoes. -/
import Derived.Test.YtbgefpmnncaifaaDoorDr
namespace Go.Proofs.YtbgefpmnncaifaaDoor
open Go.RowKit Go.Own Go.Bv Go.Ord Go.Eq

theorem ddoes_fi : flatInt Tryd.prog 25 = false := by kernel_rfl
theorem ddoes_gIC {ops : Array Oper} {S : World → Prop} {st : Op → Bool} {Q : Exit → Act → World → Prop} {rest : List Oper} {a : Act} {w : World} {d : Option Tmp} {s t : TypeId} {x : Operand} {ty : TypeId} {pos : String} {aft : Array Edge}
    (h : wpI Tryd.prog ops S st Q ({ dst := d, op := .convert s t x, type := ty, pos := pos, after := aft, guard := none } :: rest) a w) : wpI Tryd.prog ops S st Q ({ dst := d, op := .convert s t x, type := ty, pos := pos, after := aft, guard := none } :: rest) a w := h

set_option maxHeartbeats 8000000 in
set_option maxRecDepth 100000 in
theorem ddoes_walk (s : St) (a1 : Option Addr) (n1 c1 : Nat) (word : List (BitVec 8)) (a2 : Option Addr) (n2 c2 : Nat) (salt : List (BitVec 8)) (r : Int) (w : World) (hR1 : Rd w 1 a1 n1 c1 (u8s word)) (hR2 : Rd w 1 a2 n2 c2 (u8s salt)) (hT : Turns w) :
    Calls Tryd.prog 6 #[.agg s.C, .slice a1 n1 c1, .slice a2 n2 c2, .int .i64 r] w fun e w' => e = .returned (.bool true) ∧ Below w.heap.size w w' := by
  have hO := Own.start w
  have g1 := fun w hR1 hR2 hT => start_calls a1 n1 c1 word a2 n2 c2 salt w hR1 hR2 hT
  have g2 := fun w hR1 hR2 => rstart_calls a1 n1 c1 word a2 n2 c2 salt w hR1 hR2
  have g3 := fun w hR1 hT => go_calls s a1 n1 c1 word r w hR1 hT
  have g4 := fun w hR1 => rgo_calls s a1 n1 c1 word r w hR1
  have g5 := fun w hR1 hR2 hT => key_calls a1 n1 c1 word a2 n2 c2 salt r w hR1 hR2 hT
  have g6 := fun w hR1 hR2 => rkey_calls a1 n1 c1 word a2 n2 c2 salt r w hR1 hR2
  have g7 := fun w hT => mark_calls s w hT
  have g8 := fun w => rmark_calls s w
  obtain ⟨X, hX⟩ : ∃ X, startT word salt = X := ⟨_, rfl⟩
  obtain ⟨E1, hE1⟩ : ∃ E, startE word salt = E := ⟨_, rfl⟩
  obtain ⟨Y, hY⟩ : ∃ X, goT s word r = X := ⟨_, rfl⟩
  obtain ⟨E2, hE2⟩ : ∃ E, goE word r = E := ⟨_, rfl⟩
  obtain ⟨K, hK⟩ : ∃ X, keyT word salt r = X := ⟨_, rfl⟩
  obtain ⟨E3, hE3⟩ : ∃ E, keyE word salt r = E := ⟨_, rfl⟩
  obtain ⟨m, hm⟩ : ∃ m, s.mark = m := ⟨_, rfl⟩
  rw [hX, hE1] at g1 g2
  rw [hY, hE2] at g3 g4
  rw [hK, hE3] at g5 g6
  rw [hm] at g7 g8
  have G1 := Lib.hid g1
  have G2 := Lib.hid g2
  have G3 := Lib.hid g3
  have G4 := Lib.hid g4
  have G5 := Lib.hid g5
  have G6 := Lib.hid g6
  have G7 := Lib.hid g7
  have G8 := Lib.hid g8
  have HR1 := Lib.hid hR1
  have HR2 := Lib.hid hR2
  have HT := Lib.hid hT
  clear hR1 hR2 hT g1 g2 g3 g4 g5 g6 g7 g8 hX hE1 hY hE2 hK hE3 hm
  generalize hW : w = wn at hO HR1 HR2 HT ⊢
  clear hW w
  by_cases h1 : 60 < r
  · have d1 : decide ((60 : Int) < r) = true := by simp; omega
    by_cases h2 : r ≤ 4096
    · have d2 : decide (r ≤ (4096 : Int)) = true := by simp; omega
      go_enter Tryd.func6, Tryd.ntmps6
      go_wp2_with (first
        | ((with_reducible refine gBox ?_); first | (refine bxA hO rfl ?_; clear hO; intro b ww hO) | (refine bx1 hO rfl rfl ?_; clear hO; intro b ww hO))
        | ((with_reducible refine gG ?_); refine wpList_want rfl ?_)
        | (go_at_call 8; refine (dlive_calls _ (HT.out.own hO)).mono ?_; rintro e ww ⟨rfl, hb⟩; replace hO := hO.call hb; clear hb))
      go_ret
      exact ⟨rfl, hO.below⟩
    · have d2 : decide (r ≤ (4096 : Int)) = false := by simp; omega
      by_cases h3 : 100 < n1
      · have d3 : decide ((100 : Int) < (n1 : Int)) = true := by simp; omega
        go_enter Tryd.func6, Tryd.ntmps6
        go_wp2_with (first
          | ((with_reducible refine gBox ?_); first | (refine bxA hO rfl ?_; clear hO; intro b ww hO) | (refine bx1 hO rfl rfl ?_; clear hO; intro b ww hO))
          | ((with_reducible refine gG ?_); refine wpList_want rfl ?_)
          | (go_at_call 8; refine (dlive_calls _ (HT.out.own hO)).mono ?_; rintro e ww ⟨rfl, hb⟩; replace hO := hO.call hb; clear hb))
        go_ret
        exact ⟨rfl, hO.below⟩
      · have d3 : decide ((100 : Int) < (n1 : Int)) = false := by simp; omega
        by_cases h4 : 100 < n2
        · have d4 : decide ((100 : Int) < (n2 : Int)) = true := by simp; omega
          go_enter Tryd.func6, Tryd.ntmps6
          go_wp2_with (first
            | ((with_reducible refine gBox ?_); first | (refine bxA hO rfl ?_; clear hO; intro b ww hO) | (refine bx1 hO rfl rfl ?_; clear hO; intro b ww hO))
            | ((with_reducible refine gG ?_); refine wpList_want rfl ?_)
            | (go_at_call 8; refine (dlive_calls _ (HT.out.own hO)).mono ?_; rintro e ww ⟨rfl, hb⟩; replace hO := hO.call hb; clear hb))
          go_ret
          exact ⟨rfl, hO.below⟩
        · have d4 : decide ((100 : Int) < (n2 : Int)) = false := by simp; omega
          go_enter Tryd.func6, Tryd.ntmps6
          go_wp2_with (first
            | ((with_reducible refine gBox ?_); first | (refine bxA hO rfl ?_; clear hO; intro b ww hO) | (refine bx1 hO rfl rfl ?_; clear hO; intro b ww hO))
            | ((with_reducible refine gG ?_); refine wpList_want rfl ?_)
            | ((with_reducible refine gLoad ?_); first | refine ldX hO 0 rfl rfl (tA rfl) (tS rfl) ?_ | refine ldC hO 0 rfl rfl (tA rfl) rfl ?_ | refine ldX hO 1 rfl rfl (tA rfl) (tS rfl) ?_ | refine ldC hO 1 rfl rfl (tA rfl) rfl ?_ | refine ldX hO 2 rfl rfl (tA rfl) (tS rfl) ?_ | refine ldC hO 2 rfl rfl (tA rfl) rfl ?_ | refine ldX hO 3 rfl rfl (tA rfl) (tS rfl) ?_ | refine ldC hO 3 rfl rfl (tA rfl) rfl ?_ | refine ldX hO 4 rfl rfl (tA rfl) (tS rfl) ?_ | refine ldC hO 4 rfl rfl (tA rfl) rfl ?_)
            | ((with_reducible refine gStore ?_); first | (refine stX hO 0 rfl rfl rfl rfl rfl (tS rfl) ?_; clear hO; intro ww hO) | (refine stC hO 0 rfl rfl rfl (ltb rfl) rfl (tS rfl) ?_; clear hO; intro ww hO))
            | ((with_reducible refine gAlloc ?_); refine own_alloc hO _ _ iwz ?_; clear hO; intro bb ww hO)
            | (go_at_call 8; refine (dlive_calls _ (HT.out.own hO)).mono ?_; rintro e ww ⟨rfl, hb⟩; replace hO := hO.call hb; clear hb)
            | ((with_reducible refine Go.Bva.gCnv (s := 25) (t := 9) ?_); first
                | refine Go.Bva.step_val (run_value rfl (run_bytes_string _ Tryd.underlying25 Tryd.underlying5 Tryd.underlying9 (hO.rd HR1.out))) ?_
                | refine Go.Bva.step_val (run_value rfl (run_bytes_string _ Tryd.underlying25 Tryd.underlying5 Tryd.underlying9 (hO.rd HR2.out))) ?_)
            | (go_at_call 10; refine (G1.out _ (hO.rd HR1.out) (hO.rd HR2.out) (HT.out.own hO)).mono ?_; rintro e ww ⟨rfl, hb⟩; replace hO := hO.call hb; clear hb)
            | (go_at_call 12; refine (G2.out _ (hO.rd HR1.out) (hO.rd HR2.out)).mono ?_; rintro e ww ⟨rfl, hb⟩; replace hO := hO.call hb; clear hb)
            | (go_at_call 9; refine (G3.out _ (hO.rd HR1.out) (HT.out.own hO)).mono ?_; rintro e ww ⟨rfl, hb⟩; replace hO := hO.call hb; clear hb)
            | (go_at_call 13; refine (G4.out _ (hO.rd HR1.out)).mono ?_; rintro e ww ⟨rfl, hb⟩; replace hO := hO.call hb; clear hb)
            | (go_at_call 11; refine (G5.out _ (hO.rd HR1.out) (hO.rd HR2.out) (HT.out.own hO)).mono ?_; rintro e ww ⟨rfl, hb⟩; replace hO := hO.call hb; clear hb)
            | (go_at_call 14; refine (G6.out _ (hO.rd HR1.out) (hO.rd HR2.out)).mono ?_; rintro e ww ⟨rfl, hb⟩; replace hO := hO.call hb; clear hb))
          replace hO : Own wn _ [.blk _ (.cells K.C 24 (0,0)), .blk _ (.cells K.C 24 (0,0)), .blk _ (.cells Y.C 24 (0,0)), .blk _ (.cells Y.C 24 (0,0)), .blk _ (.cells X.C 24 (0,0)), .blk _ (.cells X.C 24 (0,0)), .blk _ (.cells s.C 24 (0,0))] := hO
          refine wp_region_textS (fun w' => Own wn w' [.blk _ (.cells K.C 24 (0,0)), .blk _ (.cells K.C 24 (0,0)), .blk _ (.cells Y.C 24 (0,0)), .blk _ (.cells Y.C 24 (0,0)), .blk _ (.cells X.C 24 (0,0)), .blk _ (.cells X.C 24 (0,0)), .blk _ (.cells s.C 24 (0,0))]) (fun op => match op with | .load _ _ => true | .binOp _ 24 _ _ _ => true | .convert _ _ _ => true | _ => false) (by kernel_rfl) (by kernel_rfl) hO.drew ?_
          replace hO := hO.drew
          generalize World.drew _ = wd at hO ⊢
          go_wp2_with (first
            | (((with_reducible refine gIL ?_); first | refine wpI_ldS (fun w' hS => hS.blk 0 rfl) rfl rfl (tA rfl) (tS rfl) ?_ | refine wpI_ldS (fun w' hS => hS.blk 1 rfl) rfl rfl (tA rfl) (tS rfl) ?_ | refine wpI_ldS (fun w' hS => hS.blk 2 rfl) rfl rfl (tA rfl) (tS rfl) ?_ | refine wpI_ldS (fun w' hS => hS.blk 3 rfl) rfl rfl (tA rfl) (tS rfl) ?_ | refine wpI_ldS (fun w' hS => hS.blk 4 rfl) rfl rfl (tA rfl) (tS rfl) ?_ | refine wpI_ldS (fun w' hS => hS.blk 5 rfl) rfl rfl (tA rfl) (tS rfl) ?_ | refine wpI_ldS (fun w' hS => hS.blk 6 rfl) rfl rfl (tA rfl) (tS rfl) ?_); first | (refine wpI_act (by simp only [Act.put, List.setIfInBounds_toArray, List.set_cons_succ, List.set_cons_zero]; rfl) ?_) | skip)
            | ((with_reducible refine gIE (t := 24) ?_); refine wpI_eqD goes_eg dmark_flW rfl rfl rfl ?_; (with_reducible refine ⟨_, eqWT _, ?_⟩); first | (refine wpI_act (by simp only [Act.put, List.setIfInBounds_toArray, List.set_cons_succ, List.set_cons_zero]; rfl) ?_) | skip)
            | ((with_reducible refine ddoes_gIC ?_); first | refine wpI_steady (.string (strB word)) rfl rfl (ok_convS ddoes_fi) (fun w' hS => run_value rfl (run_bytes_string w' Tryd.underlying25 Tryd.underlying5 Tryd.underlying9 (hS.rd HR1.out))) ?_ | refine wpI_steady (.string (strB salt)) rfl rfl (ok_convS ddoes_fi) (fun w' hS => run_value rfl (run_bytes_string w' Tryd.underlying25 Tryd.underlying5 Tryd.underlying9 (hS.rd HR2.out))) ?_; first | (refine wpI_act (by simp only [Act.put, List.setIfInBounds_toArray, List.set_cons_succ, List.set_cons_zero]; rfl) ?_) | skip)
            | (go_at_call 15; refine (G7.out _ (HT.out.own hO)).mono ?_; rintro e ww ⟨rfl, hb⟩; replace hO := hO.call hb; clear hb)
            | (go_at_call 16; refine (G8.out _).mono ?_; rintro e ww ⟨rfl, hb⟩; replace hO := hO.call hb; clear hb)
            | ((with_reducible refine gI ?_); refine wpI_step rfl rfl (by kernel_rfl) ?_; intro K hK; have HK := Lib.hid hK; clear hK) | ((with_reducible refine gI ?_); first | refine wpI_skip rfl ?_ | refine wpI_want rfl ?_) | ((with_reducible refine gOnlyK HK.out ?_ ?_); exact hO; clear HK K; first | (refine wpI_act (by simp only [Act.put, List.setIfInBounds_toArray, List.set_cons_succ, List.set_cons_zero]; rfl) ?_) | skip) | (with_reducible refine wpI_nil ?_))
          go_ret
          exact ⟨rfl, hO.below⟩
  · have d1 : decide ((60 : Int) < r) = false := by simp; omega
    by_cases h3 : 100 < n1
    · have d3 : decide ((100 : Int) < (n1 : Int)) = true := by simp; omega
      go_enter Tryd.func6, Tryd.ntmps6
      go_wp2_with (first
        | ((with_reducible refine gBox ?_); first | (refine bxA hO rfl ?_; clear hO; intro b ww hO) | (refine bx1 hO rfl rfl ?_; clear hO; intro b ww hO))
        | ((with_reducible refine gG ?_); refine wpList_want rfl ?_)
        | (go_at_call 8; refine (dlive_calls _ (HT.out.own hO)).mono ?_; rintro e ww ⟨rfl, hb⟩; replace hO := hO.call hb; clear hb))
      go_ret
      exact ⟨rfl, hO.below⟩
    · have d3 : decide ((100 : Int) < (n1 : Int)) = false := by simp; omega
      by_cases h4 : 100 < n2
      · have d4 : decide ((100 : Int) < (n2 : Int)) = true := by simp; omega
        go_enter Tryd.func6, Tryd.ntmps6
        go_wp2_with (first
          | ((with_reducible refine gBox ?_); first | (refine bxA hO rfl ?_; clear hO; intro b ww hO) | (refine bx1 hO rfl rfl ?_; clear hO; intro b ww hO))
          | ((with_reducible refine gG ?_); refine wpList_want rfl ?_)
          | (go_at_call 8; refine (dlive_calls _ (HT.out.own hO)).mono ?_; rintro e ww ⟨rfl, hb⟩; replace hO := hO.call hb; clear hb))
        go_ret
        exact ⟨rfl, hO.below⟩
      · have d4 : decide ((100 : Int) < (n2 : Int)) = false := by simp; omega
        go_enter Tryd.func6, Tryd.ntmps6
        go_wp2_with (first
          | ((with_reducible refine gBox ?_); first | (refine bxA hO rfl ?_; clear hO; intro b ww hO) | (refine bx1 hO rfl rfl ?_; clear hO; intro b ww hO))
          | ((with_reducible refine gG ?_); refine wpList_want rfl ?_)
          | ((with_reducible refine gLoad ?_); first | refine ldX hO 0 rfl rfl (tA rfl) (tS rfl) ?_ | refine ldC hO 0 rfl rfl (tA rfl) rfl ?_ | refine ldX hO 1 rfl rfl (tA rfl) (tS rfl) ?_ | refine ldC hO 1 rfl rfl (tA rfl) rfl ?_ | refine ldX hO 2 rfl rfl (tA rfl) (tS rfl) ?_ | refine ldC hO 2 rfl rfl (tA rfl) rfl ?_ | refine ldX hO 3 rfl rfl (tA rfl) (tS rfl) ?_ | refine ldC hO 3 rfl rfl (tA rfl) rfl ?_ | refine ldX hO 4 rfl rfl (tA rfl) (tS rfl) ?_ | refine ldC hO 4 rfl rfl (tA rfl) rfl ?_)
          | ((with_reducible refine gStore ?_); first | (refine stX hO 0 rfl rfl rfl rfl rfl (tS rfl) ?_; clear hO; intro ww hO) | (refine stC hO 0 rfl rfl rfl (ltb rfl) rfl (tS rfl) ?_; clear hO; intro ww hO))
          | ((with_reducible refine gAlloc ?_); refine own_alloc hO _ _ iwz ?_; clear hO; intro bb ww hO)
          | (go_at_call 8; refine (dlive_calls _ (HT.out.own hO)).mono ?_; rintro e ww ⟨rfl, hb⟩; replace hO := hO.call hb; clear hb)
          | ((with_reducible refine Go.Bva.gCnv (s := 25) (t := 9) ?_); first
              | refine Go.Bva.step_val (run_value rfl (run_bytes_string _ Tryd.underlying25 Tryd.underlying5 Tryd.underlying9 (hO.rd HR1.out))) ?_
              | refine Go.Bva.step_val (run_value rfl (run_bytes_string _ Tryd.underlying25 Tryd.underlying5 Tryd.underlying9 (hO.rd HR2.out))) ?_)
          | (go_at_call 10; refine (G1.out _ (hO.rd HR1.out) (hO.rd HR2.out) (HT.out.own hO)).mono ?_; rintro e ww ⟨rfl, hb⟩; replace hO := hO.call hb; clear hb)
          | (go_at_call 12; refine (G2.out _ (hO.rd HR1.out) (hO.rd HR2.out)).mono ?_; rintro e ww ⟨rfl, hb⟩; replace hO := hO.call hb; clear hb)
          | (go_at_call 9; refine (G3.out _ (hO.rd HR1.out) (HT.out.own hO)).mono ?_; rintro e ww ⟨rfl, hb⟩; replace hO := hO.call hb; clear hb)
          | (go_at_call 13; refine (G4.out _ (hO.rd HR1.out)).mono ?_; rintro e ww ⟨rfl, hb⟩; replace hO := hO.call hb; clear hb)
          | (go_at_call 11; refine (G5.out _ (hO.rd HR1.out) (hO.rd HR2.out) (HT.out.own hO)).mono ?_; rintro e ww ⟨rfl, hb⟩; replace hO := hO.call hb; clear hb)
          | (go_at_call 14; refine (G6.out _ (hO.rd HR1.out) (hO.rd HR2.out)).mono ?_; rintro e ww ⟨rfl, hb⟩; replace hO := hO.call hb; clear hb))
        replace hO : Own wn _ [.blk _ (.cells K.C 24 (0,0)), .blk _ (.cells K.C 24 (0,0)), .blk _ (.cells Y.C 24 (0,0)), .blk _ (.cells Y.C 24 (0,0)), .blk _ (.cells X.C 24 (0,0)), .blk _ (.cells X.C 24 (0,0)), .blk _ (.cells s.C 24 (0,0))] := hO
        refine wp_region_textS (fun w' => Own wn w' [.blk _ (.cells K.C 24 (0,0)), .blk _ (.cells K.C 24 (0,0)), .blk _ (.cells Y.C 24 (0,0)), .blk _ (.cells Y.C 24 (0,0)), .blk _ (.cells X.C 24 (0,0)), .blk _ (.cells X.C 24 (0,0)), .blk _ (.cells s.C 24 (0,0))]) (fun op => match op with | .load _ _ => true | .binOp _ 24 _ _ _ => true | .convert _ _ _ => true | _ => false) (by kernel_rfl) (by kernel_rfl) hO.drew ?_
        replace hO := hO.drew
        generalize World.drew _ = wd at hO ⊢
        go_wp2_with (first
          | (((with_reducible refine gIL ?_); first | refine wpI_ldS (fun w' hS => hS.blk 0 rfl) rfl rfl (tA rfl) (tS rfl) ?_ | refine wpI_ldS (fun w' hS => hS.blk 1 rfl) rfl rfl (tA rfl) (tS rfl) ?_ | refine wpI_ldS (fun w' hS => hS.blk 2 rfl) rfl rfl (tA rfl) (tS rfl) ?_ | refine wpI_ldS (fun w' hS => hS.blk 3 rfl) rfl rfl (tA rfl) (tS rfl) ?_ | refine wpI_ldS (fun w' hS => hS.blk 4 rfl) rfl rfl (tA rfl) (tS rfl) ?_ | refine wpI_ldS (fun w' hS => hS.blk 5 rfl) rfl rfl (tA rfl) (tS rfl) ?_ | refine wpI_ldS (fun w' hS => hS.blk 6 rfl) rfl rfl (tA rfl) (tS rfl) ?_); first | (refine wpI_act (by simp only [Act.put, List.setIfInBounds_toArray, List.set_cons_succ, List.set_cons_zero]; rfl) ?_) | skip)
          | ((with_reducible refine gIE (t := 24) ?_); refine wpI_eqD goes_eg dmark_flW rfl rfl rfl ?_; (with_reducible refine ⟨_, eqWT _, ?_⟩); first | (refine wpI_act (by simp only [Act.put, List.setIfInBounds_toArray, List.set_cons_succ, List.set_cons_zero]; rfl) ?_) | skip)
          | ((with_reducible refine ddoes_gIC ?_); first | refine wpI_steady (.string (strB word)) rfl rfl (ok_convS ddoes_fi) (fun w' hS => run_value rfl (run_bytes_string w' Tryd.underlying25 Tryd.underlying5 Tryd.underlying9 (hS.rd HR1.out))) ?_ | refine wpI_steady (.string (strB salt)) rfl rfl (ok_convS ddoes_fi) (fun w' hS => run_value rfl (run_bytes_string w' Tryd.underlying25 Tryd.underlying5 Tryd.underlying9 (hS.rd HR2.out))) ?_; first | (refine wpI_act (by simp only [Act.put, List.setIfInBounds_toArray, List.set_cons_succ, List.set_cons_zero]; rfl) ?_) | skip)
          | (go_at_call 15; refine (G7.out _ (HT.out.own hO)).mono ?_; rintro e ww ⟨rfl, hb⟩; replace hO := hO.call hb; clear hb)
          | (go_at_call 16; refine (G8.out _).mono ?_; rintro e ww ⟨rfl, hb⟩; replace hO := hO.call hb; clear hb)
          | ((with_reducible refine gI ?_); refine wpI_step rfl rfl (by kernel_rfl) ?_; intro K hK; have HK := Lib.hid hK; clear hK) | ((with_reducible refine gI ?_); first | refine wpI_skip rfl ?_ | refine wpI_want rfl ?_) | ((with_reducible refine gOnlyK HK.out ?_ ?_); exact hO; clear HK K; first | (refine wpI_act (by simp only [Act.put, List.setIfInBounds_toArray, List.set_cons_succ, List.set_cons_zero]; rfl) ?_) | skip) | (with_reducible refine wpI_nil ?_))
        go_ret
        exact ⟨rfl, hO.below⟩
end Go.Proofs.YtbgefpmnncaifaaDoor
