/- The walk of PermBack. -/
import Derived.Test.YtjbbeflmfacmlaaDoorPe
import Derived.Test.YtjbbeflmfacmlaaDoorPOctEq
import Derived.Test.YtjbbeflmfacmlaaDoorG
namespace Go.Proofs.YtjbbeflmfacmlaaDoor
open Go.RowKit Go.Own Go.Bv Go.Ord Go.Eq

theorem flW : flat Tryd.prog 24 = false := by kernel_rfl
theorem iwagg : aggT Tryd.prog 24 = some true := by kernel_rfl
theorem blk_cells {w : World} {b : Nat} {s : St} (h : w.heap[b]? = some (.cells s.C 24 (0,0))) : ∀ j v, (u32s s.l)[j]? = some v → w.cell? ((Addr.mk b 0 none).add j) = some v := by
  intro j v hj
  rw [Addr.add_lit, cell_of_row w b _ _ _ _ h, Nat.zero_add]
  rw [St.C_eq, List.getElem?_toArray]; exact hj

theorem egW : Tryd.prog.eqGuardType Tryd.prog.depth 24 = false := by kernel_rfl

set_option maxHeartbeats 4000000 in
set_option maxRecDepth 100000 in
theorem back_walk (s t : St) (w : World) (hT : Turns w) :
    Calls Tryd.prog 5 #[.agg s.C, .agg t.C] w fun e w' => e = .returned (.bool true) ∧ Below w.heap.size w w' := by
  have hO := Own.start w
  have HT := Lib.hid hT
  clear hT
  obtain ⟨B, hB⟩ : ∃ B : Bool, decide (s = t) = B := ⟨_, rfl⟩
  have hq1 : ∀ w, (binOp .eql 24 (.agg s.C) (.agg t.C)).run Tryd.prog w = .ok (.bool B) w := fun w => by rw [eqW, hB]
  have hq2 : ∀ w, (binOp .eql 24 (.agg s.perm.C) (.agg t.perm.C)).run Tryd.prog w = .ok (.bool B) w := fun w => by
    rw [eqW, ← hB, decide_eq_decide.2 ⟨fun h => St.perm_inj h, fun h => by rw [h]⟩]
  have HQ1 := Lib.hid hq1
  have HQ2 := Lib.hid hq2
  clear hq1 hq2
  have HBP := Lib.hid (St.back_perm s)
  have HPB := Lib.hid (St.perm_back s)
  obtain ⟨sp, hsp⟩ : ∃ u, s.perm = u := ⟨_, rfl⟩
  obtain ⟨sb, hsb⟩ : ∃ u, s.back = u := ⟨_, rfl⟩
  obtain ⟨tp, htp⟩ : ∃ u, t.perm = u := ⟨_, rfl⟩
  rw [hsp, htp] at HQ2
  rw [hsp] at HBP
  rw [hsb] at HPB
  have HSP := Lib.hid hsp
  have HSB := Lib.hid hsb
  have HTP := Lib.hid htp
  generalize hW : w = wn at hO HT ⊢
  clear hW w hB hsp hsb htp
  go_enter Tryd.func5, Tryd.ntmps5
  go_wp2_with (first
    | ((with_reducible refine gBox ?_); have _t := hO.at 0 rfl; refine own_box hO 24 _ _ rfl ?_; clear hO; intro b2 w2 hO; replace hO : Own wn w2 [.blk b2 (.cells t.C 24 (0,0)), .blk b (.cells s.C 24 (0,0))] := hO)
    | ((with_reducible refine gBox ?_); refine own_box hO 24 _ _ rfl ?_; clear hO; intro b w1 hO; replace hO : Own wn w1 [.blk b (.cells s.C 24 (0,0))] := hO)
    | (go_at_call 8; refine (live_calls _).mono ?_; rintro e w3 ⟨rfl, hb⟩; replace hO := hO.call hb; clear hb))
  refine wp_region_textS (fun w' => Own wn w' [.blk b2 (.cells t.C 24 (0,0)), .blk b (.cells s.C 24 (0,0))]) (fun op => match op with | .load _ _ => true | .binOp _ 24 _ _ _ => true | _ => false) (by kernel_rfl) (by kernel_rfl) hO.drew ?_
  replace hO := hO.drew
  generalize World.drew _ = w4 at hO ⊢
  go_wp2_with (first
    | ((with_reducible refine gIL ?_); first | refine wpI_ldS (fun w' hS => hS.blk 1 rfl) rfl rfl iwagg iws ?_ | refine wpI_ldS (fun w' hS => hS.blk 0 rfl) rfl rfl iwagg iws ?_)
    | ((with_reducible refine gIE (t := 24) ?_); first | refine wpI_eqS rfl rfl (eqWT s) rfl egW flW ?_ | refine wpI_eqS rfl rfl HQ2.out rfl egW flW ?_ | refine wpI_eqS rfl rfl HQ1.out rfl egW flW ?_)
    | (go_at_call 11; (with_reducible refine gCall #[.agg s.C] ?_); refine (perm_calls s _ (HT.out.own hO)).mono ?_; rw [HSP.out]; rintro e w5 ⟨rfl, hb⟩; replace hO := hO.call hb; clear hb)
    | (go_at_call 11; (with_reducible refine gCall #[.agg t.C] ?_); refine (perm_calls t _ (HT.out.own hO)).mono ?_; rw [HTP.out]; rintro e w6 ⟨rfl, hb⟩; replace hO := hO.call hb; clear hb)
    | (go_at_call 11; (with_reducible refine gCall #[.agg sb.C] ?_); refine (perm_calls sb _ (HT.out.own hO)).mono ?_; rw [HPB.out]; rintro e w7 ⟨rfl, hb⟩; replace hO := hO.call hb; clear hb)
    | (go_at_call 17; (with_reducible refine gCall #[.agg sp.C] ?_); refine (back_calls sp _ (HT.out.own hO)).mono ?_; rw [HBP.out]; rintro e w8 ⟨rfl, hb⟩; replace hO := hO.call hb; clear hb)
    | (go_at_call 17; (with_reducible refine gCall #[.agg s.C] ?_); refine (back_calls s _ (HT.out.own hO)).mono ?_; rw [HSB.out]; rintro e w9 ⟨rfl, hb⟩; replace hO := hO.call hb; clear hb)
    | ((with_reducible refine gI ?_); refine wpI_step rfl rfl (by first | exact ok_int rfl rfl | exact ok_bool rfl rfl | exact ok_str rfl rfl | exact ok_conv rfl | rfl) ?_; intro K hK) | ((with_reducible refine gI ?_); first | refine wpI_skip rfl ?_ | refine wpI_want rfl ?_) | ((with_reducible refine gOnlyK hK ?_ ?_); exact hO; clear hK K) | (with_reducible refine wpI_nil ?_))
  go_ret
  exact ⟨rfl, hO.below⟩
end Go.Proofs.YtjbbeflmfacmlaaDoor
