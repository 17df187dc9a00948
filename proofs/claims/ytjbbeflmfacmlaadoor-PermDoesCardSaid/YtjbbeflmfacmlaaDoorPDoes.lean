/- The walk of PermDoes. -/
import Derived.Test.YtjbbeflmfacmlaaDoorPf
import Derived.Test.YtjbbeflmfacmlaaDoorPh
import Derived.Test.YtjbbeflmfacmlaaDoorPOctEq
namespace Go.Proofs.YtjbbeflmfacmlaaDoor
open Go.RowKit Go.Own Go.Bv Go.Ord Go.Eq

theorem dflW : flat Tryd.prog 24 = false := by kernel_rfl
theorem degW : Tryd.prog.eqGuardType Tryd.prog.depth 24 = false := by kernel_rfl

set_option maxHeartbeats 4000000 in
set_option maxRecDepth 100000 in
theorem does_walk (s : St) (a : Option Addr) (n cap : Nat) (bs : List (BitVec 8)) (w : World) (hR : Rd w 1 a n cap (u8s bs)) (hT : Turns w) :
    Calls Tryd.prog 3 #[.agg s.C, .slice a n cap] w fun e w' => e = .returned (.bool true) ∧ Below w.heap.size w w' := by
  have hO := Own.start w
  have HR := Lib.hid hR
  have HT := Lib.hid hT
  clear hR hT
  generalize hW : w = wn at hO HR HT ⊢
  clear hW w
  by_cases h5 : n ≤ 100
  · have hb5 : decide ((100 : Int) < (n : Int)) = false := by simp; omega
    obtain ⟨x, hx⟩ : ∃ x, ofT bs = x := ⟨_, rfl⟩
    obtain ⟨E, hE⟩ : ∃ E, ofE bs = E := ⟨_, rfl⟩
    have H1 : ∀ w, Hid (Calls Tryd.prog 9 #[.slice a n cap] w fun e w' => e = .returned (.tuple #[.agg (ofT bs).C, .int .i64 (ofE bs)]) ∧ Below w.heap.size w w') ∨ True := fun _ => .inr trivial
    have HX := Lib.hid hx
    have HE := Lib.hid hE
    clear hx hE H1
    go_enter Tryd.func3, Tryd.ntmps3
    go_wp2_with (first
      | ((with_reducible refine gBox ?_); refine own_box hO 24 _ _ rfl ?_; clear hO; intro b w1 hO; replace hO : Own wn w1 [.blk b (.cells s.C 24 (0,0))] := hO)
      | (go_at_call 8; refine (live_calls _).mono ?_; rintro e ww ⟨rfl, hb⟩; replace hO := hO.call hb; clear hb)
      | (go_at_call 9; refine (of_calls _ _ _ bs _ (hO.rd HR.out)).mono ?_; rw [HX.out, HE.out]; rintro e ww ⟨rfl, hb⟩; replace hO := hO.call hb; clear hb)
      | (go_at_call 10; refine (rof_calls _ _ _ bs _ (hO.rd HR.out)).mono ?_; rw [HX.out, HE.out]; rintro e ww ⟨rfl, hb⟩; replace hO := hO.call hb; clear hb)
      | ((with_reducible refine gAlloc ?_); refine own_alloc hO 24 _ iwz ?_; clear hO; intro bx w1 hO)
      | ((with_reducible refine gStore ?_); first | (refine st_blk hO 0 rfl rfl rfl (ltb rfl) rfl (tS rfl) ?_; clear hO; intro ww hO) | (refine st_all hO 0 rfl rfl rfl rfl rfl rfl (tS rfl) ?_; clear hO; intro ww hO)))
    replace hO : Own wn _ [.blk _ (.cells x.C 24 (0,0)), .blk _ (.cells x.C 24 (0,0)), .blk b (.cells s.C 24 (0,0))] := hO
    refine wp_region_textS (fun w' => Own wn w' [.blk _ (.cells x.C 24 (0,0)), .blk _ (.cells x.C 24 (0,0)), .blk b (.cells s.C 24 (0,0))]) (fun op => match op with | .load _ _ => true | .binOp _ 24 _ _ _ => true | _ => false) (by kernel_rfl) (by kernel_rfl) hO.drew ?_
    replace hO := hO.drew
    generalize World.drew _ = w4 at hO ⊢
    go_wp2_with (first
      | ((with_reducible refine gIL ?_); first | refine wpI_ldS (fun w' hS => hS.blk 0 rfl) rfl rfl (tA rfl) (tS rfl) ?_ | refine wpI_ldS (fun w' hS => hS.blk 1 rfl) rfl rfl (tA rfl) (tS rfl) ?_ | refine wpI_ldS (fun w' hS => hS.blk 2 rfl) rfl rfl (tA rfl) (tS rfl) ?_)
      | ((with_reducible refine gIE (t := 24) ?_); refine wpI_eqS rfl rfl (eqWT _) rfl degW dflW ?_)
      | (go_at_call 11; refine (perm_calls s _ (HT.out.own hO)).mono ?_; rintro e ww ⟨rfl, hb⟩; replace hO := hO.call hb; clear hb)
      | (go_at_call 12; refine (rperm_calls s _).mono ?_; rintro e ww ⟨rfl, hb⟩; replace hO := hO.call hb; clear hb)
      | (go_at_call 14; refine (octets_calls s _).mono ?_; rintro e ww ⟨g, rfl, hb, hr⟩; replace hO := hO.addRow hb hr; clear hb hr)
      | (go_at_call 15; refine (rocts_calls s _).mono ?_; rintro e ww ⟨a1, c1, rfl, hb, hr⟩; replace hO := hO.addRow hb hr; clear hb hr)
      | (go_at_call 13; refine (same_calls _ _ _ _ _ _ s.octs s.octs _ (hO.rdAt 1 rfl) (hO.rdAt 0 rfl)).mono ?_; rw [decide_eq_true rfl]; rintro e ww ⟨rfl, rfl⟩)
      | ((with_reducible refine gI ?_); refine wpI_step rfl rfl (by first | exact ok_int rfl rfl | exact ok_bool rfl rfl | exact ok_str rfl rfl | exact ok_conv rfl | rfl) ?_; intro K hK; have HK := Lib.hid hK; clear hK) | ((with_reducible refine gI ?_); first | refine wpI_skip rfl ?_ | refine wpI_want rfl ?_) | ((with_reducible refine gOnlyK HK.out ?_ ?_); exact hO.sub (by repeat first | exact List.Sublist.refl _ | apply List.Sublist.cons); clear HK K) | (with_reducible refine wpI_nil ?_))
    go_ret
    exact ⟨rfl, hO.below⟩
  · have hb5 : decide ((100 : Int) < (n : Int)) = true := by simp; omega
    go_enter Tryd.func3, Tryd.ntmps3
    go_wp2_with (first
      | ((with_reducible refine gBox ?_); refine own_box hO 24 _ _ rfl ?_; clear hO; intro b w1 hO; replace hO : Own wn w1 [.blk b (.cells s.C 24 (0,0))] := hO)
      | (go_at_call 8; refine (live_calls _).mono ?_; rintro e ww ⟨rfl, hb⟩; replace hO := hO.call hb; clear hb))
    go_ret
    exact ⟨rfl, hO.below⟩
end Go.Proofs.YtjbbeflmfacmlaaDoor
