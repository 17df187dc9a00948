/- Walks: the reader's octet, slices.Clone of octets, NewReader. -/
import Derived.Test.YtnkpjmcgecdkfaaKl
namespace Go.Kc
open Go.Bv
theorem or_byte (c x : Nat) (hc : c < 16777216) (hx : x < 256) : Go.bits .or .u32 ((c : Int) * 256) (x : Int) = ((c * 256 + x : Nat) : Int) := by
  have h := or32 (BitVec.ofNat 32 (c * 256)) (BitVec.ofNat 32 x)
  rw [BitVec.toNat_or, BitVec.toNat_ofNat, BitVec.toNat_ofNat, Nat.mod_eq_of_lt (by omega), Nat.mod_eq_of_lt (by omega)] at h
  rw [show ((c : Int) * 256) = ((c * 256 : Nat) : Int) by omega, h, show c * 256 = c <<< 8 by rw [Nat.shiftLeft_eq], Nat.shiftLeft_add_eq_or_of_lt (by omega)]
end Go.Kc
namespace Go.Own
open Go.RowKit
/-- the first three -/
theorem Own.take3 {w0 w : World} {L : List Res} {x y z : Res} (h : Own w0 w (x :: y :: z :: L)) : Own w0 w [x, y, z] :=
  h.sub (List.Sublist.cons_cons _ (List.Sublist.cons_cons _ (List.Sublist.cons_cons _ (List.nil_sublist _))))
end Go.Own
namespace Go.Proofs.Ytnkpjmcgecdkfaa
open Go.RowKit Go.Own Go.Bv Go.Ord Go.Eq Go.Opn Go.Pb

def rC (pS bS : Value) (used span code : Nat) : Array Value := #[pS, bS, .int .i64 (used : Int), .int .u32 (span : Int), .int .u32 (code : Int)]

set_option maxHeartbeats 2000000 in
set_option maxRecDepth 100000 in
theorem octet_calls {w0 w : World} {L : List Res} {rb : Nat} {pS : Value} {aB : Option Addr} {m cB used span code : Nat} (b : List (BitVec 8)) (c : BitVec 8) (hc : b[used]? = some c) (hu : used < m) (hm : m ≤ 10000000) (hcd : code < 16777216) (C : Nat) (hC : code * 256 + c.toNat = C)
    (hO : Own w0 w (.blk rb (.cells (rC pS (.slice aB m cB) used span code) 91 (0,0)) :: .sl 5 1 (.slice aB m cB) m (u8s b) :: L)) :
    Calls Try.prog 51 #[.pointer (some ⟨rb, 0, none⟩)] w fun e w' => e = .returned (.tuple #[]) ∧
      Own w0 w' (.blk rb (.cells (rC pS (.slice aB m cB) (used + 1) span C) 91 (0,0)) :: .sl 5 1 (.slice aB m cB) m (u8s b) :: L) := by
  obtain ⟨gB, rfl⟩ := hO.slPlace 1 rfl (by omega)
  have hg : (u8s b)[used]? = some (.int .u8 (c.toNat : Int)) := by
    obtain ⟨h1, h2⟩ := List.getElem?_eq_some_iff.1 hc
    rw [u8s_get b used h1, h2]
  have HG := Lib.hid hg
  have hcl := c.isLt
  have e2 : bits .or .u32 ((code : Int) * 256) (c.toNat : Int) = (C : Int) := by rw [Go.Kc.or_byte code c.toNat hcd hcl, hC]
  have e1 : IntKind.u32.wrap ((code : Int) * 256) = (code : Int) * 256 := by simp [IntKind.wrap, IntKind.bits, IntKind.signed]; omega
  have e3 : IntKind.u32.wrap (c.toNat : Int) = (c.toNat : Int) := by simp [IntKind.wrap, IntKind.bits, IntKind.signed]; omega
  have e4 : IntKind.i64.wrap ((used : Int) + 1) = (used : Int) + 1 := by rw [IntKind.wrap_i64]; omega
  clear hc hC hg
  go_enter Try.func51, Try.ntmps51
  go_wp2
  refine wp_region_textS (fun w' => Own w0 w' (.blk rb (.cells (rC pS (.slice (some ⟨gB, 0, none⟩) m cB) used span code) 91 (0,0)) :: .sl 5 1 (.slice (some ⟨gB, 0, none⟩) m cB) m (u8s b) :: L)) (fun op => match op with | .load _ _ => true | _ => false) (by kernel_rfl) (by kernel_rfl) hO.drew ?_
  replace hO := hO.drew
  generalize World.drew _ = wd at hO ⊢
  go_wp2_with (first
    | (((with_reducible refine gIL ?_); first | refine wpI_ldcS (fun w' hS => hS.blk 0 rfl) rfl rfl (tA rfl) rfl ?_); first | (refine wpI_act (by simp only [Act.put, List.setIfInBounds_toArray, List.set_cons_succ, List.set_cons_zero]; rfl) ?_) | skip)
    | ((with_reducible refine gIL ?_); refine wpI_ld1S (fun w' hS => (hS.slCell 1 rfl (by omega)).trans HG.out) rfl rfl (tA rfl) ?_; first | (refine wpI_act (by simp only [Act.put, List.setIfInBounds_toArray, List.set_cons_succ, List.set_cons_zero]; rfl) ?_) | skip)
    | ((with_reducible refine gIS1 ?_); refine wpI_last (by kernel_rfl) rfl rfl (by kernel_rfl) ?_; intro K hK; have HK := Lib.hid hK; clear hK) | ((with_reducible refine gOnlyK0 HK.out ?_); clear HK K)
    | ((with_reducible refine gStore ?_); first | (refine stX hO 0 rfl rfl rfl rfl rfl (tS rfl) ?_; clear hO; intro ww hO) | (refine stC hO 0 rfl rfl rfl (ltb rfl) rfl (tS rfl) ?_; clear hO; intro ww hO))
    | ((with_reducible refine gLoad ?_); first | refine ldX hO 0 rfl rfl (tA rfl) (tS rfl) ?_ | refine ldC hO 0 rfl rfl (tA rfl) rfl ?_)
    | ((with_reducible refine gI ?_); refine wpI_step rfl rfl (by kernel_rfl) ?_; intro K hK; have HK := Lib.hid hK; clear hK) | ((with_reducible refine gI ?_); first | refine wpI_skip rfl ?_ | refine wpI_want rfl ?_) | ((with_reducible refine gOnlyK HK.out ?_ ?_); exact hO; clear HK K; first | (refine wpI_act (by simp only [Act.put, List.setIfInBounds_toArray, List.set_cons_succ, List.set_cons_zero]; rfl) ?_) | skip) | (with_reducible refine wpI_nil ?_))
  refine bodyPost_end (results_none rfl _ _ _) rfl ?_
  exact ⟨rfl, hO⟩
end Go.Proofs.Ytnkpjmcgecdkfaa
