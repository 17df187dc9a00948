/- Walks: the document's answer for layer 8: octets, Octets, four. -/
import Derived.Test.YtbgefpmnncaifaaDoorP
import Derived.Test.YtbgefpmnncaifaaDoorG
import Derived.Test.YtbgefpmnncaifaaDoorT
namespace Go.Proofs.YtbgefpmnncaifaaDoor
open Go.RowKit Go.Own Go.Bv Go.Ord Go.Eq


def octsK (s : St) (k : Nat) : List (BitVec 8) := (s.l.take k).flatMap octs4
theorem octsK_all (s : St) : octsK s 4 = s.octs := by simp [octsK, St.l, St.octs]
theorem octsK_len (s : St) (k : Nat) (hk : k ≤ 4) : (octsK s k).length = 4 * k := by
  obtain rfl | rfl | rfl | rfl | rfl : k = 0 ∨ k = 1 ∨ k = 2 ∨ k = 3 ∨ k = 4 := by omega
  all_goals rfl
theorem octsK_succ (s : St) (k : Nat) (hk : k < 4) : octsK s (k + 1) = octsK s k ++ octs4 (s.w k) := by
  obtain rfl | rfl | rfl | rfl : k = 0 ∨ k = 1 ∨ k = 2 ∨ k = 3 := by omega
  all_goals rfl

theorem arr_index (s : St) (w : World) {k : Nat} (hk : k < 4) : (Instr.index 24 (.agg s.C) (.int .i64 (k : Int))).run Tryd.prog w = .ok (.int .u32 ((s.w k).toNat : Int)) w := by
  obtain rfl | rfl | rfl | rfl : k = 0 ∨ k = 1 ∨ k = 2 ∨ k = 3 := by omega
  all_goals kernel_rfl


theorem of4_int (x y z t : BitVec 8) : ((of4 x y z t).toNat : Int) = (x.toNat : Int) + 256 * (y.toNat : Int) + 65536 * (z.toNat : Int) + 16777216 * (t.toNat : Int) := by
  have h := octs4_eq (of4 x y z t)
  rw [octs4_of4] at h
  simp only [u8s, List.map_cons, List.map_nil, List.cons.injEq, Value.int.injEq, true_and, and_true] at h
  obtain ⟨h0, h1, h2, h3⟩ := h
  omega

set_option maxHeartbeats 1000000 in
set_option maxRecDepth 100000 in
theorem four_calls (b off cap : Nat) (x0 x1 x2 x3 : BitVec 8) (w : World) (hR : Rd w 1 (some ⟨b, off, none⟩) 4 cap (u8s [x0, x1, x2, x3])) :
    Calls Tryd.prog 22 #[.slice (some ⟨b, off, none⟩) 4 cap] w fun e w' => e = .returned (.int .u32 ((of4 x0 x1 x2 x3).toNat : Int)) ∧ Below w.heap.size w w' := by
  have hO := Own.start w
  have HR := Lib.hid hR
  clear hR
  have HF := Lib.hid (of4_int x0 x1 x2 x3)
  have l0 := lt8 x0
  have l1 := lt8 x1
  have l2 := lt8 x2
  have l3 := lt8 x3
  have n0 := nn x0
  have n1 := nn x1
  have n2 := nn x2
  have n3 := nn x3
  generalize hW : w = wn at hO HR ⊢
  clear hW w
  go_enter Tryd.func22, Tryd.ntmps22
  go_wp2
  refine wp_region_text (by kernel_rfl) (by kernel_rfl) ?_
  replace hO := hO.drew
  generalize World.drew _ = wd at hO ⊢
  have c0 : wd.cell? ⟨b, off, none⟩ = some (.int .u8 (x0.toNat : Int)) := (hO.rd HR.out).cells rfl 0 _ rfl
  have c1 : wd.cell? ⟨b, off + 1, none⟩ = some (.int .u8 (x1.toNat : Int)) := (hO.rd HR.out).cells rfl 1 _ rfl
  have c2 : wd.cell? ⟨b, off + 2, none⟩ = some (.int .u8 (x2.toNat : Int)) := (hO.rd HR.out).cells rfl 2 _ rfl
  have c3 : wd.cell? ⟨b, off + 3, none⟩ = some (.int .u8 (x3.toNat : Int)) := (hO.rd HR.out).cells rfl 3 _ rfl
  go_wp2_with (first | ((with_reducible refine gI ?_); refine wpI_step rfl rfl (by kernel_rfl) ?_; intro K hK; have HK := Lib.hid hK; clear hK) | ((with_reducible refine gI ?_); first | refine wpI_skip rfl ?_ | refine wpI_want rfl ?_) | ((with_reducible refine gOnlyK0 HK.out ?_); clear HK K; first | (refine wpI_act (by simp only [Act.put, List.setIfInBounds_toArray, List.set_cons_succ, List.set_cons_zero]; rfl) ?_) | skip) | (with_reducible refine wpI_nil ?_))
  go_ret
  exact ⟨by rw [HF.out]; rfl, hO.below⟩
end Go.Proofs.YtbgefpmnncaifaaDoor
