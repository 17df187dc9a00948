/- The walk of the document's Of. -/
import Derived.Test.YtekiloagckkneaaDoorPg
import Derived.Test.YtekiloagckkneaaDoorT
namespace Go.Proofs.YtekiloagckkneaaDoor
open Go.RowKit Go.Own Go.Bv Go.Ord Go.Eq

set_option maxHeartbeats 1000000 in
set_option maxRecDepth 100000 in
theorem rofno_calls (a : Option Addr) (n cap : Nat) (h16 : n ≠ 16) (w : World) :
    Calls Tryd.prog 37 #[.slice a n cap] w fun e w' => e = .returned (.tuple #[.agg St.zero.C, .int .i64 2]) ∧ Below w.heap.size w w' := by
  have hO := Own.start w
  have b0 : ((n : Int) != 16) = true := by simp; omega
  generalize hW : w = wn at hO ⊢
  clear hW w
  go_enter Tryd.func37, Tryd.ntmps37
  go_wp2_with (first
    | ((with_reducible refine gAlloc ?_); refine own_alloc hO 24 _ iwz ?_; clear hO; intro b w1 hO)
    | ((with_reducible refine gLoad ?_); first | refine ld_blk hO 0 rfl rfl rfl (tA rfl) ?_ | refine ld_all hO 0 rfl rfl (tA rfl) (tS rfl) ?_)
    | ((with_reducible refine gStore ?_); first | (refine st_blk hO 0 rfl rfl rfl (ltb rfl) rfl (tS rfl) ?_; clear hO; intro ww hO) | (refine st_all hO 0 rfl rfl rfl rfl rfl rfl (tS rfl) ?_; clear hO; intro ww hO)))
  refine bodyPost_ret (res_ct rfl _ _ b 24 St.zero.C (0,0) _ rfl (hO.blk 0 rfl) Tryd.underlying24 rfl (iws' _)) rfl ⟨rfl, hO.below⟩

set_option maxHeartbeats 2000000 in
set_option maxRecDepth 100000 in
theorem rof16_calls (a : Option Addr) (cap : Nat) (bs : List (BitVec 8)) (w : World) (hR : Rd w 1 a 16 cap (u8s bs)) :
    Calls Tryd.prog 37 #[.slice a 16 cap] w fun e w' => e = .returned (.tuple #[.agg (St.of bs).C, .int .i64 0]) ∧ Below w.heap.size w w' := by
  have hO := Own.start w
  have hlen : bs.length = 16 := by have := hR.len; rw [u8s_length] at this; omega
  obtain ⟨b0, off, rfl⟩ := hR.place (by omega)
  have hle := hR.le
  have d0 : ¬ cap = 4 := by omega
  have d1 : ¬ cap = 8 := by omega
  have d2 : ¬ cap = 12 := by omega
  match bs, hlen with
  | [x0, x1, x2, x3, x4, x5, x6, x7, x8, x9, x10, x11, x12, x13, x14, x15], _ =>
    have hA : Hid (Rd w 1 (some ⟨b0, off, none⟩) 4 cap (u8s [x0, x1, x2, x3])) := by
      have h := hR.take 4 (by omega)
      exact h
    have hB : Hid (Rd w 1 (some ⟨b0, off + 4, none⟩) 4 (cap - 4) (u8s [x4, x5, x6, x7])) := hR.cut 4 4 (by omega)
    have hC : Hid (Rd w 1 (some ⟨b0, off + 8, none⟩) 4 (cap - 8) (u8s [x8, x9, x10, x11])) := hR.cut 8 4 (by omega)
    have hD : Hid (Rd w 1 (some ⟨b0, off + 12, none⟩) 4 (cap - 12) (u8s [x12, x13, x14, x15])) := hR.cut 12 4 (by omega)
    clear hR
    generalize hW : w = wn at hO hA hB hC hD ⊢
    clear hW w
    go_enter Tryd.func37, Tryd.ntmps37
    go_wp2_with (first
      | ((with_reducible refine gAlloc ?_); refine own_alloc hO 24 _ iwz ?_; clear hO; intro b w1 hO))
    refine wp_region_text (by kernel_rfl) (by kernel_rfl) ?_
    replace hO := hO.drew
    generalize World.drew _ = wd at hO ⊢
    go_wp2_with (first
      | (go_at_call 43; (with_reducible refine gCall #[.slice (some ⟨b0, off, none⟩) 4 cap] ?_); refine (four_calls _ _ _ x0 x1 x2 x3 _ (hO.rd hA.out)).mono ?_; rintro e ww ⟨rfl, hb⟩; replace hO := hO.call hb; clear hb)
      | (go_at_call 43; (with_reducible refine gCall #[.slice (some ⟨b0, off + 4, none⟩) 4 (cap - 4)] ?_); refine (four_calls _ _ _ x4 x5 x6 x7 _ (hO.rd hB.out)).mono ?_; rintro e ww ⟨rfl, hb⟩; replace hO := hO.call hb; clear hb)
      | (go_at_call 43; (with_reducible refine gCall #[.slice (some ⟨b0, off + 8, none⟩) 4 (cap - 8)] ?_); refine (four_calls _ _ _ x8 x9 x10 x11 _ (hO.rd hC.out)).mono ?_; rintro e ww ⟨rfl, hb⟩; replace hO := hO.call hb; clear hb)
      | (go_at_call 43; (with_reducible refine gCall #[.slice (some ⟨b0, off + 12, none⟩) 4 (cap - 12)] ?_); refine (four_calls _ _ _ x12 x13 x14 x15 _ (hO.rd hD.out)).mono ?_; rintro e ww ⟨rfl, hb⟩; replace hO := hO.call hb; clear hb)
      | ((with_reducible refine gLoad ?_); first | refine ld_blk hO 0 rfl rfl rfl (tA rfl) ?_ | refine ld_all hO 0 rfl rfl (tA rfl) (tS rfl) ?_)
      | ((with_reducible refine gStore ?_); first | (refine st_blk hO 0 rfl rfl rfl (ltb rfl) rfl (tS rfl) ?_; clear hO; intro ww hO) | (refine st_all hO 0 rfl rfl rfl rfl rfl rfl (tS rfl) ?_; clear hO; intro ww hO))
      | ((with_reducible refine gI ?_); refine wpI_step rfl rfl (by kernel_rfl) ?_; intro K hK; have HK := Lib.hid hK; clear hK) | ((with_reducible refine gI ?_); first | refine wpI_skip rfl ?_ | refine wpI_want rfl ?_) | ((with_reducible refine gOnlyK0 HK.out ?_); clear HK K; first | (refine wpI_act (by simp only [Act.put, List.setIfInBounds_toArray, List.set_cons_succ, List.set_cons_zero]; rfl) ?_) | skip) | (with_reducible refine wpI_nil ?_))
    refine bodyPost_ret (res_ct rfl _ _ b 24 (St.mk (of4 x0 x1 x2 x3) (of4 x4 x5 x6 x7) (of4 x8 x9 x10 x11) (of4 x12 x13 x14 x15)).C (0,0) _ rfl (hO.blk 0 rfl) Tryd.underlying24 rfl (iws' _)) rfl ⟨rfl, hO.below⟩
theorem rof_calls (a : Option Addr) (n cap : Nat) (bs : List (BitVec 8)) (w : World) (hR : Rd w 1 a n cap (u8s bs)) :
    Calls Tryd.prog 37 #[.slice a n cap] w fun e w' => e = .returned (.tuple #[.agg (ofT bs).C, .int .i64 (ofE bs)]) ∧ Below w.heap.size w w' := by
  have hlen : bs.length = n := by have := hR.len; rw [u8s_length] at this; omega
  unfold ofT ofE
  by_cases h : n = 16
  · subst h
    rw [if_pos hlen, if_pos hlen]
    exact rof16_calls a cap bs w hR
  · rw [if_neg (by omega), if_neg (by omega)]
    exact rofno_calls a n cap h w
end Go.Proofs.YtekiloagckkneaaDoor
