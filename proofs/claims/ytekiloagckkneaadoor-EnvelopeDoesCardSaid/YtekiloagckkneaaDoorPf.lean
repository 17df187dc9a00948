/- Walks: the document's answer for layer 8: turned, round, Perm, octets, Octets, four, Of. -/
import Derived.Test.YtekiloagckkneaaDoorPe
import Derived.Test.YtekiloagckkneaaDoorG
import Derived.Test.YtekiloagckkneaaDoorT
import Derived.Test.YtekiloagckkneaaDoorV
namespace Go.Proofs.YtekiloagckkneaaDoor
open Go.RowKit Go.Own Go.Bv Go.Ord Go.Eq

set_option maxHeartbeats 1000000 in
theorem turned_calls (x : BitVec 32) (k : Nat) (hk : k = 16 ∨ k = 12 ∨ k = 8 ∨ k = 7) (w : World) :
    Calls Tryd.prog 48 #[.int .u32 (x.toNat : Int), .int .i64 (k : Int)] w fun e w' => e = .returned (.int .u32 ((rot x k).toNat : Int)) ∧ Below w.heap.size w w' := by
  have hO := Own.start w
  generalize hW : w = wn at hO ⊢
  clear hW w
  rcases hk with rfl | rfl | rfl | rfl
  all_goals
    go_enter Tryd.func48, Tryd.ntmps48
    go_wp2
    refine wp_region_text (by kernel_rfl) (by kernel_rfl) ?_
    replace hO := hO.drew
    generalize World.drew _ = wd at hO ⊢
    go_wp2_with (first | ((with_reducible refine Go.Bva.gBin (op := .add) ?_); first | refine Go.Bva.add_u32 rfl rfl ?_ | refine Go.Bva.add_u32 rfl (Go.Bva.ku32 rfl (by decide)) ?_) | ((with_reducible refine Go.Bva.gBin (op := .sub) ?_); first | refine Go.Bva.sub_u32 rfl rfl ?_ | refine Go.Bva.sub_u32 rfl (Go.Bva.ku32 rfl (by decide)) ?_) | ((with_reducible refine Go.Bva.gBin (op := .mul) ?_); first | refine Go.Bva.mul_u32 rfl rfl ?_ | refine Go.Bva.mul_u32 rfl (Go.Bva.ku32 rfl (by decide)) ?_) | ((with_reducible refine Go.Bva.gBin (op := .xor) ?_); first | refine Go.Bva.xor_u32 rfl rfl ?_ | refine Go.Bva.xor_u32 rfl (Go.Bva.ku32 rfl (by decide)) ?_) | ((with_reducible refine Go.Bva.gBin (op := .or) ?_); first | refine Go.Bva.or_u32 rfl rfl ?_ | refine Go.Bva.or_u32 rfl (Go.Bva.ku32 rfl (by decide)) ?_) | ((with_reducible refine Go.Bva.gBin (op := .shl) ?_); first | refine Go.Bva.shl_u32 rfl rfl (by decide) ?_) | ((with_reducible refine Go.Bva.gBin (op := .shr) ?_); first | refine Go.Bva.shr_u32 rfl rfl (by decide) ?_) | ((with_reducible refine gI ?_); refine wpI_step rfl rfl (by kernel_rfl) ?_; intro K hK; have HK := Lib.hid hK; clear hK) | ((with_reducible refine gI ?_); first | refine wpI_skip rfl ?_ | refine wpI_want rfl ?_) | ((with_reducible refine gOnlyK0 HK.out ?_); clear HK K; first | (refine wpI_act (by simp only [Act.put, List.setIfInBounds_toArray, List.set_cons_succ, List.set_cons_zero]; rfl) ?_) | skip) | (with_reducible refine wpI_nil ?_))
    go_ret
    exact ⟨rfl, hO.below⟩

theorem turned16 (x : BitVec 32) (w : World) : Calls Tryd.prog 48 #[.int .u32 (x.toNat : Int), .int .i64 16] w fun e w' => e = .returned (.int .u32 ((rot x 16).toNat : Int)) ∧ Below w.heap.size w w' := turned_calls x 16 (by decide) w
theorem turned12 (x : BitVec 32) (w : World) : Calls Tryd.prog 48 #[.int .u32 (x.toNat : Int), .int .i64 12] w fun e w' => e = .returned (.int .u32 ((rot x 12).toNat : Int)) ∧ Below w.heap.size w w' := turned_calls x 12 (by decide) w
theorem turned8 (x : BitVec 32) (w : World) : Calls Tryd.prog 48 #[.int .u32 (x.toNat : Int), .int .i64 8] w fun e w' => e = .returned (.int .u32 ((rot x 8).toNat : Int)) ∧ Below w.heap.size w w' := turned_calls x 8 (by decide) w
theorem turned7 (x : BitVec 32) (w : World) : Calls Tryd.prog 48 #[.int .u32 (x.toNat : Int), .int .i64 7] w fun e w' => e = .returned (.int .u32 ((rot x 7).toNat : Int)) ∧ Below w.heap.size w w' := turned_calls x 7 (by decide) w
theorem ofNat_succ (k : Nat) : BitVec.ofNat 32 k + BitVec.ofInt 32 1 = BitVec.ofNat 32 (k + 1) := by
  apply BitVec.eq_of_toNat_eq
  simp
theorem key_eq (k : Nat) : Go.Bva.bmul (Go.Bva.badd (BitVec.ofNat 32 k) (Go.Bva.bk 1)) (Go.Bva.bk 2654435769) = St.key (k + 1) := by
  unfold Go.Bva.bmul Go.Bva.badd Go.Bva.bk
  rw [ofNat_succ]; rfl

set_option maxHeartbeats 2000000 in
set_option maxRecDepth 100000 in
theorem round_calls (s : St) (k : Nat) (K : BitVec 32) (hK : Go.Bva.bmul (Go.Bva.badd K (Go.Bva.bk 1)) (Go.Bva.bk 2654435769) = St.key (k + 1)) (w : World) :
    Calls Tryd.prog 46 #[.agg s.C, .int .u32 (K.toNat : Int)] w fun e w' => e = .returned (.agg (St.round k s).C) ∧ Below w.heap.size w w' := by
  have hO := Own.start w
  generalize hW : w = wn at hO ⊢
  clear hW w
  have HK := Lib.hid hK
  clear hK
  go_enter Tryd.func46, Tryd.ntmps46
  go_wp2_with (first
    | ((with_reducible refine gBox ?_); refine own_box hO 24 _ _ rfl ?_; clear hO; intro b w1 hO)
    | ((with_reducible refine gAlloc ?_); refine own_alloc hO 24 _ iwz ?_; clear hO; intro r w2 hO)
    | ((with_reducible refine gLoad ?_); first | refine ld_blk hO 0 rfl rfl rfl (tA rfl) ?_ | refine ld_all hO 0 rfl rfl (tA rfl) (tS rfl) ?_ | refine ld_blk hO 1 rfl rfl rfl (tA rfl) ?_ | refine ld_all hO 1 rfl rfl (tA rfl) (tS rfl) ?_)
    | ((with_reducible refine gStore ?_); first | (refine st_blk hO 0 rfl rfl rfl (ltb rfl) rfl (tS rfl) ?_; clear hO; intro ww hO) | (refine st_all hO 0 rfl rfl rfl rfl rfl rfl (tS rfl) ?_; clear hO; intro ww hO) | (refine st_blk hO 1 rfl rfl rfl (ltb rfl) rfl (tS rfl) ?_; clear hO; intro ww hO) | (refine st_all hO 1 rfl rfl rfl rfl rfl rfl (tS rfl) ?_; clear hO; intro ww hO))
    | ((with_reducible refine Go.Bva.gBin (op := .add) ?_); first | refine Go.Bva.add_u32 rfl rfl ?_ | refine Go.Bva.add_u32 rfl (Go.Bva.ku32 rfl (by decide)) ?_) | ((with_reducible refine Go.Bva.gBin (op := .sub) ?_); first | refine Go.Bva.sub_u32 rfl rfl ?_ | refine Go.Bva.sub_u32 rfl (Go.Bva.ku32 rfl (by decide)) ?_) | ((with_reducible refine Go.Bva.gBin (op := .mul) ?_); first | refine Go.Bva.mul_u32 rfl rfl ?_ | refine Go.Bva.mul_u32 rfl (Go.Bva.ku32 rfl (by decide)) ?_) | ((with_reducible refine Go.Bva.gBin (op := .xor) ?_); first | refine Go.Bva.xor_u32 rfl rfl ?_ | refine Go.Bva.xor_u32 rfl (Go.Bva.ku32 rfl (by decide)) ?_) | ((with_reducible refine Go.Bva.gBin (op := .or) ?_); first | refine Go.Bva.or_u32 rfl rfl ?_ | refine Go.Bva.or_u32 rfl (Go.Bva.ku32 rfl (by decide)) ?_) | ((with_reducible refine Go.Bva.gBin (op := .shl) ?_); first | refine Go.Bva.shl_u32 rfl rfl (by decide) ?_) | ((with_reducible refine Go.Bva.gBin (op := .shr) ?_); first | refine Go.Bva.shr_u32 rfl rfl (by decide) ?_)
    | (go_at_call 48; (with_reducible refine gCall #[_, .int .i64 16] ?_); refine (turned16 _ _).mono ?_; rintro e ww ⟨rfl, hb⟩; replace hO := hO.call hb; clear hb)
    | (go_at_call 48; (with_reducible refine gCall #[_, .int .i64 12] ?_); refine (turned12 _ _).mono ?_; rintro e ww ⟨rfl, hb⟩; replace hO := hO.call hb; clear hb)
    | (go_at_call 48; (with_reducible refine gCall #[_, .int .i64 8] ?_); refine (turned8 _ _).mono ?_; rintro e ww ⟨rfl, hb⟩; replace hO := hO.call hb; clear hb)
    | (go_at_call 48; (with_reducible refine gCall #[_, .int .i64 7] ?_); refine (turned7 _ _).mono ?_; rintro e ww ⟨rfl, hb⟩; replace hO := hO.call hb; clear hb))
  rw [HK.out] at hO
  refine bodyPost_ret (results_cell_row rfl _ _ r 24 (St.round k s).C (0,0) _ rfl (hO.blk 0 rfl) Tryd.underlying24 rfl (iws' _)) rfl ⟨rfl, hO.below⟩

theorem round_calls' (s : St) (k : Nat) (hk : k < 8) (w : World) :
    Calls Tryd.prog 46 #[.agg s.C, .int .u32 (k : Int)] w fun e w' => e = .returned (.agg (St.round k s).C) ∧ Below w.heap.size w w' := by
  have h := round_calls s k (BitVec.ofNat 32 k) (key_eq k) w
  rw [BitVec.toNat_ofNat, Nat.mod_eq_of_lt (by omega)] at h
  exact h

set_option maxHeartbeats 2000000 in
set_option maxRecDepth 100000 in
theorem rperm_calls (s : St) (w : World) :
    Calls Tryd.prog 44 #[.agg s.C] w fun e w' => e = .returned (.agg s.perm.C) ∧ Below w.heap.size w w' := by
  have hO := Own.start w
  generalize hW : w = wn at hO ⊢
  clear hW w
  go_enter Tryd.func44, Tryd.ntmps44
  go_wp2_with (first
    | ((with_reducible refine gBox ?_); refine own_box hO 24 _ _ rfl ?_; clear hO; intro b w1 hO; replace hO : Own wn w1 [.blk b (.cells s.C 24 (0,0))] := hO)
    | ((with_reducible refine gAlloc ?_); refine own_alloc hO 24 _ iwz ?_; clear hO; intro r w2 hO))
  go_loopg [4] 8 (fun m c wr => ∃ k : Nat, m = 8 - k ∧ k ≤ 8 ∧ c = .int .i64 k ∧ Own wn wr [.blk r (.cells St.zero.C 24 (0,0)), .blk b (.cells (s.rounds k).C 24 (0,0))])
  case atStart => exact ⟨0, rfl, by omega, rfl, hO⟩
  case round =>
    obtain ⟨k, rfl, hk, rfl, hO1⟩ := hrel
    clear hO
    have hO := hO1
    clear hO1
    by_cases hlt : k < 8
    · have hb0 : decide ((k : Int) < 8) = true := by simp; omega
      have HS : Hid (s.rounds (k + 1) = St.round k (s.rounds k)) := rfl
      generalize s.rounds k = u at *
      go_wp2_with (first
        | ((with_reducible refine gLoad ?_); first | refine ld_blk hO 0 rfl rfl rfl (tA rfl) ?_ | refine ld_all hO 0 rfl rfl (tA rfl) (tS rfl) ?_ | refine ld_blk hO 1 rfl rfl rfl (tA rfl) ?_ | refine ld_all hO 1 rfl rfl (tA rfl) (tS rfl) ?_)
        | ((with_reducible refine gStore ?_); first | (refine st_blk hO 0 rfl rfl rfl (ltb rfl) rfl (tS rfl) ?_; clear hO; intro ww hO) | (refine st_all hO 0 rfl rfl rfl rfl rfl rfl (tS rfl) ?_; clear hO; intro ww hO) | (refine st_blk hO 1 rfl rfl rfl (ltb rfl) rfl (tS rfl) ?_; clear hO; intro ww hO) | (refine st_all hO 1 rfl rfl rfl rfl rfl rfl (tS rfl) ?_; clear hO; intro ww hO))
        | (go_at_call 46; refine (round_calls' _ _ hlt _).mono ?_; rintro e ww ⟨rfl, hb⟩; replace hO := hO.call hb; clear hb))
      go_roundg (8 - (k + 1))
      case measure => omega
      case rel => exact ⟨k + 1, rfl, by omega, by go_num, by rw [HS.out]; exact hO⟩
    · obtain rfl : k = 8 := by omega
      go_wp2_with (first
        | ((with_reducible refine gLoad ?_); first | refine ld_blk hO 0 rfl rfl rfl (tA rfl) ?_ | refine ld_all hO 0 rfl rfl (tA rfl) (tS rfl) ?_ | refine ld_blk hO 1 rfl rfl rfl (tA rfl) ?_ | refine ld_all hO 1 rfl rfl (tA rfl) (tS rfl) ?_)
        | ((with_reducible refine gStore ?_); first | (refine st_blk hO 0 rfl rfl rfl (ltb rfl) rfl (tS rfl) ?_; clear hO; intro ww hO) | (refine st_all hO 0 rfl rfl rfl rfl rfl rfl (tS rfl) ?_; clear hO; intro ww hO) | (refine st_blk hO 1 rfl rfl rfl (ltb rfl) rfl (tS rfl) ?_; clear hO; intro ww hO) | (refine st_all hO 1 rfl rfl rfl rfl rfl rfl (tS rfl) ?_; clear hO; intro ww hO)))
      refine bodyPost_ret (results_cell_row rfl _ _ r 24 (s.rounds 8).C (0,0) _ rfl (hO.blk 0 rfl) Tryd.underlying24 rfl (iws' _)) rfl ⟨rfl, hO.below⟩

end Go.Proofs.YtekiloagckkneaaDoor
