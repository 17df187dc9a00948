/- Of several texts of this claim, one behind the other: Pf Pg Pj Pi PSq Pk OF Vh Vs Vt Vg. -/
import Derived.Test.YtniibdglodnhoaaGreatDoorU3
import Derived.Test.YtniibdglodnhoaaGreatDoorPe
import Derived.Test.YtniibdglodnhoaaGreatDoorP
import Derived.Deep.CutRange
import Derived.Deep.CutBlock
import Derived.Test.YtniibdglodnhoaaGreatDoorO
import Derived.Lib.AppendZeros
import Derived.Lib.LazyBuf

/- Walks: the document's answer for layer 8: turned, round, Perm, octets, Octets, four, Of. -/
namespace Go.Proofs.YtniibdglodnhoaaGreatDoor
open Go.RowKit Go.Own Go.Bv Go.Ord Go.Eq

set_option maxHeartbeats 1000000 in
theorem turned_calls (x : BitVec 32) (k : Nat) (hk : k = 16 ∨ k = 12 ∨ k = 8 ∨ k = 7) (w : World) :
    Calls Tryz.prog 123 #[.int .u32 (x.toNat : Int), .int .i64 (k : Int)] w fun e w' => e = .returned (.int .u32 ((rot x k).toNat : Int)) ∧ Below w.heap.size w w' := by
  have hO := Own.start w
  generalize hW : w = wn at hO ⊢
  clear hW w
  rcases hk with rfl | rfl | rfl | rfl
  all_goals
    go_enter Tryz.func123, Tryz.ntmps123
    go_wp2
    refine wp_region_text (by kernel_rfl) (by kernel_rfl) ?_
    replace hO := hO.drew
    generalize World.drew _ = wd at hO ⊢
    go_wp2_with (first | ((with_reducible refine Go.Bva.gBin (op := .add) ?_); first | refine Go.Bva.add_u32 rfl rfl ?_ | refine Go.Bva.add_u32 rfl (Go.Bva.ku32 rfl (by decide)) ?_) | ((with_reducible refine Go.Bva.gBin (op := .sub) ?_); first | refine Go.Bva.sub_u32 rfl rfl ?_ | refine Go.Bva.sub_u32 rfl (Go.Bva.ku32 rfl (by decide)) ?_) | ((with_reducible refine Go.Bva.gBin (op := .mul) ?_); first | refine Go.Bva.mul_u32 rfl rfl ?_ | refine Go.Bva.mul_u32 rfl (Go.Bva.ku32 rfl (by decide)) ?_) | ((with_reducible refine Go.Bva.gBin (op := .xor) ?_); first | refine Go.Bva.xor_u32 rfl rfl ?_ | refine Go.Bva.xor_u32 rfl (Go.Bva.ku32 rfl (by decide)) ?_) | ((with_reducible refine Go.Bva.gBin (op := .or) ?_); first | refine Go.Bva.or_u32 rfl rfl ?_ | refine Go.Bva.or_u32 rfl (Go.Bva.ku32 rfl (by decide)) ?_) | ((with_reducible refine Go.Bva.gBin (op := .shl) ?_); first | refine Go.Bva.shl_u32 rfl rfl (by decide) ?_) | ((with_reducible refine Go.Bva.gBin (op := .shr) ?_); first | refine Go.Bva.shr_u32 rfl rfl (by decide) ?_) | ((with_reducible refine gI ?_); refine wpI_step rfl rfl (by kernel_rfl) ?_; intro K hK; have HK := Lib.hid hK; clear hK) | ((with_reducible refine gI ?_); first | refine wpI_skip rfl ?_ | refine wpI_want rfl ?_) | ((with_reducible refine gOnlyK0 HK.out ?_); clear HK K; first | (refine wpI_act (by simp only [Act.put, List.setIfInBounds_toArray, List.set_cons_succ, List.set_cons_zero]; rfl) ?_) | skip) | (with_reducible refine wpI_nil ?_))
    go_ret
    exact ⟨rfl, hO.below⟩

theorem turned16 (x : BitVec 32) (w : World) : Calls Tryz.prog 123 #[.int .u32 (x.toNat : Int), .int .i64 16] w fun e w' => e = .returned (.int .u32 ((rot x 16).toNat : Int)) ∧ Below w.heap.size w w' := turned_calls x 16 (by decide) w
theorem turned12 (x : BitVec 32) (w : World) : Calls Tryz.prog 123 #[.int .u32 (x.toNat : Int), .int .i64 12] w fun e w' => e = .returned (.int .u32 ((rot x 12).toNat : Int)) ∧ Below w.heap.size w w' := turned_calls x 12 (by decide) w
theorem turned8 (x : BitVec 32) (w : World) : Calls Tryz.prog 123 #[.int .u32 (x.toNat : Int), .int .i64 8] w fun e w' => e = .returned (.int .u32 ((rot x 8).toNat : Int)) ∧ Below w.heap.size w w' := turned_calls x 8 (by decide) w
theorem turned7 (x : BitVec 32) (w : World) : Calls Tryz.prog 123 #[.int .u32 (x.toNat : Int), .int .i64 7] w fun e w' => e = .returned (.int .u32 ((rot x 7).toNat : Int)) ∧ Below w.heap.size w w' := turned_calls x 7 (by decide) w
theorem ofNat_succ (k : Nat) : BitVec.ofNat 32 k + BitVec.ofInt 32 1 = BitVec.ofNat 32 (k + 1) := by
  apply BitVec.eq_of_toNat_eq
  simp
theorem key_eq (k : Nat) : Go.Bva.bmul (Go.Bva.badd (BitVec.ofNat 32 k) (Go.Bva.bk 1)) (Go.Bva.bk 2654435769) = St.key (k + 1) := by
  unfold Go.Bva.bmul Go.Bva.badd Go.Bva.bk
  rw [ofNat_succ]; rfl

set_option maxHeartbeats 2000000 in
set_option maxRecDepth 100000 in
theorem round_calls (s : St) (k : Nat) (K : BitVec 32) (hK : Go.Bva.bmul (Go.Bva.badd K (Go.Bva.bk 1)) (Go.Bva.bk 2654435769) = St.key (k + 1)) (w : World) :
    Calls Tryz.prog 118 #[.agg s.C, .int .u32 (K.toNat : Int)] w fun e w' => e = .returned (.agg (St.round k s).C) ∧ Below w.heap.size w w' := by
  have hO := Own.start w
  generalize hW : w = wn at hO ⊢
  clear hW w
  have HK := Lib.hid hK
  clear hK
  go_enter Tryz.func118, Tryz.ntmps118
  go_wp2_with (first
    | ((with_reducible refine gBox ?_); refine own_box hO 24 _ _ rfl ?_; clear hO; intro b w1 hO)
    | ((with_reducible refine gAlloc ?_); refine own_alloc hO 24 _ iwz ?_; clear hO; intro r w2 hO)
    | ((with_reducible refine gLoad ?_); first | refine ld_blk hO 0 rfl rfl rfl (tA rfl) ?_ | refine ld_all hO 0 rfl rfl (tA rfl) (tS rfl) ?_ | refine ld_blk hO 1 rfl rfl rfl (tA rfl) ?_ | refine ld_all hO 1 rfl rfl (tA rfl) (tS rfl) ?_)
    | ((with_reducible refine gStore ?_); first | (refine st_blk hO 0 rfl rfl rfl (ltb rfl) rfl (tS rfl) ?_; clear hO; intro ww hO) | (refine st_all hO 0 rfl rfl rfl rfl rfl rfl (tS rfl) ?_; clear hO; intro ww hO) | (refine st_blk hO 1 rfl rfl rfl (ltb rfl) rfl (tS rfl) ?_; clear hO; intro ww hO) | (refine st_all hO 1 rfl rfl rfl rfl rfl rfl (tS rfl) ?_; clear hO; intro ww hO))
    | ((with_reducible refine Go.Bva.gBin (op := .add) ?_); first | refine Go.Bva.add_u32 rfl rfl ?_ | refine Go.Bva.add_u32 rfl (Go.Bva.ku32 rfl (by decide)) ?_) | ((with_reducible refine Go.Bva.gBin (op := .sub) ?_); first | refine Go.Bva.sub_u32 rfl rfl ?_ | refine Go.Bva.sub_u32 rfl (Go.Bva.ku32 rfl (by decide)) ?_) | ((with_reducible refine Go.Bva.gBin (op := .mul) ?_); first | refine Go.Bva.mul_u32 rfl rfl ?_ | refine Go.Bva.mul_u32 rfl (Go.Bva.ku32 rfl (by decide)) ?_) | ((with_reducible refine Go.Bva.gBin (op := .xor) ?_); first | refine Go.Bva.xor_u32 rfl rfl ?_ | refine Go.Bva.xor_u32 rfl (Go.Bva.ku32 rfl (by decide)) ?_) | ((with_reducible refine Go.Bva.gBin (op := .or) ?_); first | refine Go.Bva.or_u32 rfl rfl ?_ | refine Go.Bva.or_u32 rfl (Go.Bva.ku32 rfl (by decide)) ?_) | ((with_reducible refine Go.Bva.gBin (op := .shl) ?_); first | refine Go.Bva.shl_u32 rfl rfl (by decide) ?_) | ((with_reducible refine Go.Bva.gBin (op := .shr) ?_); first | refine Go.Bva.shr_u32 rfl rfl (by decide) ?_)
    | (go_at_call 123; (with_reducible refine gCall #[_, .int .i64 16] ?_); refine (turned16 _ _).mono ?_; rintro e ww ⟨rfl, hb⟩; replace hO := hO.call hb; clear hb)
    | (go_at_call 123; (with_reducible refine gCall #[_, .int .i64 12] ?_); refine (turned12 _ _).mono ?_; rintro e ww ⟨rfl, hb⟩; replace hO := hO.call hb; clear hb)
    | (go_at_call 123; (with_reducible refine gCall #[_, .int .i64 8] ?_); refine (turned8 _ _).mono ?_; rintro e ww ⟨rfl, hb⟩; replace hO := hO.call hb; clear hb)
    | (go_at_call 123; (with_reducible refine gCall #[_, .int .i64 7] ?_); refine (turned7 _ _).mono ?_; rintro e ww ⟨rfl, hb⟩; replace hO := hO.call hb; clear hb))
  rw [HK.out] at hO
  refine bodyPost_ret (results_cell_row rfl _ _ r 24 (St.round k s).C (0,0) _ rfl (hO.blk 0 rfl) Tryz.underlying24 rfl (iws' _)) rfl ⟨rfl, hO.below⟩

theorem round_calls' (s : St) (k : Nat) (hk : k < 8) (w : World) :
    Calls Tryz.prog 118 #[.agg s.C, .int .u32 (k : Int)] w fun e w' => e = .returned (.agg (St.round k s).C) ∧ Below w.heap.size w w' := by
  have h := round_calls s k (BitVec.ofNat 32 k) (key_eq k) w
  rw [BitVec.toNat_ofNat, Nat.mod_eq_of_lt (by omega)] at h
  exact h

set_option maxHeartbeats 2000000 in
set_option maxRecDepth 100000 in
theorem rperm_calls (s : St) (w : World) :
    Calls Tryz.prog 105 #[.agg s.C] w fun e w' => e = .returned (.agg s.perm.C) ∧ Below w.heap.size w w' := by
  have hO := Own.start w
  generalize hW : w = wn at hO ⊢
  clear hW w
  go_enter Tryz.func105, Tryz.ntmps105
  go_wp2_with (first
    | ((with_reducible refine gBox ?_); refine own_box hO 24 _ _ rfl ?_; clear hO; intro b w1 hO; replace hO : Own wn w1 [.blk b (.cells s.C 24 (0,0))] := hO)
    | ((with_reducible refine gAlloc ?_); refine own_alloc hO 24 _ iwz ?_; clear hO; intro r w2 hO))
  go_loopg [4] 8 (fun m c wr => ∃ k : Nat, m = 8 - k ∧ k ≤ 8 ∧ c = .int .i64 k ∧ Own wn wr [.blk r (.cells St.zero.C 24 (0,0)), .blk b (.cells (s.rounds k).C 24 (0,0))])
  case atStart => exact ⟨0, rfl, by omega, rfl, hO⟩
  case round =>
    obtain ⟨k, rfl, hk, rfl, hO1⟩ := hrel
    clear hO
    have hO := hO1
    clear hO1
    by_cases hlt : k < 8
    · have hb0 : decide ((k : Int) < 8) = true := by simp; omega
      have HS : Hid (s.rounds (k + 1) = St.round k (s.rounds k)) := rfl
      generalize s.rounds k = u at *
      go_wp2_with (first
        | ((with_reducible refine gLoad ?_); first | refine ld_blk hO 0 rfl rfl rfl (tA rfl) ?_ | refine ld_all hO 0 rfl rfl (tA rfl) (tS rfl) ?_ | refine ld_blk hO 1 rfl rfl rfl (tA rfl) ?_ | refine ld_all hO 1 rfl rfl (tA rfl) (tS rfl) ?_)
        | ((with_reducible refine gStore ?_); first | (refine st_blk hO 0 rfl rfl rfl (ltb rfl) rfl (tS rfl) ?_; clear hO; intro ww hO) | (refine st_all hO 0 rfl rfl rfl rfl rfl rfl (tS rfl) ?_; clear hO; intro ww hO) | (refine st_blk hO 1 rfl rfl rfl (ltb rfl) rfl (tS rfl) ?_; clear hO; intro ww hO) | (refine st_all hO 1 rfl rfl rfl rfl rfl rfl (tS rfl) ?_; clear hO; intro ww hO))
        | (go_at_call 118; refine (round_calls' _ _ hlt _).mono ?_; rintro e ww ⟨rfl, hb⟩; replace hO := hO.call hb; clear hb))
      go_roundg (8 - (k + 1))
      case measure => omega
      case rel => exact ⟨k + 1, rfl, by omega, by go_num, by rw [HS.out]; exact hO⟩
    · obtain rfl : k = 8 := by omega
      go_wp2_with (first
        | ((with_reducible refine gLoad ?_); first | refine ld_blk hO 0 rfl rfl rfl (tA rfl) ?_ | refine ld_all hO 0 rfl rfl (tA rfl) (tS rfl) ?_ | refine ld_blk hO 1 rfl rfl rfl (tA rfl) ?_ | refine ld_all hO 1 rfl rfl (tA rfl) (tS rfl) ?_)
        | ((with_reducible refine gStore ?_); first | (refine st_blk hO 0 rfl rfl rfl (ltb rfl) rfl (tS rfl) ?_; clear hO; intro ww hO) | (refine st_all hO 0 rfl rfl rfl rfl rfl rfl (tS rfl) ?_; clear hO; intro ww hO) | (refine st_blk hO 1 rfl rfl rfl (ltb rfl) rfl (tS rfl) ?_; clear hO; intro ww hO) | (refine st_all hO 1 rfl rfl rfl rfl rfl rfl (tS rfl) ?_; clear hO; intro ww hO)))
      refine bodyPost_ret (results_cell_row rfl _ _ r 24 (s.rounds 8).C (0,0) _ rfl (hO.blk 0 rfl) Tryz.underlying24 rfl (iws' _)) rfl ⟨rfl, hO.below⟩

end Go.Proofs.YtniibdglodnhoaaGreatDoor

/- Walks: the document's answer for layer 8: octets, Octets, four. -/
namespace Go.Proofs.YtniibdglodnhoaaGreatDoor
open Go.RowKit Go.Own Go.Bv Go.Ord Go.Eq

set_option maxHeartbeats 1000000 in
set_option maxRecDepth 100000 in
theorem oct4_calls (s : BitVec 32) (w : World) :
    Calls Tryz.prog 100 #[.int .u32 (s.toNat : Int)] w fun e w' => ∃ g, e = .returned (.slice (some ⟨g, 0, none⟩) 4 4) ∧ Below w.heap.size w w' ∧ w'.ownsRow w.heap.size 5 1 (.slice (some ⟨g, 0, none⟩) 4 4) 4 (u8s (octs4 s)) := by
  have hO := Own.start w
  rw [octs4_eq]
  have b1 := lt32 s
  have b0 := nn s
  generalize hW : w = wn at hO ⊢
  clear hW w
  go_enter Tryz.func100, Tryz.ntmps100
  go_wp2_with ((with_reducible refine gBuild ?_); refine own_build hO 29 4 _ eu8_8 #[.int .u8 ((s.toNat : Int) % 256), .int .u8 ((s.toNat : Int) / 256 % 256), .int .u8 ((s.toNat : Int) / 65536 % 256), .int .u8 ((s.toNat : Int) / 16777216)] (by omega) (by omega) (by simp [go_sem, Instr.fill]) rfl ?_; clear hO; intro g w1 hO)
  go_ret
  exact ⟨g, rfl, hO.below, hO.row 0 rfl⟩

def octsK (s : St) (k : Nat) : List (BitVec 8) := (s.l.take k).flatMap octs4
theorem octsK_all (s : St) : octsK s 4 = s.octs := by simp [octsK, St.l, St.octs]
theorem octsK_succ (s : St) (k : Nat) (hk : k < 4) : octsK s (k + 1) = octsK s k ++ octs4 (s.w k) := by
  obtain rfl | rfl | rfl | rfl : k = 0 ∨ k = 1 ∨ k = 2 ∨ k = 3 := by omega
  all_goals rfl

theorem arr_index (s : St) (w : World) {k : Nat} (hk : k < 4) : (Instr.index 24 (.agg s.C) (.int .i64 (k : Int))).run Tryz.prog w = .ok (.int .u32 ((s.w k).toNat : Int)) w := by
  obtain rfl | rfl | rfl | rfl : k = 0 ∨ k = 1 ∨ k = 2 ∨ k = 3 := by omega
  all_goals kernel_rfl

set_option maxHeartbeats 2000000 in
set_option maxRecDepth 100000 in
theorem rocts_calls (s : St) (w : World) :
    Calls Tryz.prog 64 #[.agg s.C] w fun e w' => ∃ a c, e = .returned (.slice a 16 c) ∧ Below w.heap.size w w' ∧ w'.ownsRow w.heap.size 5 1 (.slice a 16 c) 16 (u8s s.octs) := by
  have hO := Own.start w
  generalize hW : w = wn at hO ⊢
  clear hW w
  go_enter Tryz.func64, Tryz.ntmps64
  go_wp2_with (first
    | ((with_reducible refine gBox ?_); refine own_box hO 24 _ _ rfl ?_; clear hO; intro b w1 hO; replace hO : Own wn w1 [.blk b (.cells s.C 24 (0,0))] := hO)
    | ((with_reducible refine gLoad ?_); first | refine ld_blk hO 0 rfl rfl rfl (tA rfl) ?_ | refine ld_all hO 0 rfl rfl (tA rfl) (tS rfl) ?_))
  replace hO : Own wn w1 [.sl 5 1 (.slice none 0 0) 0 [], .blk b (.cells s.C 24 (0,0))] := hO.add (Below.refl _ _) (World.ownsRow_nil _ _ _ _)
  go_loopg [3, 7] 4 (fun m v c wr => ∃ (k : Nat) (a : Option Addr) (cp : Nat), m = 4 - k ∧ k ≤ 4 ∧ c = .int .i64 k ∧ v = .slice a (4 * k) cp ∧ Own wn wr [.sl 5 1 (.slice a (4 * k) cp) (4 * k) (u8s (octsK s k)), .blk b (.cells s.C 24 (0,0))])
  case atStart => exact ⟨0, none, 0, rfl, by omega, rfl, rfl, hO⟩
  case round =>
    obtain ⟨k, a, cp, rfl, hk, rfl, rfl, hO1⟩ := hrel
    clear hO
    have hO := hO1
    clear hO1
    by_cases hlt : k < 4
    · have hb0 : decide ((k : Int) < 4) = true := by simp; omega
      have HS := Lib.hid (octsK_succ s k hlt)
      have HV : Hid (s.C.toList[k]? = some (.int .u32 ((s.w k).toNat : Int))) := by
        show _ = _
        obtain rfl | rfl | rfl | rfl : k = 0 ∨ k = 1 ∨ k = 2 ∨ k = 3 := by omega
        all_goals rfl
      have hix := fun w : World => arr_index s w hlt
      go_wp2_with (first
        | (go_at_call 100; refine (oct4_calls _ _).mono ?_; rintro e ww ⟨g, rfl, hb, hr⟩; replace hO := hO.addRow hb hr; clear hb hr)
        | ((with_reducible refine gAppend ?_); refine own_append hO 1 _ _ 29 eu8_8 rfl rfl rfl (hO.rdAt 0 rfl) (u8s_one _) (4 * k + 4) rfl (by simp [maxLen]; omega) (by omega) ?_; clear hO; intro a2 c2 w4 hO))
      go_roundg (4 - (k + 1))
      case measure => omega
      case rel =>
        refine ⟨k + 1, a2, c2, rfl, by omega, by go_num, rfl, ?_⟩
        rw [HS.out, u8s_append]
        exact hO.sub (List.Sublist.cons _ (List.Sublist.refl _))
    · obtain rfl : k = 4 := by omega
      rw [octsK_all] at hO
      go_wp2
      go_ret
      exact ⟨a, cp, rfl, hO.below, hO.row 0 rfl⟩

theorem of4_int (x y z t : BitVec 8) : ((of4 x y z t).toNat : Int) = (x.toNat : Int) + 256 * (y.toNat : Int) + 65536 * (z.toNat : Int) + 16777216 * (t.toNat : Int) := by
  have h := octs4_eq (of4 x y z t)
  rw [octs4_of4] at h
  simp only [u8s, List.map_cons, List.map_nil, List.cons.injEq, Value.int.injEq, true_and, and_true] at h
  obtain ⟨h0, h1, h2, h3⟩ := h
  omega

set_option maxHeartbeats 1000000 in
set_option maxRecDepth 100000 in
theorem four_calls (b off cap : Nat) (x0 x1 x2 x3 : BitVec 8) (w : World) (hR : Rd w 1 (some ⟨b, off, none⟩) 4 cap (u8s [x0, x1, x2, x3])) :
    Calls Tryz.prog 73 #[.slice (some ⟨b, off, none⟩) 4 cap] w fun e w' => e = .returned (.int .u32 ((of4 x0 x1 x2 x3).toNat : Int)) ∧ Below w.heap.size w w' := by
  have hO := Own.start w
  have HR := Lib.hid hR
  clear hR
  have HF := Lib.hid (of4_int x0 x1 x2 x3)
  have l0 := lt8 x0
  have l1 := lt8 x1
  have l2 := lt8 x2
  have l3 := lt8 x3
  have n0 := nn x0
  have n1 := nn x1
  have n2 := nn x2
  have n3 := nn x3
  generalize hW : w = wn at hO HR ⊢
  clear hW w
  go_enter Tryz.func73, Tryz.ntmps73
  go_wp2
  refine wp_region_text (by kernel_rfl) (by kernel_rfl) ?_
  replace hO := hO.drew
  generalize World.drew _ = wd at hO ⊢
  have c0 : wd.cell? ⟨b, off, none⟩ = some (.int .u8 (x0.toNat : Int)) := (hO.rd HR.out).cells rfl 0 _ rfl
  have c1 : wd.cell? ⟨b, off + 1, none⟩ = some (.int .u8 (x1.toNat : Int)) := (hO.rd HR.out).cells rfl 1 _ rfl
  have c2 : wd.cell? ⟨b, off + 2, none⟩ = some (.int .u8 (x2.toNat : Int)) := (hO.rd HR.out).cells rfl 2 _ rfl
  have c3 : wd.cell? ⟨b, off + 3, none⟩ = some (.int .u8 (x3.toNat : Int)) := (hO.rd HR.out).cells rfl 3 _ rfl
  go_wp2_with (first | ((with_reducible refine gI ?_); refine wpI_step rfl rfl (by kernel_rfl) ?_; intro K hK; have HK := Lib.hid hK; clear hK) | ((with_reducible refine gI ?_); first | refine wpI_skip rfl ?_ | refine wpI_want rfl ?_) | ((with_reducible refine gOnlyK0 HK.out ?_); clear HK K; first | (refine wpI_act (by simp only [Act.put, List.setIfInBounds_toArray, List.set_cons_succ, List.set_cons_zero]; rfl) ?_) | skip) | (with_reducible refine wpI_nil ?_))
  go_ret
  exact ⟨by rw [HF.out]; rfl, hO.below⟩
end Go.Proofs.YtniibdglodnhoaaGreatDoor

/- The walk of the document's Absorb. -/
namespace Go.Proofs.YtniibdglodnhoaaGreatDoor
open Go.RowKit Go.Own Go.Bv Go.Ord Go.Eq

set_option maxHeartbeats 2000000 in
set_option maxRecDepth 100000 in
theorem rabsorb_ok (s : St) (a : Option Addr) (n cap : Nat) (bs : List (BitVec 8)) (w : World) (hR : Rd w 1 a n cap (u8s bs)) (hn : n ≤ 131072) :
    Calls Tryz.prog 74 #[.agg s.C, .slice a n cap] w fun e w' => e = .returned (.tuple #[.agg (s.absorb bs).C, .int .i64 0]) ∧ Below w.heap.size w w' := by
  have hO := Own.start w
  have hlen : bs.length = n := by have := hR.len; rw [u8s_length] at this; omega
  have HL := Lib.hid hlen
  have HR := Lib.hid hR
  obtain ⟨M, hM⟩ : ∃ M, M = n / 8 + 1 := ⟨_, rfl⟩
  have HA : Hid (s.absorb bs = s.absK bs M) := by show _ = _; unfold St.absorb; rw [hlen, hM]
  rw [HA.out]
  have HM := Lib.hid hM
  clear hR hlen HA hM
  have d1 : decide ((131072 : Int) < (n : Int)) = false := by simp; omega
  generalize hW : w = wn at hO HR ⊢
  clear hW w
  go_enter Tryz.func74, Tryz.ntmps74
  go_wp2_with (first
    | ((with_reducible refine gBox ?_); first | (refine bxA hO rfl ?_; clear hO; intro b ww hO) | (refine bx1 hO rfl rfl ?_; clear hO; intro b ww hO))
    | ((with_reducible refine gAlloc ?_); refine own_alloc hO _ _ iwz ?_; clear hO; intro rr ww hO)
    | ((with_reducible refine gBuild ?_); refine own_build hO 29 1 _ eu8_8 (u8s [128#8]).toArray (by omega) (by omega) (by simp [go_sem, Instr.fill, u8s]) rfl ?_; clear hO; intro g w2 hO)
    | ((with_reducible refine gAppendNil ?_); refine own_appendNil hO _ _ 29 eu8_8 rfl rfl (hO.rd HR.out) (u8s_one _) (by simp [maxLen]; omega) (by omega) ?_; clear hO; intro a1 c1 ww hO)
    | ((with_reducible refine gAppend ?_); refine own_append hO 1 _ _ 29 eu8_8 rfl rfl rfl (hO.rdAt 0 rfl) (u8s_one _) (n + 1) rfl (by simp [maxLen]; omega) (by omega) ?_; clear hO; intro a2 c2 ww hO))
  replace hO : Own wn ww [.sl 5 1 (.slice a2 (n + 1 + 0) c2) (n + 1 + 0) (u8s (padK bs 0)), .blk rr (.cells St.zero.C 24 (0,0)), .blk b (.cells s.C 24 (0,0))] := by
    rw [padK_zero, u8s_append]; exact hO.tail
  go_loopg [6] 8 (fun m v wr => ∃ (i : Nat) (a : Option Addr) (cp : Nat), m = 8 - i ∧ i + n % 8 ≤ 7 ∧ v = .slice a (n + 1 + i) cp ∧ Own wn wr [.sl 5 1 (.slice a (n + 1 + i) cp) (n + 1 + i) (u8s (padK bs i)), .blk rr (.cells St.zero.C 24 (0,0)), .blk b (.cells s.C 24 (0,0))])
  case atStart => exact ⟨0, a2, c2, rfl, by omega, rfl, hO⟩
  case round =>
    obtain ⟨i, a3, c3, rfl, hi, rfl, hO1⟩ := hrel
    clear hO
    have hO := hO1
    clear hO1
    obtain ⟨N, hN⟩ : ∃ N, N = n + 1 + i := ⟨_, rfl⟩
    rw [← hN] at hO ⊢
    by_cases hlt : i + n % 8 < 7
    · have hb0 : ((N : Int) % 8 != 0) = true := by simp; omega
      have hN2 : N + 1 = n + 1 + (i + 1) := by omega
      have hN3 : N ≤ 131080 := by omega
      have HN2 := Lib.hid hN2
      clear hN hN2
      go_wp2_with (first
        | ((with_reducible refine gBuild ?_); refine own_build hO 29 1 _ eu8_8 (u8s [0#8]).toArray (by omega) (by omega) (by simp [go_sem, Instr.fill, u8s]) rfl ?_; clear hO; intro g w2 hO)
        | ((with_reducible refine gAppend ?_); refine own_append hO 1 _ _ 29 eu8_8 rfl rfl rfl (hO.rdAt 0 rfl) (u8s_one _) (N + 1) rfl (by simp [maxLen]; omega) (by omega) ?_; clear hO; intro a4 c4 ww hO))
      go_roundg (8 - (i + 1))
      case measure => omega
      case rel =>
        refine ⟨i + 1, a4, c4, rfl, by omega, by rw [HN2.out], ?_⟩
        rw [padK_succ, u8s_append, ← HN2.out]
        exact hO.tail
    · have hb0 : ((N : Int) % 8 != 0) = false := by simp; omega
      have hN8 : N = 8 * M := by have := HM.out; omega
      obtain ⟨g, rfl⟩ := hO.slPlace 0 rfl (by omega)
      have hc3 : N ≤ c3 ∧ c3 ≤ maxLen := by have := hO.rdAt 0 rfl; exact ⟨this.le, this.max⟩
      obtain ⟨hc3, hc4⟩ := hc3
      unfold maxLen at hc4
      have HP4 : ∀ p, p + 4 ≤ N → Hid (((u8s (padK bs i)).drop p).take 4 = u8s [byteAt bs p, byteAt bs (p + 1), byteAt bs (p + 2), byteAt bs (p + 3)]) := fun p hp => padK_four bs i p (by rw [HL.out, ← hN]; exact hp)
      obtain ⟨L, hL⟩ : ∃ L, u8s (padK bs i) = L := ⟨_, rfl⟩
      rw [hL] at hO HP4
      have HN8 := Lib.hid hN8
      clear hN hN8 hL hi hlt
      go_wp2
      go_loopg [7] M (fun m c wr => ∃ k : Nat, m = M - k ∧ k ≤ M ∧ c = .int .i64 ((8 * k : Nat) : Int) ∧ Own wn wr [.sl 5 1 (.slice (some ⟨g, 0, none⟩) N c3) N L, .blk rr (.cells St.zero.C 24 (0,0)), .blk b (.cells (s.absK bs k).C 24 (0,0))])
      case atStart => exact ⟨0, rfl, by omega, rfl, hO⟩
      case round =>
        obtain ⟨k, rfl, hk, rfl, hO1⟩ := hrel
        clear hO
        have hO := hO1
        clear hO1
        by_cases hlt : k < M
        · have HS : Hid (s.absK bs (k + 1) = ((s.absK bs k).mixAt bs (8 * k)).perm) := rfl
          obtain ⟨p, hp⟩ : ∃ p, 8 * k = p := ⟨_, rfl⟩
          have hp2 : p + 8 = 8 * (k + 1) := by omega
          have HP2 := Lib.hid hp2
          have hpN : p + 8 ≤ N := by have := HN8.out; omega
          rw [hp] at HS ⊢
          rw [St.mix_halves] at HS
          have hb1 : decide ((p : Int) < (N : Int)) = true := by simp; omega
          have e1 := HP4 p (by omega)
          have e2 := HP4 (p + 4) (by omega)
          have f1 : Hid ((s.absK bs k).mixA bs p = ⟨Go.Bva.bxor (s.absK bs k).a (of4 (byteAt bs p) (byteAt bs (p + 1)) (byteAt bs (p + 2)) (byteAt bs (p + 3))), (s.absK bs k).b, (s.absK bs k).c, (s.absK bs k).d⟩) := rfl
          have f2 : ∀ u : St, Hid (u.mixB bs p = ⟨u.a, Go.Bva.bxor u.b (of4 (byteAt bs (p + 4)) (byteAt bs (p + 4 + 1)) (byteAt bs (p + 4 + 2)) (byteAt bs (p + 4 + 3))), u.c, u.d⟩) := fun u => rfl
          generalize s.absK bs k = u at *
          generalize byteAt bs p = x0 at *
          generalize byteAt bs (p + 1) = x1 at *
          generalize byteAt bs (p + 2) = x2 at *
          generalize byteAt bs (p + 3) = x3 at *
          generalize byteAt bs (p + 4 + 1) = x5 at *
          generalize byteAt bs (p + 4 + 2) = x6 at *
          generalize byteAt bs (p + 4 + 3) = x7 at *
          generalize byteAt bs (p + 4) = x4 at *
          obtain ⟨u1, hu1⟩ : ∃ u1, u.mixA bs p = u1 := ⟨_, rfl⟩
          obtain ⟨u2, hu2⟩ : ∃ u2, u1.mixB bs p = u2 := ⟨_, rfl⟩
          obtain ⟨u3, hu3⟩ : ∃ u3, u2.perm = u3 := ⟨_, rfl⟩
          have f2' := f2 u1
          rw [hu1] at f1 HS
          rw [hu2] at f2' HS
          rw [hu3] at HS
          have HU3 := Lib.hid hu3
          clear hp hp2 hu1 hu2 hu3 f2 HP4
          have dc1 : ¬ c3 = p := by omega
          have dc2 : ¬ c3 = p + 4 := by omega
          go_wp2
          refine wp_region_textS (fun w' => Own wn w' [.sl 5 1 (.slice (some ⟨g, 0, none⟩) N c3) N L, .blk rr (.cells St.zero.C 24 (0,0)), .blk b (.cells u.C 24 (0,0))]) (fun op => match op with | .load _ _ => true | _ => false) (by kernel_rfl) (by kernel_rfl) hO.drew ?_
          replace hO := hO.drew
          generalize World.drew _ = wd at hO ⊢
          go_wp2_with (first
            | ((with_reducible refine gIL ?_); refine wpI_ldcS (fun w' hS => hS.blk 2 rfl) rfl rfl (tA rfl) rfl ?_; first | (refine wpI_act (by simp only [Act.put, List.setIfInBounds_toArray, List.set_cons_succ, List.set_cons_zero]; rfl) ?_) | skip)
            | ((with_reducible refine Go.Bva.gBin (op := .xor) ?_); refine Go.Bva.xor_u32 rfl rfl ?_)
            | (go_at_call 73; refine (four_calls g p (c3 - p) x0 x1 x2 x3 _ (by rw [← e1.out]; have := (hO.rdAt 0 rfl).cut p 4 (by omega); rwa [Nat.zero_add] at this)).mono ?_; rintro e ww ⟨rfl, hb⟩; replace hO := hO.call hb; clear hb)
            | ((with_reducible refine gIS1 ?_); refine wpI_last (by kernel_rfl) rfl rfl (by kernel_rfl) ?_; intro K hK; have HK := Lib.hid hK; clear hK) | ((with_reducible refine gOnlyK0 HK.out ?_); clear HK K)
            | ((with_reducible refine gStore ?_); refine stC hO 2 rfl rfl rfl (ltb rfl) rfl (tS rfl) ?_; clear hO; intro ww hO)
            | ((with_reducible refine gI ?_); refine wpI_step rfl rfl (by kernel_rfl) ?_; intro K hK; have HK := Lib.hid hK; clear hK) | ((with_reducible refine gI ?_); first | refine wpI_skip rfl ?_ | refine wpI_want rfl ?_) | ((with_reducible refine gOnlyK HK.out ?_ ?_); exact hO; clear HK K; first | (refine wpI_act (by simp only [Act.put, List.setIfInBounds_toArray, List.set_cons_succ, List.set_cons_zero]; rfl) ?_) | skip) | (with_reducible refine wpI_nil ?_))
          replace hO : Own wn ww [.sl 5 1 (.slice (some ⟨g, 0, none⟩) N c3) N L, .blk rr (.cells St.zero.C 24 (0,0)), .blk b (.cells u1.C 24 (0,0))] := by rw [f1.out]; exact hO
          refine wp_region_textS (fun w' => Own wn w' [.sl 5 1 (.slice (some ⟨g, 0, none⟩) N c3) N L, .blk rr (.cells St.zero.C 24 (0,0)), .blk b (.cells u1.C 24 (0,0))]) (fun op => match op with | .load _ _ => true | _ => false) (by kernel_rfl) (by kernel_rfl) hO.drew ?_
          replace hO := hO.drew
          generalize World.drew _ = wd at hO ⊢
          go_wp2_with (first
            | ((with_reducible refine gIL ?_); refine wpI_ldcS (fun w' hS => hS.blk 2 rfl) rfl rfl (tA rfl) rfl ?_; first | (refine wpI_act (by simp only [Act.put, List.setIfInBounds_toArray, List.set_cons_succ, List.set_cons_zero]; rfl) ?_) | skip)
            | ((with_reducible refine Go.Bva.gBin (op := .xor) ?_); refine Go.Bva.xor_u32 rfl rfl ?_)
            | (go_at_call 73; refine (four_calls g (p + 4) (c3 - (p + 4)) x4 x5 x6 x7 _ (by rw [← e2.out]; have := (hO.rdAt 0 rfl).cut (p + 4) 4 (by omega); rwa [Nat.zero_add] at this)).mono ?_; rintro e ww ⟨rfl, hb⟩; replace hO := hO.call hb; clear hb)
            | ((with_reducible refine gIS1 ?_); refine wpI_last (by kernel_rfl) rfl rfl (by kernel_rfl) ?_; intro K hK; have HK := Lib.hid hK; clear hK) | ((with_reducible refine gOnlyK0 HK.out ?_); clear HK K)
            | ((with_reducible refine gStore ?_); refine stC hO 2 rfl rfl rfl (ltb rfl) rfl (tS rfl) ?_; clear hO; intro ww hO; replace hO : Own wn ww [.sl 5 1 (.slice (some ⟨g, 0, none⟩) N c3) N L, .blk rr (.cells St.zero.C 24 (0,0)), .blk b (.cells u2.C 24 (0,0))] := by rw [f2'.out]; exact hO)
            | ((with_reducible refine gLoad ?_); refine ldX hO 2 rfl rfl (tA rfl) (tS rfl) ?_)
            | ((with_reducible refine gStore ?_); refine stX hO 2 rfl rfl rfl rfl rfl (tS rfl) ?_; clear hO; intro ww hO)
            | (go_at_call 105; refine (rperm_calls u2 _).mono ?_; rw [HU3.out]; rintro e ww ⟨rfl, hb⟩; replace hO := hO.call hb; clear hb)
            | ((with_reducible refine gI ?_); refine wpI_step rfl rfl (by kernel_rfl) ?_; intro K hK; have HK := Lib.hid hK; clear hK) | ((with_reducible refine gI ?_); first | refine wpI_skip rfl ?_ | refine wpI_want rfl ?_) | ((with_reducible refine gOnlyK HK.out ?_ ?_); exact hO; clear HK K; first | (refine wpI_act (by simp only [Act.put, List.setIfInBounds_toArray, List.set_cons_succ, List.set_cons_zero]; rfl) ?_) | skip) | (with_reducible refine wpI_nil ?_))
          go_roundg (M - (k + 1))
          case measure => omega
          case rel => exact ⟨k + 1, rfl, by omega, by rw [← HP2.out]; go_num, by rw [HS.out]; exact hO⟩
        · have hb1 : decide ((8 : Int) * (k : Int) < (N : Int)) = false := by have := HN8.out; simp; omega
          obtain rfl : k = M := by omega
          obtain ⟨u, hu⟩ : ∃ u, s.absK bs k = u := ⟨_, rfl⟩
          rw [hu] at hO
          have HU := Lib.hid hu
          clear hu
          go_wp2_with (first
            | ((with_reducible refine gLoad ?_); first | refine ldX hO 0 rfl rfl (tA rfl) (tS rfl) ?_ | refine ldC hO 0 rfl rfl (tA rfl) rfl ?_ | refine ldX hO 1 rfl rfl (tA rfl) (tS rfl) ?_ | refine ldC hO 1 rfl rfl (tA rfl) rfl ?_ | refine ldX hO 2 rfl rfl (tA rfl) (tS rfl) ?_ | refine ldC hO 2 rfl rfl (tA rfl) rfl ?_)
            | ((with_reducible refine gStore ?_); first | (refine stX hO 0 rfl rfl rfl rfl rfl (tS rfl) ?_; clear hO; intro ww hO) | (refine stC hO 0 rfl rfl rfl (ltb rfl) rfl (tS rfl) ?_; clear hO; intro ww hO) | (refine stX hO 1 rfl rfl rfl rfl rfl (tS rfl) ?_; clear hO; intro ww hO) | (refine stC hO 1 rfl rfl rfl (ltb rfl) rfl (tS rfl) ?_; clear hO; intro ww hO) | (refine stX hO 2 rfl rfl rfl rfl rfl (tS rfl) ?_; clear hO; intro ww hO) | (refine stC hO 2 rfl rfl rfl (ltb rfl) rfl (tS rfl) ?_; clear hO; intro ww hO)))
          refine bodyPost_ret (res_ct rfl _ _ rr 24 u.C (0,0) _ rfl (hO.blk 1 rfl) Tryz.underlying24 rfl (iws' _)) rfl ⟨by rw [HU.out]; rfl, hO.below⟩
end Go.Proofs.YtniibdglodnhoaaGreatDoor

/- The walk of perm.Absorb. -/
namespace Go.Proofs.YtniibdglodnhoaaGreatDoor
open Go.RowKit Go.Own Go.Bv Go.Ord Go.Eq

set_option maxHeartbeats 4000000 in
set_option maxRecDepth 100000 in
theorem absorb1_calls (s : St) (a : Option Addr) (n cap : Nat) (bs : List (BitVec 8)) (w : World) (hR : Rd w 1 a n cap (u8s bs)) (hT : Turns w) (hn : n ≤ 131072) :
    Calls Tryz.prog 92 #[.agg s.C, .slice a n cap] w fun e w' => e = .returned (.tuple #[.agg (s.absorb bs).C, .int .i64 0]) ∧ Below w.heap.size w w' := by
  have hO := Own.start w
  have hlen : bs.length = n := by have := hR.len; rw [u8s_length] at this; omega
  have HL := Lib.hid hlen
  have HR := Lib.hid hR
  have HT := Lib.hid hT
  have HA : Hid (s.absorb bs = s.absK bs (n / 8 + 1)) := by show _ = _; unfold St.absorb; rw [hlen]
  rw [HA.out]
  clear hR hlen hT HA
  generalize hW : w = wn at hO HR HT ⊢
  clear hW w
  go_enter Tryz.func92, Tryz.ntmps92
  go_wp2_with (first
    | ((with_reducible refine gBox ?_); refine own_box hO 24 _ _ rfl ?_; clear hO; intro b w1 hO; replace hO : Own wn w1 [.blk b (.cells s.C 24 (0,0))] := hO)
    | ((with_reducible refine gAlloc ?_); refine own_alloc hO 24 _ iwz ?_; clear hO; intro r w2 hO))
  go_loopg [6] (n / 8 + 1) (fun m c wr => ∃ k : Nat, m = n / 8 + 1 - k ∧ k ≤ n / 8 + 1 ∧ c = .int .i64 ((8 * k : Nat) : Int) ∧ Own wn wr [.blk r (.cells St.zero.C 24 (0,0)), .blk b (.cells (s.absK bs k).C 24 (0,0))])
  case atStart => exact ⟨0, rfl, by omega, rfl, hO⟩
  case round =>
    obtain ⟨k, rfl, hk, rfl, hO1⟩ := hrel
    clear hO
    have hO := hO1
    clear hO1
    by_cases hlt : 8 * k ≤ n
    · have hb0 : decide (((8 * k : Nat) : Int) ≤ (n : Int)) = true := by simp; omega
      have HS : Hid (s.absK bs (k + 1) = (St.mixK (s.absK bs k) bs (8 * k) 8).perm) := rfl
      generalize hu : s.absK bs k = u at *
      clear hu
      obtain ⟨p, hp⟩ : ∃ p, 8 * k = p := ⟨_, rfl⟩
      have hp2 : p + 8 = 8 * (k + 1) := by omega
      have hk2 : k < n / 8 + 1 := by omega
      have HP := Lib.hid hp
      have HP2 := Lib.hid hp2
      rw [hp] at HS hb0 hlt ⊢
      clear hp hp2
      go_wp2
      obtain ⟨wo, hwo⟩ : ∃ wo : World, wo = wr := ⟨_, rfl⟩
      clear hwo
      go_loopg [7, 8, 19, 21, 22, 23, 24, 25, 26, 27, 28, 29, 30, 31, 32, 33, 34, 35, 36, 37, 38, 39, 40, 41, 42, 43, 44, 45, 46, 47, 48, 49, 50, 51, 52, 53, 54] 8 (fun m s7 s8 c s21 s22 s23 s24 s25 s26 s27 s28 s29 s30 s31 s32 s33 s34 s35 s36 s37 s38 s39 s40 s41 s42 s43 s44 s45 s46 s47 s48 s49 s50 s51 s52 s53 s54 wq => ∃ j : Nat, m = 8 - j ∧ j ≤ 8 ∧ c = .int .i64 (j : Int) ∧ Own wn wq [.blk r (.cells St.zero.C 24 (0,0)), .blk b (.cells (St.mixK u bs p j).C 24 (0,0))])
      case atStart => exact ⟨0, rfl, by omega, rfl, hO⟩
      case round =>
        obtain ⟨j, rfl, hj, rfl, hO1⟩ := hrel
        clear hO
        have hO := hO1
        clear hO1
        by_cases hjl : j < 8
        · have hb1 : decide ((j : Int) < 8) = true := by simp; omega
          have HM : Hid (St.mixK u bs p (j + 1) = (St.mixK u bs p j).xput j (byteAt bs (p + j))) := rfl
          generalize St.mixK u bs p j = v at *
          obtain ⟨c, hc⟩ : ∃ c, byteAt bs (p + j) = c := ⟨_, rfl⟩
          rw [hc] at HM
          have HC1 : Hid (p + j < n → (u8s bs)[p + j]? = some (.int .u8 (c.toNat : Int))) := fun hi => by
            have h2 : p + j < bs.length := by rw [HL.out]; exact hi
            rw [← hc, byteAt_lt h2]
            exact u8s_get bs (p + j) h2
          have HC2 : Hid (p + j = n → Value.int .u8 128 = .int .u8 (c.toNat : Int)) := fun hi => by
            rw [← hc, hi, ← HL.out, byteAt_eq]; rfl
          have HC3 : Hid (n < p + j → Value.int .u8 0 = .int .u8 (c.toNat : Int)) := fun hi => by
            rw [← hc, byteAt_gt (by rw [HL.out]; exact hi)]; rfl
          clear hc
          obtain ⟨q, hq⟩ : ∃ q, q = j := ⟨j, rfl⟩
          have HQ := Lib.hid hq
          clear hq
          go_upto_block 4 with fail
          go_cut [8, 19] from 19 to 54 (fun s8 s19 wx => s8 = .int .u8 (c.toNat : Int) ∧ s19 = .int .i64 (j : Int) ∧ Own wn wx [.blk r (.cells St.zero.C 24 (0,0)), .blk b (.cells v.C 24 (0,0))])
          case first =>
            by_cases c1 : p + j < n
            · have d1 : decide ((p : Int) + (j : Int) < (n : Int)) = true := by simp; omega
              obtain ⟨b0, off, rfl⟩ := HR.out.place (by omega)
              have HV := Lib.hid (HC1.out c1)
              go_wp2_with (first | ((with_reducible refine gLoad ?_); refine ld_rd (hO.rd HR.out) rfl (HV.out) (tA rfl) ?_))
              go_meet
              case rel => exact ⟨rfl, rfl, hO⟩
            · have d1 : decide ((p : Int) + (j : Int) < (n : Int)) = false := by simp; omega
              by_cases c2 : p + j = n
              · have d2 : (((p : Int) + (j : Int)) == (n : Int)) = true := by simp; omega
                have HV := Lib.hid (HC2.out c2)
                clear c2
                go_wp2
                go_meet
                case rel => exact ⟨HV.out, rfl, hO⟩
              · have d2 : (((p : Int) + (j : Int)) == (n : Int)) = false := by simp; omega
                have HV := Lib.hid (HC3.out (by omega))
                clear c2
                go_wp2
                go_meet
                case rel => exact ⟨HV.out, rfl, hO⟩
          case rest =>
            obtain ⟨rfl, rfl, hO1⟩ := hcut
            clear hO HC1 HC2 HC3
            have hO := hO1
            clear hO1
            obtain rfl | rfl | rfl | rfl | rfl | rfl | rfl | rfl : j = 0 ∨ j = 1 ∨ j = 2 ∨ j = 3 ∨ j = 4 ∨ j = 5 ∨ j = 6 ∨ j = 7 := by omega
            all_goals
              go_wp2
              refine wp_region_text (by kernel_rfl) (by kernel_rfl) ?_
              replace hO := hO.drew
              generalize World.drew _ = wd at hO ⊢
              go_wp2_with (first | ((with_reducible refine gLoad ?_); first | refine ld_blk hO 0 rfl rfl rfl (tA rfl) ?_ | refine ld_all hO 0 rfl rfl (tA rfl) (tS rfl) ?_ | refine ld_blk hO 1 rfl rfl rfl (tA rfl) ?_ | refine ld_all hO 1 rfl rfl (tA rfl) (tS rfl) ?_) | ((with_reducible refine gStore ?_); first | (refine st_blk hO 0 rfl rfl rfl (ltb rfl) rfl (tS rfl) ?_; clear hO; intro ww hO) | (refine st_all hO 0 rfl rfl rfl rfl rfl rfl (tS rfl) ?_; clear hO; intro ww hO) | (refine st_blk hO 1 rfl rfl rfl (ltb rfl) rfl (tS rfl) ?_; clear hO; intro ww hO) | (refine st_all hO 1 rfl rfl rfl rfl rfl rfl (tS rfl) ?_; clear hO; intro ww hO)) | ((with_reducible refine Go.Bva.gBin ?_); first | refine Go.Bva.shl_u32 (Go.Bva.w8 rfl) rfl (by decide) ?_ | refine Go.Bva.xor_u32 rfl rfl ?_) | ((with_reducible refine gI ?_); refine wpI_step rfl rfl (by kernel_rfl) ?_; intro K hK; have HK := Lib.hid hK; clear hK) | ((with_reducible refine gI ?_); first | refine wpI_skip rfl ?_ | refine wpI_want rfl ?_) | ((with_reducible refine gOnlyK0 HK.out ?_); clear HK K; first | (refine wpI_act (by simp only [Act.put, List.setIfInBounds_toArray, List.set_cons_succ, List.set_cons_zero]; rfl) ?_) | skip) | (with_reducible refine wpI_nil ?_))
              go_roundg (8 - (q + 1))
              case measure => rw [HQ.out]; omega
              case rel => exact ⟨q + 1, rfl, by rw [HQ.out]; omega, by rw [HQ.out]; go_num, by rw [HQ.out, HM.out]; exact hO⟩
        · obtain rfl : j = 8 := by omega
          go_wp2_with (first
            | ((with_reducible refine gLoad ?_); first | refine ld_blk hO 0 rfl rfl rfl (tA rfl) ?_ | refine ld_all hO 0 rfl rfl (tA rfl) (tS rfl) ?_ | refine ld_blk hO 1 rfl rfl rfl (tA rfl) ?_ | refine ld_all hO 1 rfl rfl (tA rfl) (tS rfl) ?_)
            | ((with_reducible refine gStore ?_); first | (refine st_blk hO 0 rfl rfl rfl (ltb rfl) rfl (tS rfl) ?_; clear hO; intro ww hO) | (refine st_all hO 0 rfl rfl rfl rfl rfl rfl (tS rfl) ?_; clear hO; intro ww hO) | (refine st_blk hO 1 rfl rfl rfl (ltb rfl) rfl (tS rfl) ?_; clear hO; intro ww hO) | (refine st_all hO 1 rfl rfl rfl rfl rfl rfl (tS rfl) ?_; clear hO; intro ww hO))
            | (go_at_call 114; refine (perm_calls _ _ (HT.out.own hO)).mono ?_; rintro e ww ⟨rfl, hb⟩; replace hO := hO.call hb; clear hb))
          go_roundg (n / 8 + 1 - (k + 1))
          case measure => omega
          case rel => exact ⟨k + 1, rfl, by omega, by rw [← HP2.out]; go_num, by rw [HS.out]; exact hO⟩
    · have hb0 : decide (((8 * k : Nat) : Int) ≤ (n : Int)) = false := by simp; omega
      obtain rfl : k = n / 8 + 1 := by omega
      go_wp2_with (first
        | ((with_reducible refine gLoad ?_); first | refine ld_blk hO 0 rfl rfl rfl (tA rfl) ?_ | refine ld_all hO 0 rfl rfl (tA rfl) (tS rfl) ?_ | refine ld_blk hO 1 rfl rfl rfl (tA rfl) ?_ | refine ld_all hO 1 rfl rfl (tA rfl) (tS rfl) ?_)
        | ((with_reducible refine gStore ?_); first | (refine st_blk hO 0 rfl rfl rfl (ltb rfl) rfl (tS rfl) ?_; clear hO; intro ww hO) | (refine st_all hO 0 rfl rfl rfl rfl rfl rfl (tS rfl) ?_; clear hO; intro ww hO) | (refine st_blk hO 1 rfl rfl rfl (ltb rfl) rfl (tS rfl) ?_; clear hO; intro ww hO) | (refine st_all hO 1 rfl rfl rfl rfl rfl rfl (tS rfl) ?_; clear hO; intro ww hO)))
      refine bodyPost_ret (res_ct rfl _ _ r 24 (s.absK bs (n / 8 + 1)).C (0,0) _ rfl (hO.blk 0 rfl) Tryz.underlying24 rfl (iws' _)) rfl ⟨rfl, hO.below⟩
end Go.Proofs.YtniibdglodnhoaaGreatDoor

/- The walk of perm.Squeeze. -/
namespace Go.Proofs.YtniibdglodnhoaaGreatDoor
open Go.RowKit Go.Own Go.Bv Go.Ord Go.Eq

/-- what Squeeze hands back: octets in a block of its own -/
def SqRet (w : World) (s : St) (n : Nat) (e : Ending) (w' : World) : Prop :=
  ∃ g C, e = .returned (.tuple #[.slice (some ⟨g, 0, none⟩) n n, .int .i64 0]) ∧ Below w.heap.size w w' ∧ Res.holds w.heap.size w' (.blk g (.cells C 5 (0,0))) ∧ C.toList.take n = u8s (s.squeeze n)

theorem sq_next (s : St) (k : Nat) : s.sqK (k + 1) = s.sqK k ++ (octs4 (St.permN k s).a ++ octs4 (St.permN k s).b) := rfl
theorem octs_first (s : St) : (u8s s.octs).take (8 * 1) = u8s (octs4 s.a ++ octs4 s.b) := rfl
theorem sq_take (s : St) (n k : Nat) (C : List Value) (h : C.take (8 * k) = u8s (s.sqK k)) (hn : n ≤ 8 * k) : C.take n = u8s (s.squeeze n) := by
  rw [St.squeeze_of s hn, u8s_take, ← h, List.take_take, Nat.min_eq_left hn]

set_option maxHeartbeats 2000000 in
set_option maxRecDepth 100000 in
theorem squeeze_calls (s : St) (n : Nat) (hn : n ≤ 131072) (w : World) (hT : Turns w) :
    Calls Tryz.prog 113 #[.agg s.C, .int .i64 (n : Int)] w (SqRet w s n) := by
  have hO := Own.start w
  have HT := Lib.hid hT
  clear hT
  generalize hW : w = wn at hO HT ⊢
  clear hW w
  have hb0 : decide ((n : Int) < 0) = false := by simp
  have hb1 : decide ((131072 : Int) < (n : Int)) = false := by simp; omega
  go_enter Tryz.func113, Tryz.ntmps113
  go_wp2_with (first
    | ((with_reducible refine gBox ?_); refine own_box hO 24 _ _ rfl ?_; clear hO; intro b w1 hO; replace hO : Own wn w1 [.blk b (.cells s.C 24 (0,0))] := hO)
    | ((with_reducible refine gMake ?_); refine own_make0 hO _ _ 29 eu8_8 (n + 8) rfl rfl (by simp) (by omega) (by simp [maxLen]; omega) ?_; clear hO; intro g w2 hO))
  go_loopg [6] (n + 1) (fun m v wr => ∃ k g cp, m = (n + 1) - 8 * k ∧ 8 * k < n + 8 ∧ v = .slice (some ⟨g, 0, none⟩) (8 * k) cp ∧ Own wn wr [.sl 5 1 (.slice (some ⟨g, 0, none⟩) (8 * k) cp) (8 * k) (u8s (s.sqK k)), .blk b (.cells (St.permN k s).C 24 (0,0))])
  case atStart => exact ⟨0, g, n + 8, rfl, by omega, rfl, hO⟩
  case round =>
    obtain ⟨k, g, cp, rfl, hk, rfl, hO1⟩ := hrel
    clear hO
    have hO := hO1
    clear hO1
    by_cases hlt : 8 * k < n
    · have hb2 : decide (((8 * k : Nat) : Int) < (n : Int)) = true := by simp; omega
      have HS := Lib.hid (sq_next s k)
      have HP : Hid (St.permN (k + 1) s = (St.permN k s).perm) := rfl
      generalize St.permN k s = u at *
      have d16 : ¬ (16 : Nat) = 8 := by decide
      go_wp2_with (first
        | ((with_reducible refine gLoad ?_); first | refine ld_blk hO 0 rfl rfl rfl (tA rfl) ?_ | refine ld_all hO 0 rfl rfl (tA rfl) (tS rfl) ?_ | refine ld_blk hO 1 rfl rfl rfl (tA rfl) ?_ | refine ld_all hO 1 rfl rfl (tA rfl) (tS rfl) ?_ | refine ld_blk hO 2 rfl rfl rfl (tA rfl) ?_ | refine ld_all hO 2 rfl rfl (tA rfl) (tS rfl) ?_ | refine ld_blk hO 3 rfl rfl rfl (tA rfl) ?_ | refine ld_all hO 3 rfl rfl (tA rfl) (tS rfl) ?_)
        | ((with_reducible refine gStore ?_); first | (refine st_blk hO 0 rfl rfl rfl (ltb rfl) rfl (tS rfl) ?_; clear hO; intro ww hO) | (refine st_all hO 0 rfl rfl rfl rfl rfl rfl (tS rfl) ?_; clear hO; intro ww hO) | (refine st_blk hO 1 rfl rfl rfl (ltb rfl) rfl (tS rfl) ?_; clear hO; intro ww hO) | (refine st_all hO 1 rfl rfl rfl rfl rfl rfl (tS rfl) ?_; clear hO; intro ww hO) | (refine st_blk hO 2 rfl rfl rfl (ltb rfl) rfl (tS rfl) ?_; clear hO; intro ww hO) | (refine st_all hO 2 rfl rfl rfl rfl rfl rfl (tS rfl) ?_; clear hO; intro ww hO) | (refine st_blk hO 3 rfl rfl rfl (ltb rfl) rfl (tS rfl) ?_; clear hO; intro ww hO) | (refine st_all hO 3 rfl rfl rfl rfl rfl rfl (tS rfl) ?_; clear hO; intro ww hO))
        | (go_at_call 58; refine (octets_calls _ _).mono ?_; rintro e ww ⟨g2, rfl, hb, hr⟩; replace hO := hO.addRow hb hr; clear hb hr)
        | (go_at_call 114; refine (perm_calls _ _ (HT.out.own hO)).mono ?_; rintro e ww ⟨rfl, hb⟩; replace hO := hO.call hb; clear hb)
        | ((with_reducible refine gAppend ?_); refine own_append hO 1 _ _ 29 eu8_8 rfl rfl rfl ((hO.rdAt 0 rfl).take 8 (by omega)) (by rw [octs_first]; exact u8s_one _) (8 * k + 8) rfl (by simp [maxLen]; omega) (by omega) ?_; clear hO; intro a2 c2 w4 hO; obtain ⟨g3, rfl⟩ := hO.slPlace 1 rfl (by omega)))
      go_roundg ((n + 1) - 8 * (k + 1))
      case measure => omega
      case rel =>
        refine ⟨k + 1, g3, c2, rfl, by omega, rfl, ?_⟩
        rw [HS.out, HP.out, u8s_append]
        exact hO.sub (List.Sublist.cons _ (List.Sublist.refl _))
    · have hb2 : decide (((8 * k : Nat) : Int) < (n : Int)) = false := by simp; omega
      obtain ⟨C, hg1, hg2, hC, hcp, hcm⟩ := blk_of_row (hO.row 0 rfl)
      have HF := Lib.hid (sq_take s n k _ hC (by omega))
      have hle : n ≤ cp := by omega
      clear hC
      go_wp2
      go_ret2
      exact ⟨g, C, rfl, hO.below, ⟨hg1, hg2⟩, HF.out⟩
end Go.Proofs.YtniibdglodnhoaaGreatDoor

/- The walk of the document's Squeeze; of Absorb and Squeeze, of both, for whatever comes in. -/
namespace Go.Proofs.YtniibdglodnhoaaGreatDoor
open Go.RowKit Go.Own Go.Bv Go.Ord Go.Eq

set_option maxHeartbeats 2000000 in
set_option maxRecDepth 100000 in
theorem rsqueeze_ok (s : St) (n : Nat) (hn : n ≤ 131072) (w : World) :
    Calls Tryz.prog 106 #[.agg s.C, .int .i64 (n : Int)] w fun e w' => ∃ a c, e = .returned (.tuple #[.slice a n c, .int .i64 0]) ∧ Below w.heap.size w w' ∧ Rd w' 1 a n c (u8s (s.squeeze n)) := by
  have hO := Own.start w
  generalize hW : w = wn at hO ⊢
  clear hW w
  have hb0 : decide ((n : Int) < 0) = false := by simp
  have hb1 : decide ((131072 : Int) < (n : Int)) = false := by simp; omega
  go_enter Tryz.func106, Tryz.ntmps106
  go_wp2_with (first | ((with_reducible refine gBox ?_); first | (refine bxA hO rfl ?_; clear hO; intro b ww hO) | (refine bx1 hO rfl rfl ?_; clear hO; intro b ww hO)))
  replace hO : Own wn ww [.sl 5 1 (.slice none 0 0) 0 [], .blk b (.cells s.C 24 (0,0))] := hO.add (Below.refl _ _) (World.ownsRow_nil _ _ _ _)
  go_loopg [6] (n + 1) (fun m v wr => ∃ (k : Nat) (a : Option Addr) (cp : Nat), m = (n + 1) - 8 * k ∧ 8 * k < n + 8 ∧ v = .slice a (8 * k) cp ∧ Own wn wr [.sl 5 1 (.slice a (8 * k) cp) (8 * k) (u8s (s.sqK k)), .blk b (.cells (St.permN k s).C 24 (0,0))])
  case atStart => exact ⟨0, none, 0, rfl, by omega, rfl, hO⟩
  case round =>
    obtain ⟨k, a, cp, rfl, hk, rfl, hO1⟩ := hrel
    clear hO
    have hO := hO1
    clear hO1
    by_cases hlt : 8 * k < n
    · have hb2 : decide (((8 * k : Nat) : Int) < (n : Int)) = true := by simp; omega
      have HS := Lib.hid (sq_next s k)
      have HP : Hid (St.permN (k + 1) s = (St.permN k s).perm) := rfl
      generalize St.permN k s = u at *
      obtain ⟨v, hv⟩ : ∃ v, u.perm = v := ⟨_, rfl⟩
      have HV := Lib.hid hv
      rw [hv] at HP
      obtain ⟨L, hL⟩ : ∃ L, u8s (s.sqK k) = L := ⟨_, rfl⟩
      rw [hL] at hO
      have HL := Lib.hid hL
      obtain ⟨N, hN⟩ : ∃ N, N = 8 * k := ⟨_, rfl⟩
      rw [← hN] at hO hb2 ⊢
      have hN2 : N ≤ 131072 := by omega
      have hb3 : decide (N < n) = true := by simp; omega
      have HN := Lib.hid hN
      clear hv hL hN
      go_wp2_with (first
        | ((with_reducible refine gLoad ?_); first | refine ldC hO 1 rfl rfl (tA rfl) rfl ?_ | refine ldC hO 2 rfl rfl (tA rfl) rfl ?_ | refine ldX hO 3 rfl rfl (tA rfl) (tS rfl) ?_)
        | ((with_reducible refine gStore ?_); refine stX hO 3 rfl rfl rfl rfl rfl (tS rfl) ?_; clear hO; intro ww hO)
        | (go_at_call 100; (with_reducible refine gCall #[.int .u32 (u.a.toNat : Int)] ?_); refine (oct4_calls u.a _).mono ?_; rintro e ww ⟨g, rfl, hb, hr⟩; replace hO := hO.addRow hb hr; clear hb hr)
        | (go_at_call 100; refine (oct4_calls u.b _).mono ?_; rintro e ww ⟨g, rfl, hb, hr⟩; replace hO := hO.addRow hb hr; clear hb hr)
        | ((with_reducible refine gAppend ?_); first
            | (refine own_append hO 1 _ _ 29 eu8_8 rfl rfl rfl (hO.rdAt 0 rfl) (u8s_one _) (N + 4) rfl (by simp [maxLen]; omega) (by omega) ?_; clear hO; intro a2 c2 ww hO)
            | (refine own_append hO 2 _ _ 29 eu8_8 rfl rfl rfl (hO.rdAt 0 rfl) (u8s_one _) (N + 8) rfl (by simp [maxLen]; omega) (by omega) ?_; clear hO; intro a3 c3 ww hO))
        | (go_at_call 105; refine (rperm_calls u _).mono ?_; rw [HV.out]; rintro e ww ⟨rfl, hb⟩; replace hO := hO.call hb; clear hb))
      go_roundg ((n + 1) - 8 * (k + 1))
      case measure => omega
      case rel =>
        refine ⟨k + 1, a3, c3, rfl, by omega, by rw [HN.out]; rfl, ?_⟩
        rw [HS.out, HP.out, u8s_append, u8s_append, HL.out, ← List.append_assoc, show 8 * (k + 1) = N + 8 by have := HN.out; omega]
        exact hO.sub (List.Sublist.cons _ (List.Sublist.cons _ (List.Sublist.refl _)))
    · have hb2 : decide (((8 * k : Nat) : Int) < (n : Int)) = false := by simp; omega
      have HF : Hid (u8s (s.squeeze n) = (u8s (s.sqK k)).take n) := by show _ = _; rw [St.squeeze_of s (by omega : n ≤ 8 * k), u8s_take]
      have HR := Lib.hid ((hO.rdAt 0 rfl).take n (by omega))
      have hle := (hO.rdAt 0 rfl).le
      have hnc : n ≤ cp := by omega
      have hb3 : decide (8 * k < n) = false := by simp; omega
      go_wp2
      go_ret2
      refine ⟨_, _, rfl, hO.below, ?_⟩
      have := HR.out
      rwa [Nat.mul_one, ← HF.out] at this
end Go.Proofs.YtniibdglodnhoaaGreatDoor

/- A region that draws its order and makes one variable anywhere in it ('alloc', next to calls): one walk in the order of the text, but that at each marked operation the variable is made now, or later. -/
namespace Go.Ord
open Go.RowKit

section
variable {P : Program} {ops : Array Oper} {Q : Exit → Act → World → Prop} {S : World → Prop} {st : Op → Bool}

/-! ### any order of the rest that the checks let -/
def waitsB (ops : Array Oper) (j i : Nat) (acc : List Nat) : Bool := ((ops[j]?).map fun o => o.after.toList.any fun e => Region.binds .any e && (e.on == i || acc.contains e.on)).getD false
def depsIn (ops : Array Oper) (i : Nat) (U : List Nat) : List Nat := U.foldl (fun acc j => if waitsB ops j i acc then acc ++ [j] else acc) []
/-- those of U behind i: each waits for i or for one of them; the others are apart -/
def freeB (P : Program) (st : Op → Bool) (ops : Array Oper) (i : Nat) (U : List Nat) (x : Option Nat) : Bool :=
  let D := depsIn ops i U
  (D.all fun j => U.contains j && waitsB ops j i D) &&
  (U.all fun j => D.contains j || x == some j || (match ops[i]?, ops[j]? with | some oi, some oj => oi.apart ops oj && compat (kindS P st oi.op) (kindS P st oj.op) | _, _ => false)) &&
  (!lastB ops || i + 1 == ops.size || D.contains (ops.size - 1))
/-- i may come, where U and i are what is left -/
def mayB (ops : Array Oper) (i : Nat) (U : List Nat) : Bool :=
  match ops[i]? with
  | some oi => oi.after.toList.all fun e => !Region.binds .any e || (decide (e.on < ops.size) && !(e.on == i) && !(U.contains e.on))
  | none => false

structure Left (ops : Array Oper) (listed : Array Bool) (U : List Nat) : Prop where
  size : listed.size = ops.size
  at' : ∀ j, j < ops.size → listed[j]? = some (decide (j ∉ U))
  nodup : U.Nodup
  lt : ∀ j ∈ U, j < ops.size
theorem Left.get {listed : Array Bool} {U : List Nat} (h : Left ops listed U) {j : Nat} (d : Bool) (hj : j < ops.size) : listed.getD j d = decide (j ∉ U) := by
  simp [Array.getD_eq_getD_getElem?, h.at' j hj]
theorem Left.perm {listed : Array Bool} {U V : List Nat} (h : Left ops listed U) (hp : U.Perm V) : Left ops listed V :=
  ⟨h.size, fun j hj => by rw [h.at' j hj]; congr 1; exact decide_eq_decide.2 (not_congr hp.mem_iff), hp.nodup_iff.1 h.nodup, fun j hj => h.lt j (hp.mem_iff.2 hj)⟩
theorem Left.done {listed : Array Bool} {i : Nat} {U : List Nat} (h : Left ops listed (i :: U)) : Left ops (listed.setIfInBounds i true) U := by
  have hi : i < ops.size := h.lt i List.mem_cons_self
  refine ⟨by simpa using h.size, fun j hj => ?_, (List.nodup_cons.1 h.nodup).2, fun j hj => h.lt j (List.mem_cons_of_mem _ hj)⟩
  rw [Array.getElem?_setIfInBounds]
  by_cases hij : i = j
  · subst hij
    rw [if_pos rfl, if_pos (by rw [h.size]; exact hi)]
    have := (List.nodup_cons.1 h.nodup).1
    simp [this]
  · rw [if_neg hij, h.at' j hj]
    congr 1
    apply decide_eq_decide.2
    simp [List.mem_cons, Ne.symm hij]
theorem Left.ready {listed : Array Bool} {i : Nat} {U : List Nat} (h : Left ops listed (i :: U)) (hm : mayB ops i U = true) : i ∈ Region.ready .any ops listed := by
  have hi : i < ops.size := h.lt i List.mem_cons_self
  unfold mayB at hm
  have ho : ops[i]? = some ops[i] := Array.getElem?_eq_getElem hi
  rw [ho] at hm
  rw [mem_ready]
  refine ⟨by rw [h.get true hi]; simp, ops[i], ho, fun e hem hb => ?_⟩
  have := List.all_eq_true.1 hm e (by simpa using hem)
  simp only [hb, Bool.not_true, Bool.false_or, Bool.and_eq_true, decide_eq_true_eq, Bool.not_eq_true', beq_eq_false_iff_ne, ne_eq, List.contains_eq_mem] at this
  obtain ⟨⟨h1, h2⟩, h3⟩ := this
  rw [h.get false h1]
  have h4 : e.on ∉ U := by simpa using h3
  simp [List.mem_cons, h2, h4]
theorem Left.mem {listed : Array Bool} {U : List Nat} (h : Left ops listed U) {j : Nat} (hj : j ∈ Region.ready .any ops listed) : j ∈ U := by
  obtain ⟨h0, o, ho, _⟩ := mem_ready.1 hj
  have hlt : j < ops.size := (Array.getElem?_eq_some_iff.1 ho).1
  rw [h.get true hlt] at h0
  simpa using h0
theorem freeB_D {i : Nat} {U : List Nat} {x : Option Nat} (hf : freeB P st ops i U x = true) :
    (∀ j ∈ depsIn ops i U, ∀ oj, ops[j]? = some oj → ∃ e ∈ oj.after, Region.binds .any e = true ∧ (e.on = i ∨ e.on ∈ depsIn ops i U)) ∧ (∀ j ∈ depsIn ops i U, j ∈ U) ∧ (lastB ops = true → ∀ j, j + 1 = ops.size → j ≠ i → j ∈ depsIn ops i U) ∧
    ∀ j ∈ U, j ∉ depsIn ops i U → x ≠ some j → ∀ oi oj, ops[i]? = some oi → ops[j]? = some oj → oi.apart ops oj = true ∧ compat (kindS P st oi.op) (kindS P st oj.op) = true := by
  unfold freeB at hf
  simp only [Bool.and_eq_true] at hf
  obtain ⟨⟨h1, h2⟩, h3⟩ := hf
  refine ⟨fun j hj oj hoj => ?_, fun j hj => ?_, fun hl j hjs hji => ?_, fun j hj hjD hx oi oj hoi hoj => ?_⟩
  · have := List.all_eq_true.1 h1 j hj
    simp only [Bool.and_eq_true, waitsB, hoj, Option.map_some, Option.getD_some, List.any_eq_true, Bool.or_eq_true, beq_iff_eq, List.contains_iff_mem] at this
    obtain ⟨_, e, he1, he2, he3⟩ := this
    exact ⟨e, by simpa using he1, he2, he3⟩
  · have := List.all_eq_true.1 h1 j hj
    simp only [Bool.and_eq_true, List.contains_iff_mem] at this
    exact this.1
  · simp only [hl, Bool.not_true, Bool.false_or, Bool.or_eq_true, beq_iff_eq, List.contains_iff_mem] at h3
    rcases h3 with h | h
    · omega
    · rwa [show j = ops.size - 1 by omega]
  · have := List.all_eq_true.1 h2 j hj
    simp only [Bool.or_eq_true, List.contains_iff_mem, beq_iff_eq, hoi, hoj, Bool.and_eq_true] at this
    rcases this with (h | h) | h
    · exact absurd h hjD
    · exact absurd h hx
    · exact h

def okL (P : Program) (st : Op → Bool) (ops : Array Oper) : List Nat → Bool
  | [] => true
  | i :: r => mayB ops i r && freeB P st ops i r none && (!(r.isEmpty) || !lastB ops || i + 1 == ops.size) && okL P st ops r

theorem any_plan (hsel : ∀ (j : Nat) (o : Oper) cs b, ops[j]? = some o → o.op ≠ .select cs b) : ∀ (L : List Nat) (l : List Oper) (listed : Array Bool) (a : Act) (w : World), okL P st ops L = true → S w → L.map (fun i => ops[i]?) = l.map some → Left ops listed L →
    wpI P ops S st Q l a w → wpAnyI P ops S st Q L.length listed a w
  | [], l, listed, a, w, _, _, hl, hL, h => by
    have : l = [] := by cases l with | nil => rfl | cons _ _ => simp at hl
    subst this
    refine ⟨?_, h⟩
    rw [List.eq_nil_iff_forall_not_mem]
    intro j hj
    have := hL.mem hj
    cases this
  | i :: r, l, listed, a, w, hok, hS, hl, hL, h => by
    obtain ⟨o, l', rfl⟩ : ∃ o l', l = o :: l' := by cases l with | nil => simp at hl | cons o l' => exact ⟨o, l', rfl⟩
    simp only [List.map_cons, List.cons.injEq] at hl
    obtain ⟨h0, hl⟩ := hl
    unfold okL at hok
    simp only [Bool.and_eq_true] at hok
    obtain ⟨⟨⟨hm, hf⟩, hlast⟩, hr⟩ := hok
    have hready := hL.ready hm
    rcases h with h | ⟨hnil, hlb, _, h⟩
    case inr =>
      have hrn : r = [] := by cases r with | nil => rfl | cons _ _ => rw [hnil] at hl; simp at hl
      subst hrn
      simp only [List.isEmpty_nil, Bool.not_true, Bool.false_or, hlb, beq_iff_eq] at hlast
      refine ⟨fun hr => (by rw [hr] at hready; cases hready), fun j hj => ?_⟩
      have := hL.mem hj
      simp only [List.mem_singleton] at this
      subst this
      refine ⟨o, h0, .inr ⟨hlast, hlb, ?_, h⟩⟩
      rw [List.eq_nil_iff_forall_not_mem]
      intro k hk
      have := hL.done.mem hk
      cases this
    obtain ⟨d1, d2, d3, d4⟩ := freeB_D hf
    refine any_first h0 hsel (depsIn ops i r) d1 d3 r.length listed a w hS ?_ ?_ hready ?_
    · intro j oj hoj hji hun hjD
      have hjlt : j < ops.size := (Array.getElem?_eq_some_iff.1 hoj).1
      rw [hL.get true hjlt] at hun
      have hjU : j ∈ i :: r := Decidable.not_not.1 (of_decide_eq_false hun)
      rcases List.mem_cons.1 hjU with e | hjr
      · exact absurd e hji
      · exact d4 j hjr hjD (by simp) o oj h0 hoj
    · intro j hj
      have hjr := d2 j hj
      rw [hL.get false (hL.lt j (List.mem_cons_of_mem _ hjr))]
      simp [hjr]
    · exact opI_mono hS (fun a' w' hS' hk' => any_plan hsel r l' _ a' w' hr hS' hl hL.done hk') h

/-- two that may come first, everything else apart from both -/
theorem any_first2 {i z : Nat} {oi oz : Oper} (hi : ops[i]? = some oi) (hz : ops[z]? = some oz) (hsel : ∀ (j : Nat) (o : Oper) cs b, ops[j]? = some o → o.op ≠ .select cs b) (D : List Nat)
    (hD : ∀ j ∈ D, ∀ oj, ops[j]? = some oj → ∃ e ∈ oj.after, Region.binds .any e = true ∧ (e.on = i ∨ e.on = z ∨ e.on ∈ D))
    (hlast : lastB ops = true → ∀ j, j + 1 = ops.size → j ≠ i → j ≠ z → j ∈ D) :
    ∀ (fuel : Nat) (listed : Array Bool) (a : Act) (w : World), S w →
      (∀ j oj, ops[j]? = some oj → j ≠ i → j ≠ z → listed.getD j true = false → j ∉ D → (oi.apart ops oj = true ∧ compat (kindS P st oi.op) (kindS P st oj.op) = true) ∧ (oz.apart ops oj = true ∧ compat (kindS P st oz.op) (kindS P st oj.op) = true) ∧ quietK (kindS P st oj.op) = true) →
      (∀ j ∈ D, listed.getD j false = false) →
      i ∈ Region.ready .any ops listed → z ∈ Region.ready .any ops listed →
      opI P ops S st Q oi (wpAnyI P ops S st Q fuel (listed.setIfInBounds i true)) a w → opI P ops S st Q oz (wpAnyI P ops S st Q fuel (listed.setIfInBounds z true)) a w → wpAnyI P ops S st Q (fuel + 1) listed a w := by
  intro fuel
  induction fuel with
  | zero =>
    intro listed a w hS _ _ hr hrz H Hz
    refine ⟨fun h => (by rw [h] at hr; cases hr), fun j hj => ?_⟩
    by_cases hji : j = i
    · subst hji; exact ⟨oi, hi, .inl H⟩
    · have h0 := ready_mono hj hji
      obtain ⟨_, _, _, _, hK⟩ := opI_some hS H
      rw [hK.1] at h0
      cases h0
  | succ fuel ih =>
    intro listed a w hS hfree hDl hr hrz H Hz
    refine ⟨fun h => (by rw [h] at hr; cases hr), fun j hj => ?_⟩
    by_cases hji : j = i
    · subst hji; exact ⟨oi, hi, .inl H⟩
    by_cases hjz : j = z
    · subst hjz; exact ⟨oz, hz, .inl Hz⟩
    obtain ⟨hjun, oj, hoj, hall⟩ := mem_ready.1 hj
    have hun : ∀ {k}, k ∈ Region.ready .any ops listed → listed.getD k false = true → False := fun {k} hk h1 => by
      have h0 := (mem_ready.1 hk).1
      rcases Nat.lt_or_ge k listed.size with h' | h'
      · simp [h'] at h0 h1; rw [h0] at h1; cases h1
      · simp [Array.getElem?_eq_none h'] at h1
    have hjD : j ∉ D := fun hm => by
      obtain ⟨e, he, hb, h⟩ := hD j hm oj hoj
      have h1 := hall e he hb
      rcases h with h | h | h
      · rw [h] at h1; exact hun hr h1
      · rw [h] at h1; exact hun hrz h1
      · rw [hDl _ h] at h1; cases h1
    obtain ⟨⟨hap, hco⟩, ⟨hapz, hcoz⟩, hq⟩ := hfree j oj hoj hji hjz hjun hjD
    have step : ∀ {k : Nat} {ok : Oper}, ops[k]? = some ok → j ≠ k → ok.apart ops oj = true → compat (kindS P st ok.op) (kindS P st oj.op) = true → opI P ops S st Q ok (wpAnyI P ops S st Q (fuel + 1) (listed.setIfInBounds k true)) a w →
        opI P ops S st Q oj (opI P ops S st Q ok (wpAnyI P ops S st Q fuel ((listed.setIfInBounds j true).setIfInBounds k true))) a w := by
      intro k ok hk hjk hap hco Hk
      have hstep : opI P ops S st Q ok (opI P ops S st Q oj (wpAnyI P ops S st Q fuel ((listed.setIfInBounds k true).setIfInBounds j true))) a w := by
        refine opI_mono hS (fun a' w' _ hk' => ?_) Hk
        obtain ⟨oj', hoj', h⟩ := hk'.2 j (ready_mono hj hjk)
        rw [hoj] at hoj'
        obtain rfl := Option.some.inj hoj'
        rcases h with h | ⟨hjs, hlb, _, _⟩
        · exact h
        · exact (hjD (hlast hlb j hjs hji hjz)).elim
      have := swap hap (fun cs b => hsel k ok cs b hk) (fun cs b => hsel j oj cs b hoj) hco hS hstep
      rwa [Array.setIfInBounds_comm _ _ (Ne.symm hjk)] at this
    obtain ⟨v, hg, k1⟩ := gives_of (quietK_spec hq) (step hi hji hap hco H)
    obtain ⟨v', hg', k2⟩ := gives_of (quietK_spec hq) (step hz hjz hapz hcoz Hz)
    obtain rfl := hg.unique hS hg'
    refine ⟨oj, hoj, .inl (hg.opI hS ?_)⟩
    refine ih (listed.setIfInBounds j true) _ w hS ?_ ?_ (ready_mono hr (Ne.symm hji)) (ready_mono hrz (Ne.symm hjz)) k1 k2
    · intro k ok hk' hki hkz hun' hkD
      refine hfree k ok hk' hki hkz ?_ hkD
      by_cases hjk : j = k
      · subst hjk; exact hjun
      · rw [getD_set_ne true hjk] at hun'; exact hun'
    · intro k hk'
      have hjk : j ≠ k := fun h => hjD (h ▸ hk')
      rw [getD_set_ne false hjk]; exact hDl k hk'

/-! ### the walk with one that may come early -/
inductive Fl where
  | n | b | m | z
/-- 'n': ahead of it the variable is not made; 'b': it is made now, or later; 'm': it is made now -/
def wpF (P : Program) (ops : Array Oper) (S : World → Prop) (st : Op → Bool) (Q : Exit → Act → World → Prop) (oz : Oper) : List (Fl × Oper) → Act → World → Prop
  | [], a, w => wpI P ops S st Q [oz] a w
  | (.n, o) :: r, a, w => opI P ops S st Q o (wpF P ops S st Q oz r) a w
  | (.b, o) :: r, a, w => opI P ops S st Q oz (wpI P ops S st Q (o :: r.map Prod.snd)) a w ∧ opI P ops S st Q o (wpF P ops S st Q oz r) a w
  | (_, o) :: r, a, w => opI P ops S st Q oz (wpI P ops S st Q (o :: r.map Prod.snd)) a w

def okF (P : Program) (st : Op → Bool) (ops : Array Oper) (z : Nat) : List (Fl × Nat) → Bool
  | [] => okL P st ops [z]
  | (f, i) :: r =>
    let R := r.map Prod.snd
    match f with
    | .n => mayB ops i (z :: R) && freeB P st ops i (z :: R) none && okF P st ops z r
    | .b => mayB ops i (z :: R) && mayB ops z (i :: R) && okL P st ops (i :: R) && okF P st ops z r &&
        (let D := depsIn ops i R ++ depsIn ops z R
         (D.all fun j => R.contains j) && ((depsIn ops i R).all fun j => waitsB ops j i (depsIn ops i R)) && ((depsIn ops z R).all fun j => waitsB ops j z (depsIn ops z R)) &&
         (!lastB ops || i + 1 == ops.size || z + 1 == ops.size || D.contains (ops.size - 1)) &&
         R.all fun j => D.contains j || match ops[i]?, ops[z]?, ops[j]? with
           | some oi, some oz, some oj => oi.apart ops oj && compat (kindS P st oi.op) (kindS P st oj.op) && oz.apart ops oj && compat (kindS P st oz.op) (kindS P st oj.op) && quietK (kindS P st oj.op)
           | _, _, _ => false)
    | _ => okL P st ops (z :: i :: R)

theorem float_lex (hsel : ∀ (j : Nat) (o : Oper) cs b, ops[j]? = some o → o.op ≠ .select cs b) {z : Nat} {oz : Oper} (hz : ops[z]? = some oz) : ∀ (F : List (Fl × Nat)) (fl : List (Fl × Oper)) (listed : Array Bool) (a : Act) (w : World), okF P st ops z F = true → S w →
    F.map (fun x => (x.1, ops[x.2]?)) = fl.map (fun x => (x.1, some x.2)) → Left ops listed (z :: F.map Prod.snd) → wpF P ops S st Q oz fl a w → wpAnyI P ops S st Q (F.length + 1) listed a w
  | [], fl, listed, a, w, hok, hS, hl, hL, h => by
    have : fl = [] := by cases fl with | nil => rfl | cons _ _ => simp at hl
    subst this
    exact any_plan hsel [z] [oz] listed a w hok hS (by simp [hz]) hL h
  | (f, i) :: r, fl, listed, a, w, hok, hS, hl, hL, h => by
    obtain ⟨⟨f', o⟩, fl', rfl⟩ : ∃ o l', fl = o :: l' := by cases fl with | nil => simp at hl | cons o l' => exact ⟨o, l', rfl⟩
    simp only [List.map_cons, List.cons.injEq, Prod.mk.injEq] at hl
    obtain ⟨⟨rfl, h0⟩, hl⟩ := hl
    have hlm : (r.map Prod.snd).map (fun i => ops[i]?) = (fl'.map Prod.snd).map some := by
      have := congrArg (List.map Prod.snd) hl
      simpa [List.map_map, Function.comp_def] using this
    have hLp : Left ops listed (i :: z :: r.map Prod.snd) := hL.perm (List.Perm.swap _ _ _)
    have hlen : (z :: i :: r.map Prod.snd).length = ((f, i) :: r).length + 1 := by simp
    have must : okL P st ops (z :: i :: r.map Prod.snd) = true → opI P ops S st Q oz (wpI P ops S st Q (o :: fl'.map Prod.snd)) a w → wpAnyI P ops S st Q (((f, i) :: r).length + 1) listed a w := fun hok h => by
      rw [← hlen]
      exact any_plan hsel (z :: i :: r.map Prod.snd) (oz :: o :: fl'.map Prod.snd) listed a w hok hS (by simp only [List.map_cons, hz, h0, hlm]) hL (.inl h)
    cases f with
    | n =>
      simp only [okF, Bool.and_eq_true] at hok
      obtain ⟨⟨hm, hf⟩, hr⟩ := hok
      have h : opI P ops S st Q o (wpF P ops S st Q oz fl') a w := h
      obtain ⟨d1, d2, d3, d4⟩ := freeB_D hf
      refine any_first h0 hsel (depsIn ops i (z :: r.map Prod.snd)) d1 d3 (r.length + 1) listed a w hS ?_ ?_ (hLp.ready hm) ?_
      · intro j oj hoj hji hun hjD
        have hjlt : j < ops.size := (Array.getElem?_eq_some_iff.1 hoj).1
        rw [hLp.get true hjlt] at hun
        have hjU : j ∈ i :: z :: r.map Prod.snd := Decidable.not_not.1 (of_decide_eq_false hun)
        rcases List.mem_cons.1 hjU with e | hjr
        · exact absurd e hji
        · exact d4 j hjr hjD (by simp) o oj h0 hoj
      · intro j hj
        have hjr := d2 j hj
        rw [hLp.get false (hLp.lt j (List.mem_cons_of_mem _ hjr))]
        have : j ∈ i :: z :: r.map Prod.snd := List.mem_cons_of_mem _ hjr
        simp only [this, not_true_eq_false, decide_false]
      · exact opI_mono hS (fun a' w' hS' hk' => float_lex hsel hz r fl' _ a' w' hr hS' hl hLp.done hk') h
    | b =>
      simp only [okF, Bool.and_eq_true] at hok
      obtain ⟨⟨⟨⟨hm, hmz⟩, hkl⟩, hr⟩, ⟨⟨⟨⟨c1, c2⟩, c3⟩, c4⟩, c5⟩⟩ := hok
      obtain ⟨ha, hb⟩ : opI P ops S st Q oz (wpI P ops S st Q (o :: fl'.map Prod.snd)) a w ∧ opI P ops S st Q o (wpF P ops S st Q oz fl') a w := h
      have hDin : ∀ j ∈ depsIn ops i (r.map Prod.snd) ++ depsIn ops z (r.map Prod.snd), j ∈ r.map Prod.snd := fun j hj => by
        have := List.all_eq_true.1 c1 j hj
        simpa using this
      refine any_first2 h0 hz hsel (depsIn ops i (r.map Prod.snd) ++ depsIn ops z (r.map Prod.snd)) ?_ ?_ (r.length + 1) listed a w hS ?_ ?_ (hLp.ready hm) (hL.ready hmz) ?_ ?_
      · intro j hj oj hoj
        rcases List.mem_append.1 hj with hj | hj
        · have := List.all_eq_true.1 c2 j hj
          simp only [waitsB, hoj, Option.map_some, Option.getD_some, List.any_eq_true, Bool.and_eq_true, Bool.or_eq_true, beq_iff_eq, List.contains_iff_mem] at this
          obtain ⟨e, he1, he2, he3⟩ := this
          exact ⟨e, by simpa using he1, he2, he3.elim .inl fun h => .inr (.inr (List.mem_append_left _ h))⟩
        · have := List.all_eq_true.1 c3 j hj
          simp only [waitsB, hoj, Option.map_some, Option.getD_some, List.any_eq_true, Bool.and_eq_true, Bool.or_eq_true, beq_iff_eq, List.contains_iff_mem] at this
          obtain ⟨e, he1, he2, he3⟩ := this
          exact ⟨e, by simpa using he1, he2, he3.elim (fun h => .inr (.inl h)) fun h => .inr (.inr (List.mem_append_right _ h))⟩
      · intro hlb j hjs hji hjz
        simp only [hlb, Bool.not_true, Bool.false_or, Bool.or_eq_true, beq_iff_eq, List.contains_iff_mem] at c4
        rcases c4 with (h | h) | h
        · omega
        · omega
        · rwa [show j = ops.size - 1 by omega]
      · intro j oj hoj hji hjz hun hjD
        have hjlt : j < ops.size := (Array.getElem?_eq_some_iff.1 hoj).1
        rw [hLp.get true hjlt] at hun
        have hjU : j ∈ i :: z :: r.map Prod.snd := Decidable.not_not.1 (of_decide_eq_false hun)
        have hjr : j ∈ r.map Prod.snd := by
          rcases List.mem_cons.1 hjU with e | hjr
          · exact absurd e hji
          · rcases List.mem_cons.1 hjr with e | hjr
            · exact absurd e hjz
            · exact hjr
        have := List.all_eq_true.1 c5 j hjr
        simp only [Bool.or_eq_true, List.contains_iff_mem, h0, hz, hoj, Bool.and_eq_true] at this
        rcases this with h | h
        · exact absurd h hjD
        · exact ⟨⟨h.1.1.1.1, h.1.1.1.2⟩, ⟨h.1.1.2, h.1.2⟩, h.2⟩
      · intro j hj
        have hjr := hDin j hj
        rw [hLp.get false (hLp.lt j (List.mem_cons_of_mem _ (List.mem_cons_of_mem _ hjr)))]
        have : j ∈ i :: z :: r.map Prod.snd := List.mem_cons_of_mem _ (List.mem_cons_of_mem _ hjr)
        simp only [this, not_true_eq_false, decide_false]
      · exact opI_mono hS (fun a' w' hS' hk' => float_lex hsel hz r fl' _ a' w' hr hS' hl hLp.done hk') hb
      · have hlen2 : (i :: r.map Prod.snd).length = r.length + 1 := by simp
        rw [← hlen2]
        exact opI_mono hS (fun a' w' hS' hk' => any_plan hsel (i :: r.map Prod.snd) (o :: fl'.map Prod.snd) _ a' w' hkl hS' (by simp only [List.map_cons, h0, hlm]) hL.done hk') ha
    | m => exact must hok h
    | z => exact must hok h

/-! ### from the text -/
def zipF : List Fl → List Oper → List (Fl × Oper)
  | .z :: fs, _ :: os => zipF fs os
  | .n :: fs, o :: os => (.n, o) :: zipF fs os
  | .b :: fs, o :: os => (.b, o) :: zipF fs os
  | .m :: fs, o :: os => (.m, o) :: zipF fs os
  | [], _ => []
  | _ :: _, [] => []
def idxF : Nat → List Fl → List (Fl × Nat)
  | k, .z :: fs => idxF (k + 1) fs
  | k, .n :: fs => (.n, k) :: idxF (k + 1) fs
  | k, .b :: fs => (.b, k) :: idxF (k + 1) fs
  | k, .m :: fs => (.m, k) :: idxF (k + 1) fs
  | _, [] => []
def zAt : Nat → List Fl → Nat
  | k, .z :: _ => k
  | k, _ :: fs => zAt (k + 1) fs
  | k, [] => k
def zOf : List Fl → List Oper → Oper
  | .z :: _, o :: _ => o
  | .n :: fs, _ :: os => zOf fs os
  | .b :: fs, _ :: os => zOf fs os
  | .m :: fs, _ :: os => zOf fs os
  | _, _ => { dst := none, op := .move (.tmp 0), type := 0, pos := "", after := #[], guard := none }
def okFl (P : Program) (st : Op → Bool) (ops : Array Oper) (fs : List Fl) : Bool :=
  Region.noSelect ops && okF P st ops (zAt 0 fs) (idxF 0 fs) && decide (zAt 0 fs < ops.size) && decide (fs.length = ops.size) && (decide ((zAt 0 fs :: (idxF 0 fs).map Prod.snd).Nodup)) &&
  ((List.range ops.size).all fun j => (zAt 0 fs :: (idxF 0 fs).map Prod.snd).contains j) && decide ((idxF 0 fs).length + 1 = ops.size) && ((zAt 0 fs :: (idxF 0 fs).map Prod.snd).all fun j => decide (j < ops.size))

theorem idx_zip : ∀ (k : Nat) (fs : List Fl) (os : List Oper) (ops : Array Oper), fs.length = os.length → (∀ j, os[j]? = ops[k + j]?) → (idxF k fs).map (fun x => (x.1, ops[x.2]?)) = (zipF fs os).map (fun x => (x.1, some x.2))
  | _, [], _, _, _, _ => rfl
  | k, f :: fs, [], _, h, _ => by simp at h
  | k, f :: fs, o :: os, ops, h, hl => by
    have ih := idx_zip (k + 1) fs os ops (by simpa using h) (fun j => by have := hl (j + 1); simpa [Nat.add_assoc, Nat.add_comm 1 j] using this)
    have h0 : ops[k]? = some o := by simpa using (hl 0).symm
    cases f with
    | z => exact ih
    | n => simp only [idxF, zipF, List.map_cons, h0, ih]
    | b => simp only [idxF, zipF, List.map_cons, h0, ih]
    | m => simp only [idxF, zipF, List.map_cons, h0, ih]
theorem zAt_zOf : ∀ (k : Nat) (fs : List Fl) (os : List Oper) (ops : Array Oper), fs.length = os.length → (∀ j, os[j]? = ops[k + j]?) → zAt k fs < k + fs.length → ops[zAt k fs]? = some (zOf fs os)
  | k, [], os, ops, _, _, h => by simp [zAt] at h
  | k, f :: fs, [], _, h, _, _ => by simp at h
  | k, f :: fs, o :: os, ops, h, hl, hz => by
    have ih := fun hz => zAt_zOf (k + 1) fs os ops (by simpa using h) (fun j => by have := hl (j + 1); simpa [Nat.add_assoc, Nat.add_comm 1 j] using this) hz
    have h0 : ops[k]? = some o := by simpa using (hl 0).symm
    cases f with
    | z => exact h0
    | n => exact ih (by simp only [zAt, List.length_cons] at hz; omega)
    | b => exact ih (by simp only [zAt, List.length_cons] at hz; omega)
    | m => exact ih (by simp only [zAt, List.length_cons] at hz; omega)

/-- **A REGION THAT DRAWS ITS ORDER, AND MAKES ONE VARIABLE ANYWHERE.** fs: a mark for each operation of the text ('z' marks the one that makes the variable). -/
theorem wp_region_float (S : World → Prop) (st : Op → Bool) (fs : List Fl) {id : Nat} {a : Act} {w : World} {l : List Oper} (hm : P.follows .mixedOrders = true) (hB : okFl P st l.toArray fs = true) (hS : S w.drew)
    (h : wpF P l.toArray S st Q (zOf fs l) (zipF fs l) a w.drew) : (Code.region id l.toArray true).wp P Q a w := by
  unfold okFl at hB
  simp only [Bool.and_eq_true, decide_eq_true_eq] at hB
  obtain ⟨⟨⟨⟨⟨⟨⟨hsel, hok⟩, hzl⟩, hfl⟩, hnd⟩, hall⟩, hlen⟩, hlt⟩ := hB
  have hl0 : ∀ j, l[j]? = l.toArray[0 + j]? := fun j => by simp
  have hfl' : fs.length = l.length := by simpa using hfl
  refine wp_region_any hm (wpAny_of_I (S := S) (st := st) _ _ _ _ hS ?_)
  have := float_lex (Q := Q) (S := S) (Region.noSelect_spec hsel) (zAt_zOf 0 fs l l.toArray hfl' hl0 (by rw [Nat.zero_add, hfl']; simpa using hzl)) (idxF 0 fs) (zipF fs l) (Array.replicate l.toArray.size false) a w.drew hok hS (idx_zip 0 fs l _ hfl' hl0)
    ⟨by simp, fun j hj => by
      have hc := List.all_eq_true.1 hall j (List.mem_range.2 hj)
      have hj' : j < l.length := by simpa using hj
      rw [List.contains_iff_mem] at hc
      simp only [hc, not_true_eq_false, decide_false]
      simp [hj'], hnd, fun j hj => by have := List.all_eq_true.1 hlt j hj; simpa using this⟩ h
  rw [hlen] at this
  simpa using this

/-! ### its steps: a single operation by the laws of 'wpI', what follows behind it -/
theorem upon_Q {Q' : Exit → Act → World → Prop} {o : Oper} {a : Act} {next : Act → World → Prop} {r : Result Next} (h : o.upon P a next (OnlyN Q) r) : o.upon P a next (OnlyN Q') r := by
  cases r with
  | halt e w' =>
    cases e <;> simp only [Oper.upon] at h ⊢
    exact h.elim
  | ok n w' =>
    cases n <;> simp only [Oper.upon] at h ⊢ <;> exact h
theorem opI_Q {Q' : Exit → Act → World → Prop} {o : Oper} {a : Act} {w : World} {K : Act → World → Prop} (h : opI P ops S st Q o K a w) : opI P ops S st Q' o K a w := by
  unfold opI at *
  split
  · rename_i hw
    rw [if_pos hw] at h
    refine ⟨h.1, ?_⟩
    have h2 := h.2
    split
    · rename_i hs
      rw [if_pos hs] at h2
      exact h2
    · rename_i hs
      rw [if_neg hs] at h2
      exact upon_Q h2
  · rename_i hw
    rw [if_neg hw] at h
    exact h
theorem opI_one {o : Oper} {R : Act → World → Prop} {a : Act} {w : World} (h : wpI P ops S st (fun _ a w => S w ∧ R a w) [o] a w) (hS : S w) : opI P ops S st Q o R a w := by
  rcases h with h | ⟨_, _, hs, h⟩
  · exact opI_mono hS (fun a w _ hk => hk.2) (opI_Q h)
  · unfold opI at *
    split
    · rename_i hw
      rw [if_pos hw] at h
      refine ⟨h.1, ?_⟩
      have h2 := h.2
      rw [if_neg (show ¬ noSt o.op = true from Bool.false_ne_true)] at h2
      rw [if_neg (by rw [hs]; exact Bool.false_ne_true)]
      exact upon_state rfl (upon_Q h2) fun D u w' hk => hk.2
    · rename_i hw
      rw [if_neg hw] at h
      exact h.2
theorem wpF_n {oz o : Oper} {r : List (Fl × Oper)} {a : Act} {w : World} (hS : S w) (h : wpI P ops S st (fun _ a w => S w ∧ wpF P ops S st Q oz r a w) [o] a w) : wpF P ops S st Q oz ((.n, o) :: r) a w := opI_one h hS
theorem wpF_b {oz o : Oper} {r : List (Fl × Oper)} {a : Act} {w : World} (hS : S w) (h1 : wpI P ops S st Q (oz :: o :: r.map Prod.snd) a w) (h : wpI P ops S st (fun _ a w => S w ∧ wpF P ops S st Q oz r a w) [o] a w) : wpF P ops S st Q oz ((.b, o) :: r) a w := by
  refine ⟨?_, opI_one h hS⟩
  rcases h1 with h1 | ⟨h1, _⟩
  · exact h1
  · cases h1
theorem wpF_m {oz o : Oper} {r : List (Fl × Oper)} {a : Act} {w : World} (h1 : wpI P ops S st Q (oz :: o :: r.map Prod.snd) a w) : wpF P ops S st Q oz ((.m, o) :: r) a w := by
  rcases h1 with h1 | ⟨h1, _⟩
  · exact h1
  · cases h1
theorem wpI_nilS {R : Act → World → Prop} {a : Act} {w : World} (hS : S w) (h : R a w) : wpI P ops S st (fun _ a w => S w ∧ R a w) [] a w := ⟨hS, h⟩
end
end Go.Ord

/- Walks: envelope's head, Stream, Tag. -/
namespace Go.Proofs.YtniibdglodnhoaaGreatDoor
open Go.RowKit Go.Own Go.Bv Go.Ord Go.Eq

theorem hi56 (n : BitVec 64) : (n.toNat : Int) / 72057594037927936 % 256 = (n.toNat : Int) / 72057594037927936 := by have := n.isLt; omega
theorem made_take8 (m : Nat) (h : 8 ≤ m) : (madeCells (Value.int .u8 0).cells m).toList.take 8 = List.replicate 8 (Value.int .u8 0) := by
  have := made_u8 m
  rw [Nat.mul_one] at this
  rw [this, List.take_replicate, Nat.min_eq_left h]

set_option maxHeartbeats 4000000 in
set_option maxRecDepth 100000 in
theorem head_calls (n : BitVec 64) (a : Option Addr) (len cap : Nat) (kind : List (BitVec 8)) (w : World) (hR : Rd w 1 a len cap (u8s kind)) (hk : len ≤ 100) :
    Calls Tryz.prog 57 #[.int .u64 (n.toNat : Int), .slice a len cap] w fun e w' => ∃ a' c', e = .returned (.slice a' (8 + len) c') ∧ Below w.heap.size w w' ∧ w'.ownsRow w.heap.size 5 1 (.slice a' (8 + len) c') (8 + len) (u8s (eight n ++ kind)) := by
  have hO := Own.start w
  have HR := Lib.hid hR
  have n0 := nn n
  have n1 : (n.toNat : Int) < 18446744073709551616 := by have := n.isLt; omega
  clear hR
  generalize hW : w = wn at hO HR ⊢
  clear hW w
  go_enter Tryz.func57, Tryz.ntmps57
  go_wp2_with (first
    | ((with_reducible refine gMake ?_); refine own_makeC hO _ _ 29 eu8_8 8 (8 + len) rfl rfl rfl (by go_num) (by omega) (by omega) (by simp [maxLen]; omega) ?_; clear hO; intro g ww hO))
  replace hO : Own wn ww [.sl 5 1 (.slice (some ⟨g, 0, none⟩) 8 (8 + len)) 8 (fillK (u8s (eight n)) (.int .u8 0) 0)] := by
    rw [fillK_zero, u8s_length, eight_length, ← made_take8 (8 + len) (by omega)]; exact hO
  go_loopg [6, 13] 8 (fun m s6 c wr => ∃ k : Nat, m = 8 - k ∧ k ≤ 8 ∧ c = .int .i64 k ∧ Own wn wr [.sl 5 1 (.slice (some ⟨g, 0, none⟩) 8 (8 + len)) 8 (fillK (u8s (eight n)) (.int .u8 0) k)])
  case atStart => exact ⟨0, rfl, by omega, rfl, hO⟩
  case round =>
    obtain ⟨k, rfl, hk8, rfl, hO1⟩ := hrel
    clear hO
    have hO := hO1
    clear hO1
    by_cases hlt : k < 8
    · have hg := eight_get n k hlt
      obtain ⟨q, hq⟩ : ∃ q, q = k := ⟨k, rfl⟩
      have HQ := Lib.hid hq
      clear hq
      obtain rfl | rfl | rfl | rfl | rfl | rfl | rfl | rfl : k = 0 ∨ k = 1 ∨ k = 2 ∨ k = 3 ∨ k = 4 ∨ k = 5 ∨ k = 6 ∨ k = 7 := by omega
      all_goals
        simp [hi56] at hg
        have HG := Lib.hid hg
        clear hg
        go_wp2_with ((with_reducible refine gStore ?_); refine own_setElem hO 0 5 _ _ _ rfl rfl rfl (by omega) iu8s_8 rfl ?_; clear hO; intro ww hO)
        go_roundg (8 - (q + 1))
        case measure => rw [HQ.out]; omega
        case rel =>
          refine ⟨q + 1, rfl, by rw [HQ.out]; omega, by rw [HQ.out]; go_num, ?_⟩
          rw [HQ.out, ← fillK_set _ _ _ _ HG.out]
          exact hO
    · obtain rfl : k = 8 := by omega
      have hall := fillK_all (u8s (eight n)) (.int .u8 0)
      rw [u8s_length, eight_length] at hall
      rw [hall] at hO
      clear hall
      go_wp2_with (first
        | ((with_reducible refine gAppend ?_); refine own_append hO 0 _ _ 29 eu8_8 rfl rfl rfl (hO.rd HR.out) (u8s_one _) (8 + len) rfl (by simp [maxLen]; omega) (by omega) ?_; clear hO; intro a2 c2 ww hO))
      go_ret
      refine ⟨a2, c2, rfl, hO.below, ?_⟩
      rw [u8s_append]
      exact hO.row 0 rfl

/-- what is handed back: octets in a block of its own -/
def BkRet (w : World) (X : List (BitVec 8)) (n : Nat) (e : Ending) (w' : World) : Prop :=
  ∃ g C, e = .returned (.tuple #[.slice (some ⟨g, 0, none⟩) n n, .int .i64 0]) ∧ Below w.heap.size w w' ∧ Res.holds w.heap.size w' (.blk g (.cells C 5 (0,0))) ∧ C.toList.take n = u8s X

set_option maxHeartbeats 4000000 in
set_option maxRecDepth 100000 in
theorem stream_ok (key : St) (n : BitVec 64) (m : Nat) (hm : m ≤ 65536) (w : World) (hT : Turns w) :
    Calls Tryz.prog 91 #[.agg key.C, .int .u64 (n.toNat : Int), .int .i64 (m : Int)] w (BkRet w (key.stream n m) m) := by
  have hO := Own.start w
  obtain ⟨L9, hL9⟩ : ∃ L, eight n ++ [1#8] = L := ⟨_, rfl⟩
  obtain ⟨u, hu⟩ : ∃ u, key.absorb L9 = u := ⟨_, rfl⟩
  obtain ⟨X, hX⟩ : ∃ X, u.squeeze m = X := ⟨_, rfl⟩
  have hS : key.stream n m = X := by rw [← hX, ← hu, ← hL9]; rfl
  have g1 := fun w a c hR => head_calls n a 1 c [1#8] w hR (by omega)
  have g2 := fun w a c hR hT => absorb1_calls key a 9 c L9 w hR hT (by omega)
  have g3 := fun w hT => squeeze_calls u m (by omega) w hT
  rw [hL9] at g1
  rw [hu] at g2
  unfold SqRet at g3
  rw [hX] at g3
  rw [hS]
  have G1 := Lib.hid g1
  have G2 := Lib.hid g2
  have G3 := Lib.hid g3
  have HT := Lib.hid hT
  have d1 : decide ((65536 : Int) < (m : Int)) = false := by simp; omega
  clear hT g1 g2 g3 hL9 hu hX hS
  generalize hW : w = wn at hO HT ⊢
  clear hW w
  go_enter Tryz.func91, Tryz.ntmps91
  go_wp2_with (first | ((with_reducible refine gBox ?_); first | (refine bxA hO rfl ?_; clear hO; intro b ww hO) | (refine bx1 hO rfl rfl ?_; clear hO; intro b ww hO)))
  replace hO : Own wn _ [.blk b (.cells key.C 24 (0,0))] := hO
  refine wp_region_float (fun w' => Own wn w' [.blk b (.cells key.C 24 (0,0))]) (fun op => match op with | .load _ _ => true | _ => false) [.n, .n, .b, .b, .b, .m, .n, .n, .z, .n, .n] (by kernel_rfl) (by kernel_rfl) hO.drew ?_
  dsimp only [zipF, zOf]
  replace hO := hO.drew
  generalize World.drew _ = wd at hO ⊢
  go_wp2_with (first
    | (((with_reducible refine gIL ?_); first | refine wpI_ldS (fun w' hS => hS.blk 0 rfl) rfl rfl (tA rfl) (tS rfl) ?_); first | (refine wpI_act (by simp only [Act.put, List.setIfInBounds_toArray, List.set_cons_succ, List.set_cons_zero]; rfl) ?_) | skip)
    | ((with_reducible refine gLoad ?_); first | refine ldX hO 0 rfl rfl (tA rfl) (tS rfl) ?_ | refine ldC hO 0 rfl rfl (tA rfl) rfl ?_ | refine ldX hO 1 rfl rfl (tA rfl) (tS rfl) ?_ | refine ldC hO 1 rfl rfl (tA rfl) rfl ?_ | refine ldX hO 2 rfl rfl (tA rfl) (tS rfl) ?_ | refine ldC hO 2 rfl rfl (tA rfl) rfl ?_ | refine ldX hO 3 rfl rfl (tA rfl) (tS rfl) ?_ | refine ldC hO 3 rfl rfl (tA rfl) rfl ?_ | refine ldX hO 4 rfl rfl (tA rfl) (tS rfl) ?_ | refine ldC hO 4 rfl rfl (tA rfl) rfl ?_)
    | ((with_reducible refine gStore ?_); first | (refine stX hO 0 rfl rfl rfl rfl rfl (tS rfl) ?_; clear hO; intro ww hO) | (refine stC hO 0 rfl rfl rfl (ltb rfl) rfl (tS rfl) ?_; clear hO; intro ww hO) | (refine stX hO 1 rfl rfl rfl rfl rfl (tS rfl) ?_; clear hO; intro ww hO) | (refine stC hO 1 rfl rfl rfl (ltb rfl) rfl (tS rfl) ?_; clear hO; intro ww hO) | (refine stX hO 2 rfl rfl rfl rfl rfl (tS rfl) ?_; clear hO; intro ww hO) | (refine stC hO 2 rfl rfl rfl (ltb rfl) rfl (tS rfl) ?_; clear hO; intro ww hO) | (refine stX hO 3 rfl rfl rfl rfl rfl (tS rfl) ?_; clear hO; intro ww hO) | (refine stC hO 3 rfl rfl rfl (ltb rfl) rfl (tS rfl) ?_; clear hO; intro ww hO))
    | ((with_reducible refine gAlloc ?_); refine own_alloc hO _ _ iwz ?_; clear hO; intro bb ww hO)
    | ((with_reducible refine gBuild ?_); refine own_build hO 29 1 _ eu8_8 (u8s [1#8]).toArray (by omega) (by omega) (by simp [go_sem, Instr.fill, u8s]) rfl ?_; clear hO; intro g ww hO)
    | (go_at_call 57; (first | refine (G1.out _ _ _ (hO.rdAt 0 rfl)).mono ?_ | refine (G1.out _ _ _ (hO.rdAt 1 rfl)).mono ?_); rintro e ww ⟨a2, c2, rfl, hb, hr⟩; replace hO := hO.addRow hb hr; clear hb hr)
    | (go_at_call 92; (first | refine (G2.out _ _ _ (hO.rdAt 0 rfl) (HT.out.own hO)).mono ?_ | refine (G2.out _ _ _ (hO.rdAt 1 rfl) (HT.out.own hO)).mono ?_); rintro e ww ⟨rfl, hb⟩; replace hO := hO.call hb; clear hb)
    | (go_at_call 113; refine (G3.out _ (HT.out.own hO)).mono ?_; rintro e ww ⟨g, C, rfl, hb, hh, hC⟩; have HH := Lib.hid (hh.mono hO.size); replace hO := hO.call hb; clear hb hh)
    | ((with_reducible refine wpF_n ?_ ?_); exact hO.sub (by repeat first | exact List.Sublist.refl _ | apply List.Sublist.cons)) | ((with_reducible refine wpF_b ?_ ?_ ?_); exact hO.sub (by repeat first | exact List.Sublist.refl _ | apply List.Sublist.cons); dsimp only [List.map]) | ((with_reducible refine wpF_m ?_); dsimp only [List.map]) | ((with_reducible refine wpI_nilS ?_ ?_); exact hO.sub (by repeat first | exact List.Sublist.refl _ | apply List.Sublist.cons))
    | ((with_reducible refine gI ?_); refine wpI_step rfl rfl (by kernel_rfl) ?_; intro K hK; have HK := Lib.hid hK; clear hK) | ((with_reducible refine gI ?_); first | refine wpI_skip rfl ?_ | refine wpI_want rfl ?_) | ((with_reducible refine gOnlyK HK.out ?_ ?_); exact hO.sub (by repeat first | exact List.Sublist.refl _ | apply List.Sublist.cons); clear HK K; first | (refine wpI_act (by simp only [Act.put, List.setIfInBounds_toArray, List.set_cons_succ, List.set_cons_zero]; rfl) ?_) | skip) | (with_reducible refine wpI_nil ?_))
  all_goals
    go_ret2
    exact ⟨g, C, rfl, hO.below, HH.out, hC⟩

set_option maxHeartbeats 4000000 in
set_option maxRecDepth 100000 in
theorem tag_ok (key : St) (n : BitVec 64) (a : Option Addr) (len cap : Nat) (t : List (BitVec 8)) (w : World) (hR : Rd w 1 a len cap (u8s t)) (hl : len ≤ 65536) (hT : Turns w) :
    Calls Tryz.prog 56 #[.agg key.C, .int .u64 (n.toNat : Int), .slice a len cap] w fun e w' => e = .returned (.tuple #[.agg (key.tag n t).C, .int .i64 0]) ∧ Below w.heap.size w w' := by
  have hO := Own.start w
  obtain ⟨L9, hL9⟩ : ∃ L, eight n ++ [2#8] = L := ⟨_, rfl⟩
  obtain ⟨L, hL⟩ : ∃ L, L9 ++ t = L := ⟨_, rfl⟩
  obtain ⟨u, hu⟩ : ∃ u, key.absorb L = u := ⟨_, rfl⟩
  have hS : key.tag n t = u := by rw [← hu, ← hL, ← hL9]; rfl
  have g1 := fun w a c hR => head_calls n a 1 c [2#8] w hR (by omega)
  have g2 := fun w a c hR hT => absorb1_calls key a (9 + len) c L w hR hT (by omega)
  rw [hL9] at g1
  rw [hu] at g2
  rw [hS]
  have HL : Hid (u8s L = u8s L9 ++ u8s t) := by show _ = _; rw [← hL, u8s_append]
  have G1 := Lib.hid g1
  have G2 := Lib.hid g2
  have HT := Lib.hid hT
  have HR := Lib.hid hR
  have d1 : decide ((65536 : Int) < (len : Int)) = false := by simp; omega
  clear hT hR g1 g2 hL9 hL hu hS
  generalize hW : w = wn at hO HT HR ⊢
  clear hW w
  go_enter Tryz.func56, Tryz.ntmps56
  go_wp2_with (first | ((with_reducible refine gBox ?_); first | (refine bxA hO rfl ?_; clear hO; intro b ww hO) | (refine bx1 hO rfl rfl ?_; clear hO; intro b ww hO)) | ((with_reducible refine gAlloc ?_); refine own_alloc hO _ _ iwz ?_; clear hO; intro rr ww hO))
  replace hO : Own wn _ [.blk rr (.cells St.zero.C 24 (0,0)), .blk b (.cells key.C 24 (0,0))] := hO
  refine wp_region_textS (fun w' => Own wn w' [.blk b (.cells key.C 24 (0,0))]) (fun op => match op with | .load _ _ => true | _ => false) (by kernel_rfl) (by kernel_rfl) (hO.drew.sub (by repeat first | exact List.Sublist.refl _ | apply List.Sublist.cons)) ?_
  replace hO := hO.drew
  generalize World.drew _ = wd at hO ⊢
  go_wp2_with (first
    | (((with_reducible refine gIL ?_); first | refine wpI_ldS (fun w' hS => hS.blk 0 rfl) rfl rfl (tA rfl) (tS rfl) ?_); first | (refine wpI_act (by simp only [Act.put, List.setIfInBounds_toArray, List.set_cons_succ, List.set_cons_zero]; rfl) ?_) | skip)
    | ((with_reducible refine gStore ?_); refine stX hO 2 rfl rfl rfl rfl rfl (tS rfl) ?_; clear hO; intro ww hO)
    | ((with_reducible refine gBuild ?_); refine own_build hO 29 1 _ eu8_8 (u8s [2#8]).toArray (by omega) (by omega) (by simp [go_sem, Instr.fill, u8s]) rfl ?_; clear hO; intro g ww hO)
    | (go_at_call 57; refine (G1.out _ _ _ (hO.rdAt 0 rfl)).mono ?_; rintro e ww ⟨a2, c2, rfl, hb, hr⟩; replace hO := hO.addRow hb hr; clear hb hr)
    | ((with_reducible refine gAppend ?_); refine own_append hO 0 _ _ 29 eu8_8 rfl rfl rfl (hO.rd HR.out) (u8s_one _) (9 + len) rfl (by simp [maxLen]; omega) (by omega) ?_; clear hO; intro a3 c3 ww hO)
    | (go_at_call 92; refine (G2.out _ _ _ (by rw [HL.out]; exact hO.rdAt 0 rfl) (HT.out.own hO)).mono ?_; rintro e ww ⟨rfl, hb⟩; replace hO := hO.call hb; clear hb)
    | ((with_reducible refine gI ?_); refine wpI_step rfl rfl (by kernel_rfl) ?_; intro K hK; have HK := Lib.hid hK; clear hK) | ((with_reducible refine gI ?_); first | refine wpI_skip rfl ?_ | refine wpI_want rfl ?_) | ((with_reducible refine gOnlyK HK.out ?_ ?_); exact hO.sub (by repeat first | exact List.Sublist.refl _ | apply List.Sublist.cons); clear HK K; first | (refine wpI_act (by simp only [Act.put, List.setIfInBounds_toArray, List.set_cons_succ, List.set_cons_zero]; rfl) ?_) | skip) | (with_reducible refine wpI_nil ?_))
  refine bodyPost_ret (res_ct rfl _ _ rr 24 u.C (0,0) _ rfl (hO.blk 2 rfl) Tryz.underlying24 rfl (iws' _)) rfl ⟨rfl, hO.below⟩
end Go.Proofs.YtniibdglodnhoaaGreatDoor

/- Walks: envelope's hide, Seal, Open. -/
namespace Go.Proofs.YtniibdglodnhoaaGreatDoor
open Go.RowKit Go.Own Go.Bv Go.Ord Go.Eq

theorem wrap_u64' (n : Int) : IntKind.u64.wrap n = n % 18446744073709551616 := by simp [IntKind.wrap, IntKind.bits, IntKind.signed]
theorem ibz : (Tryz.prog.info? 54).bind (·.zero) = some (.agg (boxC 0#64 (.slice none 0 0) St.zero)) := by kernel_rfl
theorem irz : (Tryz.prog.info? 27).bind (·.zero) = some (.agg (ringC St.zero 0#64)) := by kernel_rfl
theorem ibs (n : BitVec 64) (v : Value) (s : St) : (Tryz.prog.info? 54).map (·.size) = some (boxC n v s).size := (by kernel_rfl : (Tryz.prog.info? 54).map (·.size) = some 6)
theorem irs (s : St) (n : BitVec 64) : (Tryz.prog.info? 27).map (·.size) = some (ringC s n).size := (by kernel_rfl : (Tryz.prog.info? 27).map (·.size) = some 5)

def hidK (b s : List (BitVec 8)) (k : Nat) : List (BitVec 8) := St.xors (b.take k) s ++ s.drop k
theorem hidK_zero (b s : List (BitVec 8)) : hidK b s 0 = s := by simp [hidK, St.xors]
theorem hidK_all (b s : List (BitVec 8)) (h : s.length = b.length) : hidK b s b.length = St.xors b s := by
  unfold hidK
  rw [List.take_length, List.drop_of_length_le (by omega), List.append_nil]
theorem hidK_get (b s : List (BitVec 8)) (k : Nat) (h : s.length = b.length) (hk : k < b.length) : (hidK b s k)[k]? = some (s[k]'(by omega)) := by
  unfold hidK St.xors
  rw [List.getElem?_append_right (by simp; omega)]
  simp only [List.length_zipWith, List.length_take]
  rw [List.getElem?_drop, show k + (k - min (min k b.length) s.length) = k by omega]
  exact List.getElem?_eq_getElem _
theorem hidK_next (b s : List (BitVec 8)) (k : Nat) (h : s.length = b.length) (hk : k < b.length) : hidK b s (k + 1) = (hidK b s k).set k (s[k]'(by omega) ^^^ b[k]) := by
  apply List.ext_getElem?
  intro i
  rw [List.getElem?_set]
  unfold hidK St.xors
  have hl : ∀ k, k ≤ b.length → (List.zipWith (· ^^^ ·) (b.take k) s).length = k := fun k hk => by simp; omega
  by_cases hik : k = i
  · subst hik
    rw [if_pos rfl, if_pos (by rw [List.length_append, hl k (by omega)]; simp; omega)]
    rw [List.getElem?_append_left (by rw [hl (k + 1) (by omega)]; omega), List.getElem?_zipWith, List.getElem?_take_of_lt (by omega), List.getElem?_eq_getElem hk, List.getElem?_eq_getElem (show k < s.length by omega)]
    simp [BitVec.xor_comm]
  · rw [if_neg hik]
    by_cases hlt : i < k
    · rw [List.getElem?_append_left (by rw [hl (k + 1) (by omega)]; omega), List.getElem?_append_left (by rw [hl k (by omega)]; omega), List.getElem?_zipWith, List.getElem?_zipWith, List.getElem?_take_of_lt (by omega), List.getElem?_take_of_lt (by omega)]
    · rw [List.getElem?_append_right (by rw [hl (k + 1) (by omega)]; omega), List.getElem?_append_right (by rw [hl k (by omega)]; omega), hl (k + 1) (by omega), hl k (by omega), List.getElem?_drop, List.getElem?_drop]
      congr 1
      omega
theorem u8s_set (l : List (BitVec 8)) (k : Nat) (x : BitVec 8) : u8s (l.set k x) = (u8s l).set k (.int .u8 (x.toNat : Int)) := by simp [u8s, List.map_set]

set_option maxHeartbeats 2000000 in
set_option maxRecDepth 100000 in
theorem hide_ok (key : St) (n : BitVec 64) (a : Option Addr) (len cap : Nat) (b : List (BitVec 8)) (w : World) (hR : Rd w 1 a len cap (u8s b)) (hl : len ≤ 65536) (hT : Turns w) :
    Calls Tryz.prog 55 #[.agg key.C, .int .u64 (n.toNat : Int), .slice a len cap] w (BkRet w (key.hide n b) len) := by
  have hO := Own.start w
  have hbl : b.length = len := by have := hR.len; rw [u8s_length] at this; omega
  obtain ⟨s, hs⟩ : ∃ s, key.stream n len = s := ⟨_, rfl⟩
  have hsl : s.length = b.length := by rw [← hs, St.stream_length, hbl]
  have hX : key.hide n b = hidK b s len := by rw [← hbl, hidK_all b s hsl, ← hs, ← hbl]; rfl
  have g1 := fun w hT => stream_ok key n len hl w hT
  rw [hs] at g1
  unfold BkRet at g1
  rw [hX]
  have G1 := Lib.hid g1
  have HR := Lib.hid hR
  have HT := Lib.hid hT
  have HBL := Lib.hid hbl
  have HSL := Lib.hid hsl
  clear hT hR g1 hs hX hbl hsl
  generalize hW : w = wn at hO HT HR ⊢
  clear hW w
  go_enter Tryz.func55, Tryz.ntmps55
  go_wp2_with (first
    | ((with_reducible refine gBox ?_); first | (refine bxA hO rfl ?_; clear hO; intro bk ww hO) | (refine bx1 hO rfl rfl ?_; clear hO; intro bk ww hO))
    | ((with_reducible refine gLoad ?_); first | refine ldX hO 0 rfl rfl (tA rfl) (tS rfl) ?_ | refine ldC hO 0 rfl rfl (tA rfl) rfl ?_)
    | (go_at_call 91; refine (G1.out _ (HT.out.own hO)).mono ?_; rintro e ww ⟨g, C, rfl, hb, hh, hC⟩; replace hO := hO.add hb hh; clear hb hh))
  replace hO : Own wn _ [.blk g (.cells C 5 (0,0)), .blk bk (.cells key.C 24 (0,0))] := hO
  go_loopg [10, 11, 25] len (fun m s10 s11 c wr => ∃ (k : Nat) (D : Array Value), m = len - k ∧ k ≤ len ∧ c = .int .i64 k ∧ D.toList.take len = u8s (hidK b s k) ∧ Own wn wr [.blk g (.cells D 5 (0,0)), .blk bk (.cells key.C 24 (0,0))])
  case atStart => exact ⟨0, C, rfl, by omega, rfl, by rw [hidK_zero]; exact hC, hO⟩
  case round =>
    obtain ⟨k, D, rfl, hk, rfl, hD, hO1⟩ := hrel
    clear hO hC
    have hO := hO1
    clear hO1
    by_cases hlt : k < len
    · have hb0 : decide ((k : Int) < (len : Int)) = true := by simp; omega
      have hkb : k < b.length := by rw [HBL.out]; exact hlt
      have HN := Lib.hid (hidK_next b s k HSL.out hkb)
      have hg := congrArg (fun l => (u8s l)[k]?) (hidK_next b s k HSL.out hkb)
      clear hg
      have hv : D.toList[k]? = some (.int .u8 ((s[k]'(by rw [HSL.out]; exact hkb)).toNat : Int)) := by
        have h1 := congrArg (·[k]?) hD
        simp only [List.getElem?_take_of_lt hlt] at h1
        rw [h1]
        unfold u8s
        rw [List.getElem?_map, hidK_get b s k HSL.out hkb]; rfl
      have HV := Lib.hid hv
      have hsz : k < D.size := by
        have := (List.getElem?_eq_some_iff.1 hv).1
        simpa using this
      have HB := Lib.hid (u8s_get b k hkb)
      obtain ⟨b0, off, rfl⟩ := HR.out.place (by omega)
      have HD := Lib.hid hD
      generalize s[k]'(by rw [HSL.out]; exact hkb) = x at *
      generalize b[k] = y at *
      have e := xor8 x y
      generalize x ^^^ y = z at *
      clear hv hD
      go_wp2_with (first
        | ((with_reducible refine gLoad ?_); first | refine ldC hO 0 rfl rfl (tA rfl) HV.out ?_ | refine ld_rd (hO.rd HR.out) rfl (HB.out) (tA rfl) ?_)
        | ((with_reducible refine gStore ?_); refine stC hO 0 rfl rfl rfl hsz rfl (tS rfl) ?_; clear hO; intro ww hO))
      go_roundg (len - (k + 1))
      case measure => omega
      case rel =>
        refine ⟨k + 1, _, rfl, by omega, by go_num, ?_, hO⟩
        rw [HN.out, u8s_set, ← HD.out, Array.toList_setIfInBounds, List.take_set]
    · have hb0 : decide ((k : Int) < (len : Int)) = false := by simp; omega
      obtain rfl : k = len := by omega
      have HD := Lib.hid hD
      clear hD
      go_wp2
      go_ret2
      exact ⟨g, D, rfl, hO.below, hO.at 0 rfl, HD.out⟩

set_option maxHeartbeats 2000000 in
set_option maxRecDepth 100000 in
theorem seal_ok (key : St) (n : BitVec 64) (a : Option Addr) (len cap : Nat) (b : List (BitVec 8)) (w : World) (hR : Rd w 1 a len cap (u8s b)) (hl : len ≤ 65536) (hn : n ≠ 18446744073709551615#64) (hT : Turns w) :
    Calls Tryz.prog 28 #[.agg (ringC key n), .slice a len cap] w fun e w' => ∃ g C, e = .returned (.tuple #[.agg (boxC n (.slice (some ⟨g, 0, none⟩) len len) (key.tag n (key.hide n b))), .agg (ringC key (n + 1#64)), .int .i64 0]) ∧ Below w.heap.size w w' ∧ Res.holds w.heap.size w' (.blk g (.cells C 5 (0,0))) ∧ C.toList.take len = u8s (key.hide n b) := by
  have hO := Own.start w
  have hbl : b.length = len := by have := hR.len; rw [u8s_length] at this; omega
  obtain ⟨t, ht⟩ : ∃ t, key.hide n b = t := ⟨_, rfl⟩
  have htl : t.length = len := by rw [← ht, St.hide_length, hbl]
  obtain ⟨u, hu⟩ : ∃ u, key.tag n t = u := ⟨_, rfl⟩
  have g1 := fun w hR hT => hide_ok key n a len cap b w hR hl hT
  have g2 := fun w a c hR hT => tag_ok key n a len c t w hR hl hT
  rw [ht] at g1
  rw [hu] at g2
  unfold BkRet at g1
  rw [ht, hu]
  have nlt := n.isLt
  have hne : n.toNat ≠ 18446744073709551615 := fun h => hn (BitVec.eq_of_toNat_eq h)
  have d1 : ((n.toNat : Int) == 18446744073709551615) = false := by simp; omega
  obtain ⟨n1, hn1⟩ : ∃ n1, n + 1#64 = n1 := ⟨_, rfl⟩
  have e1 : IntKind.u64.wrap ((n.toNat : Int) + 1) = (n1.toNat : Int) := by rw [wrap_u64', ← hn1, BitVec.toNat_add]; simp
  rw [hn1]
  have G1 := Lib.hid g1
  have G2 := Lib.hid g2
  have HR := Lib.hid hR
  have HT := Lib.hid hT
  have n0 := nn n
  have nL : (n.toNat : Int) < 18446744073709551616 := by omega
  have HTL := Lib.hid htl
  clear hT hR g1 g2 ht hu hbl htl hn hne nlt hn1
  generalize hW : w = wn at hO HT HR ⊢
  clear hW w
  go_enter Tryz.func28, Tryz.ntmps28
  go_wp2_with (first
    | ((with_reducible refine gBox ?_); first | (refine bxA hO rfl ?_; clear hO; intro br ww hO) | (refine bx1 hO rfl rfl ?_; clear hO; intro br ww hO))
    | ((with_reducible refine gG ?_); refine wpList_want rfl ?_)
    | ((with_reducible refine gAlloc (T := 54) ?_); refine own_alloc hO _ _ ibz ?_; clear hO; intro bx ww hO)
    | ((with_reducible refine gAlloc (T := 27) ?_); refine own_alloc hO _ _ irz ?_; clear hO; intro bn ww hO)
    | ((with_reducible refine gLoad (T := 24) ?_); first | refine ldA hO 2 key.C rfl rfl (tA rfl) (tS rfl) rfl ?_ | refine ldA hO 3 key.C rfl rfl (tA rfl) (tS rfl) rfl ?_)
    | ((with_reducible refine gLoad (T := 25) ?_); first | refine ldC hO 3 rfl rfl (tA rfl) rfl ?_ | refine ldC hO 2 rfl rfl (tA rfl) rfl ?_)
    | ((with_reducible refine gLoad (T := 29) ?_); refine ldC hO 2 rfl rfl (tA rfl) rfl ?_)
    | (go_at_call 55; refine (G1.out _ (hO.rd HR.out) (HT.out.own hO)).mono ?_; rintro e ww ⟨g, C, rfl, hb, hh, hC⟩; replace hO := hO.add hb hh; clear hb hh)
    | ((with_reducible refine gStore (T := 29) ?_); refine stC hO 2 rfl rfl rfl (ltb rfl) rfl (tS rfl) ?_; clear hO; intro ww hO)
    | ((with_reducible refine gStore (T := 25) ?_); first | (refine stC hO 2 rfl rfl rfl (ltb rfl) rfl (tS rfl) ?_; clear hO; intro ww hO) | (refine stC hO 3 rfl rfl rfl (ltb rfl) rfl (tS rfl) ?_; clear hO; intro ww hO; replace hO : Own wn ww [.blk g (.cells C 5 (0,0)), .blk bn (.cells (ringC St.zero 0#64) 27 (0,0)), .blk bx (.cells (boxC n (.slice (some ⟨g, 0, none⟩) len len) u) 54 (0,0)), .blk br (.cells (ringC key n1) 27 (0,0))] := hO))
    | (go_at_call 56; refine (G2.out _ _ _ (rd_blk_off (hO.blk 0 rfl) 0 (by rw [List.drop_zero]; exact hC) (by rw [u8s_length]; exact HTL.out) (Nat.le_refl _) (by simp [maxLen]; omega)) (HT.out.own hO)).mono ?_; rintro e ww ⟨rfl, hb⟩; replace hO := hO.call hb; clear hb)
    | ((with_reducible refine gStore (T := 24) ?_); refine stP hO 2 rfl rfl rfl rfl rfl (tS rfl) rfl ?_; clear hO; intro ww hO))
  refine wp_region_textS (fun w' => Own wn w' [.blk bx (.cells (boxC n (.slice (some ⟨g, 0, none⟩) len len) u) 54 (0,0)), .blk br (.cells (ringC key n1) 27 (0,0))]) (fun op => match op with | .load _ _ => true | _ => false) (by kernel_rfl) (by kernel_rfl) (hO.drew.sub (by repeat first | exact List.Sublist.refl _ | apply List.Sublist.cons)) ?_
  replace hO := hO.drew
  generalize World.drew _ = wd at hO ⊢
  go_wp2_with (first
    | (((with_reducible refine gIL ?_); first | refine wpI_ldS (fun w' hS => hS.blk 0 rfl) rfl rfl (tA rfl) (tS rfl) ?_ | refine wpI_ldS (fun w' hS => hS.blk 1 rfl) rfl rfl (tA rfl) (tS rfl) ?_); first | (refine wpI_act (by simp only [Act.put, List.setIfInBounds_toArray, List.set_cons_succ, List.set_cons_zero]; rfl) ?_) | skip)
    | ((with_reducible refine gStore (T := 54) ?_); refine stX hO 2 rfl rfl rfl rfl rfl (tS rfl) ?_; clear hO; intro ww hO)
    | ((with_reducible refine gStore (T := 27) ?_); refine stX hO 1 rfl rfl rfl rfl rfl (tS rfl) ?_; clear hO; intro ww hO)
    | ((with_reducible refine gI ?_); refine wpI_step rfl rfl (by kernel_rfl) ?_; intro K hK; have HK := Lib.hid hK; clear hK) | ((with_reducible refine gI ?_); first | refine wpI_skip rfl ?_ | refine wpI_want rfl ?_) | ((with_reducible refine gOnlyK HK.out ?_ ?_); exact hO.sub (by repeat first | exact List.Sublist.refl _ | apply List.Sublist.cons); clear HK K; first | (refine wpI_act (by simp only [Act.put, List.setIfInBounds_toArray, List.set_cons_succ, List.set_cons_zero]; rfl) ?_) | skip) | (with_reducible refine wpI_nil ?_))
  refine bodyPost_ret (res_cct rfl _ _ bx bn 54 27 (boxC n (.slice (some ⟨g, 0, none⟩) len len) u) (ringC key n1) (0,0) (0,0) _ _ rfl (hO.blk 2 rfl) Tryz.underlying54 rfl (ibs _ _ _) rfl (hO.blk 1 rfl) Tryz.underlying27 rfl (irs _ _)) rfl ⟨g, C, rfl, hO.below, hO.at 0 rfl, hC⟩
end Go.Proofs.YtniibdglodnhoaaGreatDoor

/- Walks: envelope's Open, Seal of a full ring, the law's live. -/
namespace Go.Proofs.YtniibdglodnhoaaGreatDoor
open Go.RowKit Go.Own Go.Bv Go.Ord Go.Eq

theorem v_egW : Tryz.prog.eqGuardType Tryz.prog.depth 24 = false := by kernel_rfl
theorem neW (s t : St) (w : World) : (binOp .neq 24 (.agg s.C) (.agg t.C)).run Tryz.prog w = .ok (.bool (!decide (s = t))) w := by
  have := run_neq_u32 (P := Tryz.prog) w Tryz.underlying24 Tryz.underlying22 iu32s s.l t.l rfl rfl
  rw [decide_eq_decide.2 St.l_inj] at this
  exact this

set_option maxHeartbeats 2000000 in
set_option maxRecDepth 100000 in
theorem seal_full (key : St) (n : BitVec 64) (a : Option Addr) (len cap : Nat) (b : List (BitVec 8)) (w : World) (hR : Rd w 1 a len cap (u8s b)) (hl : len ≤ 65536) (hn : n = 18446744073709551615#64) (hT : Turns w) :
    Calls Tryz.prog 28 #[.agg (ringC key n), .slice a len cap] w fun e w' => e = .returned (.tuple #[.agg (boxC 0#64 (.slice none 0 0) St.zero), .agg (ringC St.zero 0#64), .int .i64 6]) ∧ Below w.heap.size w w' := by
  have hO := Own.start w
  obtain ⟨t, ht⟩ : ∃ t, key.hide n b = t := ⟨_, rfl⟩
  have g1 := fun w hR hT => hide_ok key n a len cap b w hR hl hT
  rw [ht] at g1
  unfold BkRet at g1
  have d1 : ((n.toNat : Int) == 18446744073709551615) = true := by rw [hn]; rfl
  have G1 := Lib.hid g1
  have HR := Lib.hid hR
  have HT := Lib.hid hT
  clear hT hR g1 ht hn
  generalize hW : w = wn at hO HT HR ⊢
  clear hW w
  go_enter Tryz.func28, Tryz.ntmps28
  go_wp2_with (first
    | ((with_reducible refine gBox ?_); first | (refine bxA hO rfl ?_; clear hO; intro br ww hO) | (refine bx1 hO rfl rfl ?_; clear hO; intro br ww hO))
    | ((with_reducible refine gG ?_); refine wpList_want rfl ?_)
    | ((with_reducible refine gAlloc (T := 54) ?_); refine own_alloc hO _ _ ibz ?_; clear hO; intro bx ww hO)
    | ((with_reducible refine gAlloc (T := 27) ?_); refine own_alloc hO _ _ irz ?_; clear hO; intro bn ww hO)
    | ((with_reducible refine gLoad (T := 24) ?_); refine ldA hO 2 key.C rfl rfl (tA rfl) (tS rfl) rfl ?_)
    | ((with_reducible refine gLoad (T := 25) ?_); first | refine ldC hO 3 rfl rfl (tA rfl) rfl ?_ | refine ldC hO 2 rfl rfl (tA rfl) rfl ?_)
    | (go_at_call 55; refine (G1.out _ (hO.rd HR.out) (HT.out.own hO)).mono ?_; rintro e ww ⟨g, C, rfl, hb, hh, hC⟩; replace hO := hO.add hb hh; clear hb hh hC)
    | ((with_reducible refine gStore (T := 29) ?_); refine stC hO 2 rfl rfl rfl (ltb rfl) rfl (tS rfl) ?_; clear hO; intro ww hO)
    | ((with_reducible refine gStore (T := 54) ?_); refine stX hO 2 rfl rfl rfl rfl rfl (tS rfl) ?_; clear hO; intro ww hO)
    | ((with_reducible refine gStore (T := 27) ?_); refine stX hO 1 rfl rfl rfl rfl rfl (tS rfl) ?_; clear hO; intro ww hO))
  refine bodyPost_ret (res_cct rfl _ _ bx bn 54 27 (boxC 0#64 (.slice none 0 0) St.zero) (ringC St.zero 0#64) (0,0) (0,0) _ _ rfl (hO.blk 2 rfl) Tryz.underlying54 rfl (ibs _ _ _) rfl (hO.blk 1 rfl) Tryz.underlying27 rfl (irs _ _)) rfl ⟨rfl, hO.below⟩

set_option maxHeartbeats 2000000 in
set_option maxRecDepth 100000 in
theorem open_ok (key : St) (n : BitVec 64) (a : Option Addr) (len cap : Nat) (t : List (BitVec 8)) (w : World) (hR : Rd w 1 a len cap (u8s t)) (hl : len ≤ 65536) (hT : Turns w) :
    Calls Tryz.prog 42 #[.agg key.C, .agg (boxC n (.slice a len cap) (key.tag n t))] w (BkRet w (key.hide n t) len) := by
  have hO := Own.start w
  obtain ⟨u, hu⟩ : ∃ u, key.tag n t = u := ⟨_, rfl⟩
  obtain ⟨X, hX⟩ : ∃ X, key.hide n t = X := ⟨_, rfl⟩
  have g1 := fun w hR hT => tag_ok key n a len cap t w hR hl hT
  have g2 := fun w hR hT => hide_ok key n a len cap t w hR hl hT
  rw [hu] at g1
  rw [hX] at g2
  unfold BkRet at g2
  rw [hu, hX]
  have HQ : Hid (∀ w, (binOp .neq 24 (.agg u.C) (.agg u.C)).run Tryz.prog w = .ok (.bool false) w) := fun w => by rw [neW, decide_eq_true rfl]; rfl
  have G1 := Lib.hid g1
  have G2 := Lib.hid g2
  have HR := Lib.hid hR
  have HT := Lib.hid hT
  clear hT hR g1 g2 hu hX
  generalize hW : w = wn at hO HT HR ⊢
  clear hW w
  go_enter Tryz.func42, Tryz.ntmps42
  go_wp2_with (first
    | ((with_reducible refine gBox ?_); first | (refine bxA hO rfl ?_; clear hO; intro bx ww hO) | (refine bx1 hO rfl rfl ?_; clear hO; intro bx ww hO))
    | ((with_reducible refine gAlloc ?_); refine own_alloc hO _ _ iwz ?_; clear hO; intro bt ww hO)
    | ((with_reducible refine gLoad (T := 24) ?_); first | refine ldX hO 1 rfl rfl (tA rfl) (tS rfl) ?_ | refine ldX hO 0 rfl rfl (tA rfl) (tS rfl) ?_ | refine ldA hO 1 u.C rfl rfl (tA rfl) (tS rfl) rfl ?_ | refine ldX hO 2 rfl rfl (tA rfl) (tS rfl) ?_)
    | ((with_reducible refine gLoad (T := 25) ?_); first | refine ldC hO 0 rfl rfl (tA rfl) rfl ?_ | refine ldC hO 1 rfl rfl (tA rfl) rfl ?_)
    | ((with_reducible refine gLoad (T := 29) ?_); first | refine ldC hO 0 rfl rfl (tA rfl) rfl ?_ | refine ldC hO 1 rfl rfl (tA rfl) rfl ?_)
    | ((with_reducible refine gStore (T := 24) ?_); refine stX hO 0 rfl rfl rfl rfl rfl (tS rfl) ?_; clear hO; intro ww hO)
    | (go_at_call 56; refine (G1.out _ (hO.rd HR.out) (HT.out.own hO)).mono ?_; rintro e ww ⟨rfl, hb⟩; replace hO := hO.call hb; clear hb)
    | ((with_reducible refine gNeq (t := 24) ?_); refine neD v_egW rfl rfl ?_; (with_reducible refine ⟨_, HQ.out, ?_⟩))
    | (go_at_call 55; refine (G2.out _ (hO.rd HR.out) (HT.out.own hO)).mono ?_; rintro e ww ⟨g, C, rfl, hb, hh, hC⟩; replace hO := hO.add hb hh; clear hb hh))
  go_ret2
  exact ⟨g, C, rfl, hO.below, hO.at 0 rfl, hC⟩

set_option maxHeartbeats 2000000 in
set_option maxRecDepth 100000 in
theorem open_bad (key : St) (n : BitVec 64) (a : Option Addr) (len cap : Nat) (t : List (BitVec 8)) (v : St) (w : World) (hR : Rd w 1 a len cap (u8s t)) (hl : len ≤ 65536) (hv : v ≠ key.tag n t) (hT : Turns w) :
    Calls Tryz.prog 42 #[.agg key.C, .agg (boxC n (.slice a len cap) v)] w fun e w' => e = .returned (.tuple #[.slice none 0 0, .int .i64 8]) ∧ Below w.heap.size w w' := by
  have hO := Own.start w
  obtain ⟨u, hu⟩ : ∃ u, key.tag n t = u := ⟨_, rfl⟩
  have g1 := fun w hR hT => tag_ok key n a len cap t w hR hl hT
  rw [hu] at g1 hv
  have HQ : Hid (∀ w, (binOp .neq 24 (.agg u.C) (.agg v.C)).run Tryz.prog w = .ok (.bool true) w) := fun w => by rw [neW, decide_eq_false (Ne.symm hv)]; rfl
  have G1 := Lib.hid g1
  have HR := Lib.hid hR
  have HT := Lib.hid hT
  clear hT hR g1 hu hv
  generalize hW : w = wn at hO HT HR ⊢
  clear hW w
  go_enter Tryz.func42, Tryz.ntmps42
  go_wp2_with (first
    | ((with_reducible refine gBox ?_); first | (refine bxA hO rfl ?_; clear hO; intro bx ww hO) | (refine bx1 hO rfl rfl ?_; clear hO; intro bx ww hO))
    | ((with_reducible refine gAlloc ?_); refine own_alloc hO _ _ iwz ?_; clear hO; intro bt ww hO)
    | ((with_reducible refine gLoad (T := 24) ?_); first | refine ldX hO 1 rfl rfl (tA rfl) (tS rfl) ?_ | refine ldX hO 0 rfl rfl (tA rfl) (tS rfl) ?_ | refine ldA hO 1 v.C rfl rfl (tA rfl) (tS rfl) rfl ?_ | refine ldX hO 2 rfl rfl (tA rfl) (tS rfl) ?_)
    | ((with_reducible refine gLoad (T := 25) ?_); first | refine ldC hO 0 rfl rfl (tA rfl) rfl ?_ | refine ldC hO 1 rfl rfl (tA rfl) rfl ?_)
    | ((with_reducible refine gLoad (T := 29) ?_); first | refine ldC hO 0 rfl rfl (tA rfl) rfl ?_ | refine ldC hO 1 rfl rfl (tA rfl) rfl ?_)
    | ((with_reducible refine gStore (T := 24) ?_); refine stX hO 0 rfl rfl rfl rfl rfl (tS rfl) ?_; clear hO; intro ww hO)
    | (go_at_call 56; refine (G1.out _ (hO.rd HR.out) (HT.out.own hO)).mono ?_; rintro e ww ⟨rfl, hb⟩; replace hO := hO.call hb; clear hb)
    | ((with_reducible refine gNeq (t := 24) ?_); refine neD v_egW rfl rfl ?_; (with_reducible refine ⟨_, HQ.out, ?_⟩)))
  go_ret2
  exact ⟨rfl, hO.below⟩

end Go.Proofs.YtniibdglodnhoaaGreatDoor

/- Walks: slices.Grow of nothing, slices.Concat of three, slices.Clone. -/
namespace Go.Proofs.YtniibdglodnhoaaGreatDoor
open Go.RowKit Go.Own Go.Bv Go.Ord Go.Eq

section
variable {P : Program} {ops : Array Oper} {Q : Exit → Act → World → Prop} {a : Act} {w0 w : World} {L : List Res} {rest : List Oper}
variable {d : Option Tmp} {ty : TypeId} {pos : String} {aft : Array Edge}
/-- 'append([]T(nil), make([]T, n)...)', of which nothing will be read: kept as a row of no element -/
theorem own_appZ (hO : Own w0 w L) (s x : Operand) (t tn : TypeId) {e : TypeId} {z : Value} {bytes : Nat} (hE : Elem P t e z 1 bytes) {kn kq : IntKind} (htn : P.underlying tn = some (.int kn))
    {N : Int} (n : Nat) (hs : a.eval s = .slice none 0 0) (hx : a.eval x = .int kq N) (hN : N = (n : Int)) (h0 : 0 < n) (h63 : n ≤ maxLen) (hb : n * bytes ≤ 281474976710656)
    (h : ∀ g c w', Own w0 w' (.sl e 1 (.slice (some ⟨g, 0, none⟩) 0 c) 0 [] :: L) → wpList P ops Q rest (a.put d (.slice (some ⟨g, 0, none⟩) n c)) w') :
    wpList P ops Q ({ dst := d, op := .call { callee := .builtin .append, args := #[s, x], argTypes := #[t, tn] }, type := ty, pos := pos, after := aft, guard := none } :: rest) a w := by
  obtain ⟨inf, hinf, hz, hsz, hby⟩ := info_parts hE.info
  have hm : (n : Int) ≤ 9223372036854775807 := by have := h63; simp [maxLen] at this; omega
  have hr := Lib.run_append_nil_zeros (P := P) w t tn ty e inf z kq kn hE.slice htn hinf hz n h0 (by omega) hm (by rw [hby]; exact hb)
  refine Lib.wpList_append_run w rfl s x t tn rfl _ _ hs (hx.trans (by rw [hN])) _ _ hr (h _ _ _ ?_)
  have hc := hE.cells
  have hrow := World.ownsRow_made (e := e) (size := 1) (base := w.drew.heap.size) w.drew (Builtin.zeroCells z.cells n ++ Builtin.zeroCells z.cells (grownCap w n 0 e - n)) (grownCap w n 0 e) (Nat.le_refl _) (grownCap_le_maxLen w n 0 e h63)
    (by
      have hg := grownCap_ge w n 0 e
      simp [Builtin.zeroCells, hc]
      omega)
  exact hO.drew.add ((Below.refl _ _).alloc (Nat.le_refl _) _) hrow
end

set_option maxHeartbeats 2000000 in
set_option maxRecDepth 100000 in
theorem grow_calls (n : Nat) (hn : n ≤ 1000000000) (w : World) :
    Calls Tryz.prog 36 #[.slice none 0 0, .int .i64 (n : Int)] w fun e w' => ∃ a' c', e = .returned (.slice a' 0 c') ∧ Below w.heap.size w w' ∧ w'.ownsRow w.heap.size 5 1 (.slice a' 0 c') 0 [] := by
  have hO := Own.start w
  generalize hW : w = wn at hO ⊢
  clear hW w
  have d0 : decide ((n : Int) < 0) = false := by simp
  by_cases h0 : n = 0
  · subst h0
    go_enter Tryz.func36, Tryz.ntmps36
    go_wp2
    go_ret
    exact ⟨_, _, rfl, hO.below, World.ownsRow_nil _ _ _ _⟩
  · have d1 : decide (0 < n) = true := by simp; omega
    have e1 : wrap64 (n : Int) = (n : Int) := by unfold wrap64; omega
    have HZ := Lib.hid h0
    clear h0
    go_enter Tryz.func36, Tryz.ntmps36
    go_wp2_with (first
      | ((with_reducible refine gAppend ?_); refine own_appZ hO _ _ 29 3 eu8_8 Tryz.underlying3 n rfl rfl rfl (by have := HZ.out; omega) (by simp [maxLen]; omega) (by omega) ?_; clear hO; intro g c ww hO))
    go_ret
    exact ⟨_, _, rfl, hO.below, hO.row 0 rfl⟩

set_option maxHeartbeats 2000000 in
set_option maxRecDepth 100000 in
theorem clone_calls (a : Option Addr) (n c : Nat) (bs : List (BitVec 8)) (w : World) (hR : Rd w 1 a n c (u8s bs)) (hn : n ≤ 1000000) :
    Calls Tryz.prog 35 #[.slice a n c] w fun e w' => ∃ a' c', e = .returned (.slice a' n c') ∧ Below w.heap.size w w' ∧ w'.ownsRow w.heap.size 5 1 (.slice a' n c') n (u8s bs) := by
  have hO := Own.start w
  cases a with
  | none =>
    obtain ⟨rfl, rfl⟩ := hR.nil rfl
    have hb : u8s bs = [] := List.eq_nil_of_length_eq_zero (by rw [hR.len])
    rw [hb]
    have hnil : ∀ W, (binOp .eql 29 (.slice none 0 0) (.slice none 0 0)).run Tryz.prog W = .ok (.bool true) W := fun W => Go.run_eql_slice_nil W _ _ none 0 0 Tryz.underlying29
    clear hR hb
    generalize hW : w = wn at hO ⊢
    clear hW w
    go_enter Tryz.func35, Tryz.ntmps35
    go_wp2
    go_ret
    exact ⟨_, _, rfl, hO.below, World.ownsRow_nil _ _ _ _⟩
  | some ad =>
    have HR := Lib.hid hR
    have hnil : ∀ W, (binOp .eql 29 (.slice (some ad) n c) (.slice none 0 0)).run Tryz.prog W = .ok (.bool false) W := fun W => Go.run_eql_slice_nil W _ _ (some ad) n c Tryz.underlying29
    clear hR
    generalize hW : w = wn at hO HR ⊢
    clear hW w
    go_enter Tryz.func35, Tryz.ntmps35
    go_wp2_with (first
      | ((with_reducible refine gBuild ?_); refine own_build0 hO 29 eu8_8 ?_; clear hO; intro g ww hO)
      | ((with_reducible refine gAppend ?_); refine own_append hO 0 _ _ 29 eu8_8 rfl rfl rfl (hO.rd HR.out) (u8s_one _) n (by omega) (by simp [maxLen]; omega) (by omega) ?_; clear hO; intro a2 c2 ww hO))
    go_ret
    exact ⟨_, _, rfl, hO.below, hO.row 0 rfl⟩

/-- what is there ahead of the k-th of three -/
def sumK (n1 n2 n3 : Nat) : Nat → Nat
  | 0 => 0
  | 1 => n1
  | 2 => n1 + n2
  | _ => n1 + n2 + n3
def catK (b1 b2 b3 : List (BitVec 8)) : Nat → List (BitVec 8)
  | 0 => []
  | 1 => b1
  | 2 => b1 ++ b2
  | _ => b1 ++ b2 ++ b3
theorem u8s_append' (a b : List (BitVec 8)) : u8s a ++ u8s b = u8s (a ++ b) := by unfold u8s; rw [List.map_append]

set_option maxHeartbeats 4000000 in
set_option maxRecDepth 100000 in
theorem concat3_calls (a0 : Option Addr) (c0 : Nat) (a1 a2 a3 : Option Addr) (n1 c1 n2 c2 n3 c3 : Nat) (b1 b2 b3 : List (BitVec 8)) (w : World)
    (hR : Rd w 1 a0 3 c0 [.slice a1 n1 c1, .slice a2 n2 c2, .slice a3 n3 c3]) (h1 : Rd w 1 a1 n1 c1 (u8s b1)) (h2 : Rd w 1 a2 n2 c2 (u8s b2)) (h3 : Rd w 1 a3 n3 c3 (u8s b3)) (m1 : n1 ≤ 1000000) (m2 : n2 ≤ 1000000) (m3 : n3 ≤ 1000000) :
    Calls Tryz.prog 19 #[.slice a0 3 c0] w fun e w' => ∃ a' c', e = .returned (.slice a' (n1 + n2 + n3) c') ∧ Below w.heap.size w w' ∧ w'.ownsRow w.heap.size 5 1 (.slice a' (n1 + n2 + n3) c') (n1 + n2 + n3) (u8s (b1 ++ b2 ++ b3)) := by
  have hO := Own.start w
  obtain ⟨g0, off, rfl⟩ := hR.place (by omega)
  have HR := Lib.hid hR
  have H1 := Lib.hid h1
  have H2 := Lib.hid h2
  have H3 := Lib.hid h3
  clear hR h1 h2 h3
  generalize hW : w = wn at hO HR H1 H2 H3 ⊢
  clear hW w
  go_enter Tryz.func19, Tryz.ntmps19
  go_wp2
  go_loopg [3, 5, 11] 3 (fun m s3 s5 c wr => ∃ k : Nat, m = 3 - k ∧ k ≤ 3 ∧ c = .int .i64 k ∧ s3 = .int .i64 (sumK n1 n2 n3 k : Nat) ∧ Own wn wr [])
  case atStart => exact ⟨0, rfl, by omega, rfl, rfl, hO⟩
  case round =>
    obtain ⟨k, rfl, hk, rfl, rfl, hO1⟩ := hrel
    clear hO
    have hO := hO1
    clear hO1
    obtain rfl | rfl | rfl | rfl : k = 0 ∨ k = 1 ∨ k = 2 ∨ k = 3 := by omega
    · simp only [sumK]
      have dz : decide ((n1 : Int) < 0) = false := by simp
      have ez : wrap64 (n1 : Int) = (n1 : Int) := by unfold wrap64; omega
      go_wp2_with ((with_reducible refine gLoad ?_); refine ld_rd (hO.rd HR.out) rfl (show ([.slice a1 n1 c1, .slice a2 n2 c2, .slice a3 n3 c3] : List Value)[0]? = some (.slice a1 n1 c1) from rfl) (tA rfl) ?_)
      go_roundg 2
      case measure => omega
      case rel => exact ⟨1, rfl, by omega, by go_num, by simp [sumK], hO⟩
    · simp only [sumK]
      have dz : decide ((n1 : Int) + (n2 : Int) < 0) = false := by simp; omega
      have ez : wrap64 ((n1 : Int) + (n2 : Int)) = (n1 : Int) + (n2 : Int) := by unfold wrap64; omega
      go_wp2_with ((with_reducible refine gLoad ?_); refine ld_rd (hO.rd HR.out) rfl (show ([.slice a1 n1 c1, .slice a2 n2 c2, .slice a3 n3 c3] : List Value)[1]? = some (.slice a2 n2 c2) from rfl) (tA rfl) ?_)
      go_roundg 1
      case measure => omega
      case rel => exact ⟨2, rfl, by omega, by go_num, by simp [sumK], hO⟩
    · simp only [sumK]
      have dz : decide ((n1 : Int) + (n2 : Int) + (n3 : Int) < 0) = false := by simp; omega
      have ez : wrap64 ((n1 : Int) + (n2 : Int) + (n3 : Int)) = (n1 : Int) + (n2 : Int) + (n3 : Int) := by unfold wrap64; omega
      go_wp2_with ((with_reducible refine gLoad ?_); refine ld_rd (hO.rd HR.out) rfl (show ([.slice a1 n1 c1, .slice a2 n2 c2, .slice a3 n3 c3] : List Value)[2]? = some (.slice a3 n3 c3) from rfl) (tA rfl) ?_)
      go_roundg 0
      case measure => omega
      case rel => exact ⟨3, rfl, by omega, by go_num, by simp [sumK], hO⟩
    · simp only [sumK]
      have hg := grow_calls (n1 + n2 + n3) (by omega)
      rw [show ((n1 + n2 + n3 : Nat) : Int) = (n1 : Int) + (n2 : Int) + (n3 : Int) by omega] at hg
      have HG := Lib.hid hg
      clear hg
      go_wp2_with (go_at_call 36; refine (HG.out _).mono ?_; rintro e ww ⟨aG, cG, rfl, hb, hr⟩; replace hO := hO.addRow hb hr; clear hb hr)
      go_loopg [6, 8, 27] 3 (fun m s6 s8 c wr => ∃ (k : Nat) (aK : Option Addr) (cK : Nat), m = 3 - k ∧ k ≤ 3 ∧ c = .int .i64 k ∧ s6 = .slice aK (sumK n1 n2 n3 k) cK ∧ Own wn wr [.sl 5 1 (.slice aK (sumK n1 n2 n3 k) cK) (sumK n1 n2 n3 k) (u8s (catK b1 b2 b3 k))])
      case atStart => exact ⟨0, _, _, rfl, by omega, rfl, rfl, hO⟩
      case round =>
        obtain ⟨k, aK, cK, rfl, hk, rfl, rfl, hO1⟩ := hrel
        clear hO
        have hO := hO1
        clear hO1
        obtain rfl | rfl | rfl | rfl : k = 0 ∨ k = 1 ∨ k = 2 ∨ k = 3 := by omega
        · simp only [sumK, catK] at hO ⊢
          go_wp2_with (first
            | ((with_reducible refine gLoad ?_); refine ld_rd (hO.rd HR.out) rfl (show ([.slice a1 n1 c1, .slice a2 n2 c2, .slice a3 n3 c3] : List Value)[0]? = some (.slice a1 n1 c1) from rfl) (tA rfl) ?_)
            | ((with_reducible refine gAppend ?_); refine own_append hO 0 _ _ 29 eu8_8 rfl rfl rfl (hO.rd H1.out) (u8s_one _) n1 (by omega) (by simp [maxLen]; omega) (by omega) ?_; clear hO; intro a2 c2 ww hO))
          go_roundg 2
          case measure => omega
          case rel => exact ⟨1, _, _, rfl, by omega, by go_num, rfl, hO⟩
        · simp only [sumK, catK] at hO ⊢
          go_wp2_with (first
            | ((with_reducible refine gLoad ?_); refine ld_rd (hO.rd HR.out) rfl (show ([.slice a1 n1 c1, .slice a2 n2 c2, .slice a3 n3 c3] : List Value)[1]? = some (.slice a2 n2 c2) from rfl) (tA rfl) ?_)
            | ((with_reducible refine gAppend ?_); refine own_append hO 0 _ _ 29 eu8_8 rfl rfl rfl (hO.rd H2.out) (u8s_one _) (n1 + n2) rfl (by simp [maxLen]; omega) (by omega) ?_; clear hO; intro a2 c2 ww hO))
          go_roundg 1
          case measure => omega
          case rel => exact ⟨2, _, _, rfl, by omega, by go_num, rfl, by simp only [catK]; rw [← u8s_append']; exact hO⟩
        · simp only [sumK, catK] at hO ⊢
          go_wp2_with (first
            | ((with_reducible refine gLoad ?_); refine ld_rd (hO.rd HR.out) rfl (show ([.slice a1 n1 c1, .slice a2 n2 c2, .slice a3 n3 c3] : List Value)[2]? = some (.slice a3 n3 c3) from rfl) (tA rfl) ?_)
            | ((with_reducible refine gAppend ?_); refine own_append hO 0 _ _ 29 eu8_8 rfl rfl rfl (hO.rd H3.out) (u8s_one _) (n1 + n2 + n3) rfl (by simp [maxLen]; omega) (by omega) ?_; clear hO; intro a2 c2 ww hO))
          go_roundg 0
          case measure => omega
          case rel => exact ⟨3, _, _, rfl, by omega, by go_num, rfl, by simp only [catK]; rw [← u8s_append']; exact hO⟩
        · simp only [sumK, catK] at hO ⊢
          go_wp2
          go_ret
          exact ⟨_, _, rfl, hO.below, hO.row 0 rfl⟩
end Go.Proofs.YtniibdglodnhoaaGreatDoor
