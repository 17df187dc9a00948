/- Refusals: Stream, hide of the program; Stream of the document; its Seal and Open of too long a text, its Seal of a ring that is full. -/
import Derived.Test.YtekiloagckkneaaDoorVu
namespace Go.Proofs.YtekiloagckkneaaDoor
open Go.RowKit Go.Own Go.Bv Go.Ord Go.Eq

set_option maxHeartbeats 1000000 in
set_option maxRecDepth 100000 in
theorem stream_long (key : St) (n : BitVec 64) (m : Int) (hm : 65536 < m) (w : World) :
    Calls Tryd.prog 14 #[.agg key.C, .int .u64 (n.toNat : Int), .int .i64 m] w fun e w' => e = .returned (.tuple #[.slice none 0 0, .int .i64 3]) ∧ Below w.heap.size w w' := by
  have hO := Own.start w
  have d1 : decide ((65536 : Int) < m) = true := by simp; omega
  generalize hW : w = wn at hO ⊢
  clear hW w
  go_enter Tryd.func14, Tryd.ntmps14
  go_wp2_with (first | ((with_reducible refine gBox ?_); first | (refine bxA hO rfl ?_; clear hO; intro b ww hO) | (refine bx1 hO rfl rfl ?_; clear hO; intro b ww hO)))
  go_ret2
  exact ⟨rfl, hO.below⟩
set_option maxHeartbeats 1000000 in
set_option maxRecDepth 100000 in
theorem rstream_long (key : St) (n : BitVec 64) (m : Int) (hm : 65536 < m) (w : World) :
    Calls Tryd.prog 22 #[.agg key.C, .int .u64 (n.toNat : Int), .int .i64 m] w fun e w' => e = .returned (.tuple #[.slice none 0 0, .int .i64 3]) ∧ Below w.heap.size w w' := by
  have hO := Own.start w
  have d0 : decide (m < 0) = false := by simp; omega
  have d1 : decide ((65536 : Int) < m) = true := by simp; omega
  generalize hW : w = wn at hO ⊢
  clear hW w
  go_enter Tryd.func22, Tryd.ntmps22
  go_wp2_with (first | ((with_reducible refine gBox ?_); first | (refine bxA hO rfl ?_; clear hO; intro b ww hO) | (refine bx1 hO rfl rfl ?_; clear hO; intro b ww hO)))
  go_ret2
  exact ⟨rfl, hO.below⟩
set_option maxHeartbeats 1000000 in
set_option maxRecDepth 100000 in
theorem rstream_neg (key : St) (n : BitVec 64) (m : Int) (hm : m < 0) (w : World) :
    Calls Tryd.prog 22 #[.agg key.C, .int .u64 (n.toNat : Int), .int .i64 m] w fun e w' => e = .returned (.tuple #[.slice none 0 0, .int .i64 1]) ∧ Below w.heap.size w w' := by
  have hO := Own.start w
  have d0 : decide (m < 0) = true := by simp; omega
  generalize hW : w = wn at hO ⊢
  clear hW w
  go_enter Tryd.func22, Tryd.ntmps22
  go_wp2_with (first | ((with_reducible refine gBox ?_); first | (refine bxA hO rfl ?_; clear hO; intro b ww hO) | (refine bx1 hO rfl rfl ?_; clear hO; intro b ww hO)))
  go_ret2
  exact ⟨rfl, hO.below⟩
set_option maxHeartbeats 1000000 in
set_option maxRecDepth 100000 in
theorem hide_long (key : St) (n : BitVec 64) (a : Option Addr) (len cap : Nat) (hl : 65536 < len) (w : World) :
    Calls Tryd.prog 25 #[.agg key.C, .int .u64 (n.toNat : Int), .slice a len cap] w fun e w' => e = .returned (.tuple #[.slice none 0 0, .int .i64 3]) ∧ Below w.heap.size w w' := by
  have hO := Own.start w
  have G1 := Lib.hid (fun w => stream_long key n (len : Int) (by omega) w)
  generalize hW : w = wn at hO ⊢
  clear hW w
  go_enter Tryd.func25, Tryd.ntmps25
  go_wp2_with (first
    | ((with_reducible refine gBox ?_); first | (refine bxA hO rfl ?_; clear hO; intro b ww hO) | (refine bx1 hO rfl rfl ?_; clear hO; intro b ww hO))
    | ((with_reducible refine gLoad ?_); first | refine ldX hO 0 rfl rfl (tA rfl) (tS rfl) ?_ | refine ldC hO 0 rfl rfl (tA rfl) rfl ?_)
    | (go_at_call 14; refine (G1.out _).mono ?_; rintro e ww ⟨rfl, hb⟩; replace hO := hO.call hb; clear hb))
  go_ret2
  exact ⟨rfl, hO.below⟩
set_option maxHeartbeats 1000000 in
set_option maxRecDepth 100000 in
theorem rseal_long (key : St) (n : BitVec 64) (a : Option Addr) (len cap : Nat) (hl : 65536 < len) (w : World) :
    Calls Tryd.prog 16 #[.agg (ringC key n), .slice a len cap] w fun e w' => e = .returned (.tuple #[.agg (boxC 0#64 (.slice none 0 0) St.zero), .agg (ringC St.zero 0#64), .int .i64 3]) ∧ Below w.heap.size w w' := by
  have hO := Own.start w
  have d1 : decide ((65536 : Int) < (len : Int)) = true := by simp; omega
  generalize hW : w = wn at hO ⊢
  clear hW w
  go_enter Tryd.func16, Tryd.ntmps16
  go_wp2_with (first
    | ((with_reducible refine gBox ?_); first | (refine bxA hO rfl ?_; clear hO; intro br ww hO) | (refine bx1 hO rfl rfl ?_; clear hO; intro br ww hO))
    | ((with_reducible refine gAlloc (T := 31) ?_); refine own_alloc hO _ _ ibz ?_; clear hO; intro bx ww hO)
    | ((with_reducible refine gAlloc (T := 27) ?_); refine own_alloc hO _ _ irz ?_; clear hO; intro bn ww hO)
    | ((with_reducible refine gStore (T := 31) ?_); refine stX hO 1 rfl rfl rfl rfl rfl (tS rfl) ?_; clear hO; intro ww hO)
    | ((with_reducible refine gStore (T := 27) ?_); refine stX hO 0 rfl rfl rfl rfl rfl (tS rfl) ?_; clear hO; intro ww hO))
  refine bodyPost_ret (res_cct rfl _ _ bx bn 31 27 (boxC 0#64 (.slice none 0 0) St.zero) (ringC St.zero 0#64) (0,0) (0,0) _ _ rfl (hO.blk 1 rfl) Tryd.underlying31 rfl (ibs _ _ _) rfl (hO.blk 0 rfl) Tryd.underlying27 rfl (irs _ _)) rfl ⟨rfl, hO.below⟩
set_option maxHeartbeats 1000000 in
set_option maxRecDepth 100000 in
theorem rseal_full (key : St) (a : Option Addr) (len cap : Nat) (hl : len ≤ 65536) (w : World) :
    Calls Tryd.prog 16 #[.agg (ringC key 18446744073709551615#64), .slice a len cap] w fun e w' => e = .returned (.tuple #[.agg (boxC 0#64 (.slice none 0 0) St.zero), .agg (ringC St.zero 0#64), .int .i64 6]) ∧ Below w.heap.size w w' := by
  have hO := Own.start w
  have d1 : decide ((65536 : Int) < (len : Int)) = false := by simp; omega
  generalize hW : w = wn at hO ⊢
  clear hW w
  go_enter Tryd.func16, Tryd.ntmps16
  go_wp2_with (first
    | ((with_reducible refine gBox ?_); first | (refine bxA hO rfl ?_; clear hO; intro br ww hO) | (refine bx1 hO rfl rfl ?_; clear hO; intro br ww hO))
    | ((with_reducible refine gLoad (T := 25) ?_); refine ldC hO 2 rfl rfl (tA rfl) rfl ?_)
    | ((with_reducible refine gAlloc (T := 31) ?_); refine own_alloc hO _ _ ibz ?_; clear hO; intro bx ww hO)
    | ((with_reducible refine gAlloc (T := 27) ?_); refine own_alloc hO _ _ irz ?_; clear hO; intro bn ww hO)
    | ((with_reducible refine gStore (T := 31) ?_); refine stX hO 1 rfl rfl rfl rfl rfl (tS rfl) ?_; clear hO; intro ww hO)
    | ((with_reducible refine gStore (T := 27) ?_); refine stX hO 0 rfl rfl rfl rfl rfl (tS rfl) ?_; clear hO; intro ww hO))
  refine bodyPost_ret (res_cct rfl _ _ bx bn 31 27 (boxC 0#64 (.slice none 0 0) St.zero) (ringC St.zero 0#64) (0,0) (0,0) _ _ rfl (hO.blk 1 rfl) Tryd.underlying31 rfl (ibs _ _ _) rfl (hO.blk 0 rfl) Tryd.underlying27 rfl (irs _ _)) rfl ⟨rfl, hO.below⟩
end Go.Proofs.YtekiloagckkneaaDoor
