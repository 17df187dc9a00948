/- Refusals: Seal and Open of too long a text; the document's Open of too long a text, or a wrong tag. -/
import Derived.Test.YtekiloagckkneaaDoorVx
namespace Go.Proofs.YtekiloagckkneaaDoor
open Go.RowKit Go.Own Go.Bv Go.Ord Go.Eq

set_option maxHeartbeats 2000000 in
set_option maxRecDepth 100000 in
theorem seal_long (key : St) (n : BitVec 64) (a : Option Addr) (len cap : Nat) (w : World) (hl : 65536 < len) :
    Calls Tryd.prog 10 #[.agg (ringC key n), .slice a len cap] w fun e w' => e = .returned (.tuple #[.agg (boxC 0#64 (.slice none 0 0) St.zero), .agg (ringC St.zero 0#64), .int .i64 3]) ∧ Below w.heap.size w w' := by
  have hO := Own.start w
  have G1 := Lib.hid (fun w => hide_long key n a len cap hl w)
  generalize hW : w = wn at hO ⊢
  clear hW w
  go_enter Tryd.func10, Tryd.ntmps10
  go_wp2_with (first
    | ((with_reducible refine gBox ?_); first | (refine bxA hO rfl ?_; clear hO; intro br ww hO) | (refine bx1 hO rfl rfl ?_; clear hO; intro br ww hO))
    | ((with_reducible refine gG ?_); refine wpList_want rfl ?_)
    | ((with_reducible refine gAlloc (T := 31) ?_); refine own_alloc hO _ _ ibz ?_; clear hO; intro bx ww hO)
    | ((with_reducible refine gAlloc (T := 27) ?_); refine own_alloc hO _ _ irz ?_; clear hO; intro bn ww hO)
    | ((with_reducible refine gLoad (T := 24) ?_); refine ldA hO 2 key.C rfl rfl (tA rfl) (tS rfl) rfl ?_)
    | ((with_reducible refine gLoad (T := 25) ?_); refine ldC hO 2 rfl rfl (tA rfl) rfl ?_)
    | (go_at_call 25; refine (G1.out _).mono ?_; rintro e ww ⟨rfl, hb⟩; replace hO := hO.call hb; clear hb)
    | ((with_reducible refine gStore (T := 28) ?_); refine stC hO 1 rfl rfl rfl (ltb rfl) rfl (tS rfl) ?_; clear hO; intro ww hO)
    | ((with_reducible refine gStore (T := 31) ?_); refine stX hO 1 rfl rfl rfl rfl rfl (tS rfl) ?_; clear hO; intro ww hO)
    | ((with_reducible refine gStore (T := 27) ?_); refine stX hO 0 rfl rfl rfl rfl rfl (tS rfl) ?_; clear hO; intro ww hO))
  refine bodyPost_ret (res_cct rfl _ _ bx bn 31 27 (boxC 0#64 (.slice none 0 0) St.zero) (ringC St.zero 0#64) (0,0) (0,0) _ _ rfl (hO.blk 1 rfl) Tryd.underlying31 rfl (ibs _ _ _) rfl (hO.blk 0 rfl) Tryd.underlying27 rfl (irs _ _)) rfl ⟨rfl, hO.below⟩

set_option maxHeartbeats 2000000 in
set_option maxRecDepth 100000 in
theorem open_long (key : St) (n : BitVec 64) (a : Option Addr) (len cap : Nat) (v : St) (w : World) (hl : 65536 < len) :
    Calls Tryd.prog 11 #[.agg key.C, .agg (boxC n (.slice a len cap) v)] w fun e w' => e = .returned (.tuple #[.slice none 0 0, .int .i64 3]) ∧ Below w.heap.size w w' := by
  have hO := Own.start w
  have G1 := Lib.hid (fun w => tag_no key n a len cap w hl)
  generalize hW : w = wn at hO ⊢
  clear hW w
  go_enter Tryd.func11, Tryd.ntmps11
  go_wp2_with (first
    | ((with_reducible refine gBox ?_); first | (refine bxA hO rfl ?_; clear hO; intro bx ww hO) | (refine bx1 hO rfl rfl ?_; clear hO; intro bx ww hO))
    | ((with_reducible refine gAlloc ?_); refine own_alloc hO _ _ iwz ?_; clear hO; intro bt ww hO)
    | ((with_reducible refine gLoad (T := 24) ?_); first | refine ldX hO 1 rfl rfl (tA rfl) (tS rfl) ?_ | refine ldX hO 0 rfl rfl (tA rfl) (tS rfl) ?_ | refine ldX hO 2 rfl rfl (tA rfl) (tS rfl) ?_)
    | ((with_reducible refine gLoad (T := 25) ?_); first | refine ldC hO 0 rfl rfl (tA rfl) rfl ?_ | refine ldC hO 1 rfl rfl (tA rfl) rfl ?_)
    | ((with_reducible refine gLoad (T := 28) ?_); first | refine ldC hO 0 rfl rfl (tA rfl) rfl ?_ | refine ldC hO 1 rfl rfl (tA rfl) rfl ?_)
    | ((with_reducible refine gStore (T := 24) ?_); refine stX hO 0 rfl rfl rfl rfl rfl (tS rfl) ?_; clear hO; intro ww hO)
    | (go_at_call 12; refine (G1.out _).mono ?_; rintro e ww ⟨rfl, hb⟩; replace hO := hO.call hb; clear hb))
  go_ret2
  exact ⟨rfl, hO.below⟩

set_option maxHeartbeats 2000000 in
set_option maxRecDepth 100000 in
theorem ropen_long (key : St) (n : BitVec 64) (a : Option Addr) (len cap : Nat) (v : St) (w : World) (hl : 65536 < len) :
    Calls Tryd.prog 17 #[.agg key.C, .agg (boxC n (.slice a len cap) v)] w fun e w' => e = .returned (.tuple #[.slice none 0 0, .int .i64 3]) ∧ Below w.heap.size w w' := by
  have hO := Own.start w
  have G1 := Lib.hid (fun w => rtag_no key n a len cap w hl)
  generalize hW : w = wn at hO ⊢
  clear hW w
  go_enter Tryd.func17, Tryd.ntmps17
  go_wp2_with (first
    | ((with_reducible refine gBox ?_); first | (refine bxA hO rfl ?_; clear hO; intro bx ww hO) | (refine bx1 hO rfl rfl ?_; clear hO; intro bx ww hO))
    | ((with_reducible refine gAlloc ?_); refine own_alloc hO _ _ iwz ?_; clear hO; intro bt ww hO)
    | ((with_reducible refine gLoad (T := 24) ?_); first | refine ldX hO 1 rfl rfl (tA rfl) (tS rfl) ?_ | refine ldX hO 0 rfl rfl (tA rfl) (tS rfl) ?_ | refine ldX hO 2 rfl rfl (tA rfl) (tS rfl) ?_)
    | ((with_reducible refine gLoad (T := 25) ?_); first | refine ldC hO 0 rfl rfl (tA rfl) rfl ?_ | refine ldC hO 1 rfl rfl (tA rfl) rfl ?_)
    | ((with_reducible refine gLoad (T := 28) ?_); first | refine ldC hO 0 rfl rfl (tA rfl) rfl ?_ | refine ldC hO 1 rfl rfl (tA rfl) rfl ?_)
    | ((with_reducible refine gStore (T := 24) ?_); refine stX hO 0 rfl rfl rfl rfl rfl (tS rfl) ?_; clear hO; intro ww hO)
    | (go_at_call 23; refine (G1.out _).mono ?_; rintro e ww ⟨rfl, hb⟩; replace hO := hO.call hb; clear hb))
  go_ret2
  exact ⟨rfl, hO.below⟩

set_option maxHeartbeats 2000000 in
set_option maxRecDepth 100000 in
theorem ropen_bad (key : St) (n : BitVec 64) (a : Option Addr) (len cap : Nat) (t : List (BitVec 8)) (v : St) (w : World) (hR : Rd w 1 a len cap (u8s t)) (hl : len ≤ 65536) (hv : v ≠ key.tag n t) :
    Calls Tryd.prog 17 #[.agg key.C, .agg (boxC n (.slice a len cap) v)] w fun e w' => e = .returned (.tuple #[.slice none 0 0, .int .i64 8]) ∧ Below w.heap.size w w' := by
  have hO := Own.start w
  obtain ⟨u, hu⟩ : ∃ u, key.tag n t = u := ⟨_, rfl⟩
  have g1 := fun w hR => rtag_ok key n a len cap t w hR hl
  rw [hu] at g1 hv
  have HQ : Hid (∀ w, (binOp .neq 24 (.agg u.C) (.agg v.C)).run Tryd.prog w = .ok (.bool true) w) := fun w => by rw [neW, decide_eq_false (Ne.symm hv)]; rfl
  have G1 := Lib.hid g1
  have HR := Lib.hid hR
  clear hR g1 hu hv
  generalize hW : w = wn at hO HR ⊢
  clear hW w
  go_enter Tryd.func17, Tryd.ntmps17
  go_wp2_with (first
    | ((with_reducible refine gBox ?_); first | (refine bxA hO rfl ?_; clear hO; intro bx ww hO) | (refine bx1 hO rfl rfl ?_; clear hO; intro bx ww hO))
    | ((with_reducible refine gAlloc ?_); refine own_alloc hO _ _ iwz ?_; clear hO; intro bt ww hO)
    | ((with_reducible refine gLoad (T := 24) ?_); first | refine ldX hO 1 rfl rfl (tA rfl) (tS rfl) ?_ | refine ldX hO 0 rfl rfl (tA rfl) (tS rfl) ?_ | refine ldA hO 1 v.C rfl rfl (tA rfl) (tS rfl) rfl ?_ | refine ldX hO 2 rfl rfl (tA rfl) (tS rfl) ?_)
    | ((with_reducible refine gLoad (T := 25) ?_); first | refine ldC hO 0 rfl rfl (tA rfl) rfl ?_ | refine ldC hO 1 rfl rfl (tA rfl) rfl ?_)
    | ((with_reducible refine gLoad (T := 28) ?_); first | refine ldC hO 0 rfl rfl (tA rfl) rfl ?_ | refine ldC hO 1 rfl rfl (tA rfl) rfl ?_)
    | ((with_reducible refine gStore (T := 24) ?_); refine stX hO 0 rfl rfl rfl rfl rfl (tS rfl) ?_; clear hO; intro ww hO)
    | (go_at_call 23; refine (G1.out _ (hO.rd HR.out)).mono ?_; rintro e ww ⟨rfl, hb⟩; replace hO := hO.call hb; clear hb)
    | ((with_reducible refine gNeq (t := 24) ?_); refine neD v_egW rfl rfl ?_; (with_reducible refine ⟨_, HQ.out, ?_⟩)))
  go_ret2
  exact ⟨rfl, hO.below⟩
end Go.Proofs.YtekiloagckkneaaDoor
