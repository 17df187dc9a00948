/- Walks: derive.Key, Mark, the law's live. -/
import Derived.Test.YtbgefpmnncaifaaDoorDe
import Derived.Test.YtbgefpmnncaifaaDoorPOctEq
namespace Go.Proofs.YtbgefpmnncaifaaDoor
open Go.RowKit Go.Own Go.Bv Go.Ord Go.Eq

set_option maxHeartbeats 1000000 in
set_option maxRecDepth 100000 in
theorem key_ok (a1 : Option Addr) (n1 c1 : Nat) (word : List (BitVec 8)) (a2 : Option Addr) (n2 c2 : Nat) (salt : List (BitVec 8)) (r : Nat) (w : World) (hR1 : Rd w 1 a1 n1 c1 (u8s word)) (hR2 : Rd w 1 a2 n2 c2 (u8s salt)) (h1 : n1 ≤ 64) (h2 : n2 ≤ 64) (hr0 : 1 ≤ r) (hr : r ≤ 4096) (hT : Turns w) :
    Calls Tryd.prog 11 #[.slice a1 n1 c1, .slice a2 n2 c2, .int .i64 (r : Int)] w fun e w' => e = .returned (.tuple #[.agg ((St.startOf word salt).goN word r).C, .int .i64 0]) ∧ Below w.heap.size w w' := by
  have hO := Own.start w
  obtain ⟨u1, e1⟩ : ∃ u, St.startOf word salt = u := ⟨_, rfl⟩
  rw [e1]
  obtain ⟨u2, e2⟩ : ∃ u, u1.goN word r = u := ⟨_, rfl⟩
  rw [e2]
  have H1 := Lib.hid e1
  have H2 := Lib.hid e2
  have HR1 := Lib.hid hR1
  have HR2 := Lib.hid hR2
  have HT := Lib.hid hT
  have d1 : decide ((r : Int) < 1) = false := by simp; omega
  clear hR1 hR2 hT e1 e2
  generalize hW : w = wn at hO HR1 HR2 HT ⊢
  clear hW w
  go_enter Tryd.func11, Tryd.ntmps11
  go_wp2_with (first
    | ((with_reducible refine gAlloc ?_); refine own_alloc hO _ _ iwz ?_; clear hO; intro rr ww hO)
    | ((with_reducible refine gLoad ?_); first | refine ldX hO 0 rfl rfl (tA rfl) (tS rfl) ?_ | refine ldC hO 0 rfl rfl (tA rfl) rfl ?_ | refine ldX hO 1 rfl rfl (tA rfl) (tS rfl) ?_ | refine ldC hO 1 rfl rfl (tA rfl) rfl ?_)
    | ((with_reducible refine gStore ?_); first | (refine stX hO 0 rfl rfl rfl rfl rfl (tS rfl) ?_; clear hO; intro ww hO) | (refine stC hO 0 rfl rfl rfl (ltb rfl) rfl (tS rfl) ?_; clear hO; intro ww hO) | (refine stX hO 1 rfl rfl rfl rfl rfl (tS rfl) ?_; clear hO; intro ww hO) | (refine stC hO 1 rfl rfl rfl (ltb rfl) rfl (tS rfl) ?_; clear hO; intro ww hO))
    | (go_at_call 10; refine (start_ok _ _ _ word _ _ _ salt _ (hO.rd HR1.out) (hO.rd HR2.out) h1 h2 (HT.out.own hO)).mono ?_; rw [H1.out]; rintro e ww ⟨rfl, hb⟩; replace hO := hO.call hb; clear hb)
    | (go_at_call 9; refine (go_ok u1 _ _ _ word r _ (hO.rd HR1.out) h1 hr (HT.out.own hO)).mono ?_; rw [H2.out]; rintro e ww ⟨rfl, hb⟩; replace hO := hO.call hb; clear hb))
  refine bodyPost_ret (res_ct rfl _ _ _ 24 u2.C (0,0) _ rfl (hO.blk 1 rfl) Tryd.underlying24 rfl (iws' _)) rfl ⟨rfl, hO.below⟩

set_option maxHeartbeats 1000000 in
set_option maxRecDepth 100000 in
theorem key_long (a1 : Option Addr) (n1 c1 : Nat) (a2 : Option Addr) (n2 c2 : Nat) (r : Int) (w : World) (h1 : n1 ≤ maxLen) (h2 : n2 ≤ maxLen) (hn : 64 < n1 ∨ 64 < n2) :
    Calls Tryd.prog 11 #[.slice a1 n1 c1, .slice a2 n2 c2, .int .i64 r] w fun e w' => e = .returned (.tuple #[.agg St.zero.C, .int .i64 3]) ∧ Below w.heap.size w w' := by
  have hO := Own.start w
  have H := Lib.hid (fun w => start_long a1 n1 c1 a2 n2 c2 w h1 h2 hn)
  clear h1 h2 hn
  generalize hW : w = wn at hO ⊢
  clear hW w
  go_enter Tryd.func11, Tryd.ntmps11
  go_wp2_with (first
    | ((with_reducible refine gAlloc ?_); refine own_alloc hO _ _ iwz ?_; clear hO; intro rr ww hO)
    | ((with_reducible refine gLoad ?_); first | refine ldX hO 0 rfl rfl (tA rfl) (tS rfl) ?_ | refine ldC hO 0 rfl rfl (tA rfl) rfl ?_ | refine ldX hO 1 rfl rfl (tA rfl) (tS rfl) ?_ | refine ldC hO 1 rfl rfl (tA rfl) rfl ?_)
    | ((with_reducible refine gStore ?_); first | (refine stX hO 0 rfl rfl rfl rfl rfl (tS rfl) ?_; clear hO; intro ww hO) | (refine stC hO 0 rfl rfl rfl (ltb rfl) rfl (tS rfl) ?_; clear hO; intro ww hO) | (refine stX hO 1 rfl rfl rfl rfl rfl (tS rfl) ?_; clear hO; intro ww hO) | (refine stC hO 1 rfl rfl rfl (ltb rfl) rfl (tS rfl) ?_; clear hO; intro ww hO))
    | (go_at_call 10; refine (H.out _).mono ?_; rintro e ww ⟨rfl, hb⟩; replace hO := hO.call hb; clear hb))
  refine bodyPost_ret (res_ct rfl _ _ _ 24 St.zero.C (0,0) _ rfl (hO.blk 1 rfl) Tryd.underlying24 rfl (iws' _)) rfl ⟨rfl, hO.below⟩

set_option maxHeartbeats 1000000 in
set_option maxRecDepth 100000 in
theorem dlive_calls (w : World) (hT : Turns w) :
    Calls Tryd.prog 8 #[] w fun e w' => e = .returned (.bool true) ∧ Below w.heap.size w w' := by
  have hO := Own.start w
  have HT := Lib.hid hT
  clear hT
  generalize hW : w = wn at hO HT ⊢
  clear hW w
  obtain ⟨s, hs⟩ : ∃ s, St.mk 1#32 2#32 3#32 4#32 = s := ⟨_, rfl⟩
  have hC : #[Value.int .u32 1, .int .u32 2, .int .u32 3, .int .u32 4] = s.C := by rw [← hs]; rfl
  have HC := Lib.hid hC
  have hgo : ∀ w a n c, Rd w 1 a n c (u8s [5#8]) → n ≤ 64 → Turns w → Calls Tryd.prog 9 #[.agg #[.int .u32 1, .int .u32 2, .int .u32 3, .int .u32 4], .slice a n c, .int .i64 0] w fun e w' => e = .returned (.tuple #[.agg s.C, .int .i64 0]) ∧ Below w.heap.size w w' := fun w a n c h1 h2 h3 => by
    rw [hC]; exact go_ok s a n c [5#8] 0 w h1 h2 (by omega) h3
  have HG := Lib.hid hgo
  have heq : ∀ w, (binOp .eql 24 (.agg s.C) (.agg #[.int .u32 1, .int .u32 2, .int .u32 3, .int .u32 4])).run Tryd.prog w = .ok (.bool true) w := fun w => by rw [hC]; exact eqWT s w
  have HQ := Lib.hid heq
  clear hs hC hgo heq
  go_enter Tryd.func8, Tryd.ntmps8
  go_wp2_with (first
    | ((with_reducible refine gAlloc ?_); refine own_alloc hO _ _ iwz ?_; clear hO; intro rr ww hO)
    | ((with_reducible refine gG ?_); refine wpList_want rfl ?_)
    | ((with_reducible refine gLoad ?_); first | refine ldX hO 0 rfl rfl (tA rfl) (tS rfl) ?_ | refine ldC hO 0 rfl rfl (tA rfl) rfl ?_ | refine ldX hO 1 rfl rfl (tA rfl) (tS rfl) ?_ | refine ldC hO 1 rfl rfl (tA rfl) rfl ?_)
    | ((with_reducible refine gStore ?_); first | (refine stX hO 0 rfl rfl rfl rfl rfl (tS rfl) ?_; clear hO; intro ww hO) | (refine stC hO 0 rfl rfl rfl (ltb rfl) rfl (tS rfl) ?_; clear hO; intro ww hO) | (refine stX hO 1 rfl rfl rfl rfl rfl (tS rfl) ?_; clear hO; intro ww hO) | (refine stC hO 1 rfl rfl rfl (ltb rfl) rfl (tS rfl) ?_; clear hO; intro ww hO))
    | ((with_reducible refine gBuild ?_); refine own_build hO 25 1 _ eu8 (u8s [5#8]).toArray (by omega) (by omega) (by simp [go_sem, Instr.fill, u8s]) rfl ?_; clear hO; intro g w2 hO)
    | (go_at_call 9; refine (HG.out _ _ _ _ (hO.rdAt 0 rfl) (by omega) (HT.out.own hO)).mono ?_; rintro e ww ⟨rfl, hb⟩; replace hO := hO.call hb; clear hb)
    | ((with_reducible refine gEql (t := 24) ?_); refine eqD (by kernel_rfl) rfl rfl ?_; (with_reducible refine ⟨_, HQ.out, ?_⟩)))
  go_ret
  exact ⟨rfl, hO.below⟩
end Go.Proofs.YtbgefpmnncaifaaDoor
