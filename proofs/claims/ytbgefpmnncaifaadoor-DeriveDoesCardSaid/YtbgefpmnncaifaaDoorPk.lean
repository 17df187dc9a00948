/- The walk of the document's Squeeze; of Absorb and Squeeze, of both, for whatever comes in. -/
import Derived.Test.YtbgefpmnncaifaaDoorPj
import Derived.Test.YtbgefpmnncaifaaDoorPSq
namespace Go.Proofs.YtbgefpmnncaifaaDoor
open Go.RowKit Go.Own Go.Bv Go.Ord Go.Eq

def sqT (s : St) (n : Int) : List (BitVec 8) := if n < 0 ∨ 131072 < n then [] else s.squeeze n.toNat
def sqE (n : Int) : Int := if n < 0 then 1 else if 131072 < n then 3 else 0
/-- what is squeezed out, or why not -/
def SqOut (w : World) (X : List (BitVec 8)) (E : Int) (e : Ending) (w' : World) : Prop :=
  ∃ a m c, e = .returned (.tuple #[.slice a m c, .int .i64 E]) ∧ Below w.heap.size w w' ∧ Rd w' 1 a m c (u8s X)
set_option maxHeartbeats 1000000 in
theorem absorb_no (s : St) (a : Option Addr) (n cap : Nat) (w : World) (hn : 131072 < n) :
    Calls Tryd.prog 18 #[.agg s.C, .slice a n cap] w fun e w' => e = .returned (.tuple #[.agg St.zero.C, .int .i64 3]) ∧ Below w.heap.size w w' := by
  have hO := Own.start w
  have d1 : decide ((131072 : Int) < (n : Int)) = true := by simp; omega
  generalize hW : w = wn at hO ⊢
  clear hW w
  go_enter Tryd.func18, Tryd.ntmps18
  go_wp2_with (first | ((with_reducible refine gBox ?_); first | (refine bxA hO rfl ?_; clear hO; intro b ww hO) | (refine bx1 hO rfl rfl ?_; clear hO; intro b ww hO)) | ((with_reducible refine gAlloc ?_); refine own_alloc hO _ _ iwz ?_; clear hO; intro rr ww hO) | ((with_reducible refine gStore ?_); first | (refine stX hO 0 rfl rfl rfl rfl rfl (tS rfl) ?_; clear hO; intro ww hO) | (refine stC hO 0 rfl rfl rfl (ltb rfl) rfl (tS rfl) ?_; clear hO; intro ww hO)))
  refine bodyPost_ret (res_ct rfl _ _ rr 24 St.zero.C (0,0) _ rfl (hO.blk 0 rfl) Tryd.underlying24 rfl (iws' _)) rfl ⟨rfl, hO.below⟩
set_option maxHeartbeats 1000000 in
theorem rabsorb_no (s : St) (a : Option Addr) (n cap : Nat) (w : World) (hn : 131072 < n) :
    Calls Tryd.prog 19 #[.agg s.C, .slice a n cap] w fun e w' => e = .returned (.tuple #[.agg St.zero.C, .int .i64 3]) ∧ Below w.heap.size w w' := by
  have hO := Own.start w
  have d1 : decide ((131072 : Int) < (n : Int)) = true := by simp; omega
  generalize hW : w = wn at hO ⊢
  clear hW w
  go_enter Tryd.func19, Tryd.ntmps19
  go_wp2_with (first | ((with_reducible refine gBox ?_); first | (refine bxA hO rfl ?_; clear hO; intro b ww hO) | (refine bx1 hO rfl rfl ?_; clear hO; intro b ww hO)) | ((with_reducible refine gAlloc ?_); refine own_alloc hO _ _ iwz ?_; clear hO; intro rr ww hO) | ((with_reducible refine gStore ?_); first | (refine stX hO 0 rfl rfl rfl rfl rfl (tS rfl) ?_; clear hO; intro ww hO) | (refine stC hO 0 rfl rfl rfl (ltb rfl) rfl (tS rfl) ?_; clear hO; intro ww hO)))
  refine bodyPost_ret (res_ct rfl _ _ rr 24 St.zero.C (0,0) _ rfl (hO.blk 0 rfl) Tryd.underlying24 rfl (iws' _)) rfl ⟨rfl, hO.below⟩
theorem absorb_calls (s : St) (a : Option Addr) (n cap : Nat) (bs : List (BitVec 8)) (w : World) (hR : Rd w 1 a n cap (u8s bs)) (hT : Turns w) :
    Calls Tryd.prog 18 #[.agg s.C, .slice a n cap] w fun e w' => e = .returned (.tuple #[.agg (absT s bs).C, .int .i64 (absE bs)]) ∧ Below w.heap.size w w' := by
  have hl : bs.length = n := by have := hR.len; rw [u8s_length] at this; omega
  unfold absT absE
  by_cases h : n ≤ 131072
  · rw [if_pos (by omega), if_pos (by omega)]
    exact absorb1_calls s a n cap bs w hR hT h
  · rw [if_neg (by omega), if_neg (by omega)]
    exact absorb_no s a n cap w (by omega)
theorem rabsorb_calls (s : St) (a : Option Addr) (n cap : Nat) (bs : List (BitVec 8)) (w : World) (hR : Rd w 1 a n cap (u8s bs)) :
    Calls Tryd.prog 19 #[.agg s.C, .slice a n cap] w fun e w' => e = .returned (.tuple #[.agg (absT s bs).C, .int .i64 (absE bs)]) ∧ Below w.heap.size w w' := by
  have hl : bs.length = n := by have := hR.len; rw [u8s_length] at this; omega
  unfold absT absE
  by_cases h : n ≤ 131072
  · rw [if_pos (by omega), if_pos (by omega)]
    exact rabsorb_ok s a n cap bs w hR h
  · rw [if_neg (by omega), if_neg (by omega)]
    exact rabsorb_no s a n cap w (by omega)
end Go.Proofs.YtbgefpmnncaifaaDoor
