/- Walks: the statements' own helpers of layer 3: SameBytes, live. -/
import Derived.Test.YtocanpehkmcndaaD
import Derived.Test.YtocanpehkmcndaaCp
namespace Go.Proofs.Ytocanpehkmcndaa
open Go.RowKit Go.Own Go.Bv Go.Ord Go.Eq

set_option maxHeartbeats 1000000 in
theorem same_calls (a1 a2 : Option Addr) (n1 c1 n2 c2 : Nat) (b1 b2 : List (BitVec 8)) (w : World) (h1 : Rd w 1 a1 n1 c1 (u8s b1)) (h2 : Rd w 1 a2 n2 c2 (u8s b2)) :
    Calls Try.prog 16 #[.slice a1 n1 c1, .slice a2 n2 c2] w fun e w' => e = .returned (.bool (decide (b1 = b2))) ∧ w = w' := by
  have r1 := run_bytes_string (P := Try.prog) w Try.underlying22 Try.underlying5 Try.underlying9 h1
  have r2 := run_bytes_string (P := Try.prog) w Try.underlying22 Try.underlying5 Try.underlying9 h2
  clear h1 h2
  go_enter Try.func16, Try.ntmps16
  go_wp2
  go_ret
  exact ⟨by rw [strB_beq]; rfl, rfl⟩

def nine : List (BitVec 8) := [49#8, 50#8, 51#8, 52#8, 53#8, 54#8, 55#8, 56#8, 57#8]
theorem sum_nine : Crc.sum nine = 3421780262#32 := by decide +kernel

set_option maxHeartbeats 1000000 in
set_option maxRecDepth 100000 in
theorem live_calls (w : World) :
    Calls Try.prog 8 #[] w fun e w' => e = .returned (.bool true) ∧ Below w.heap.size w w' := by
  have hO := Own.start w
  generalize hW : w = wn at hO ⊢
  clear hW w
  go_enter Try.func8, Try.ntmps8
  go_wp2_with (first
    | ((with_reducible refine gBuild ?_); go_must (refine own_build hO 22 9 _ eu8 #[.int .u8 49, .int .u8 50, .int .u8 51, .int .u8 52, .int .u8 53, .int .u8 54, .int .u8 55, .int .u8 56, .int .u8 57] (by omega) (by omega) (by simp [go_sem, Instr.fill]) rfl ?_); clear hO; intro g w1 hO)
    | (refine own_const hO 22 _ Try.underlying22 Try.underlying5 rfl rfl ?_; clear hO; intro C w2 hO hC; replace hC : C.toList = u8s nine := hC)
    | (go_at_call 9; refine (sum_calls _ _ _ nine _ (rd_blk (hO.blk 0 rfl) 1 0 9 9 (u8s nine) rfl (Nat.le_refl _) (by simp [maxLen]) (fun j hj => by rw [Nat.zero_add, ← Array.getElem?_toList, hC]))).mono ?_; rw [sum_nine]; rintro e w3 ⟨rfl, hb⟩; replace hO := hO.call hb; clear hb))
  go_ret
  exact ⟨rfl, hO.below⟩
end Go.Proofs.Ytocanpehkmcndaa
