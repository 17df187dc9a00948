/- The walk of CrcTwo. -/
import Derived.Test.YtocanpehkmcndaaJ
namespace Go.Proofs.Ytocanpehkmcndaa
open Go.RowKit Go.Own Go.Bv Go.Ord Go.Eq

set_option maxHeartbeats 2000000 in
set_option maxRecDepth 100000 in
theorem two_walk (r : BitVec 32) (a1 a2 : Option Addr) (n1 c1 n2 c2 : Nat) (A B : List (BitVec 8)) (w : World) (hA : Rd w 1 a1 n1 c1 (u8s A)) (hB : Rd w 1 a2 n2 c2 (u8s B)) :
    Calls Try.prog 7 #[.int .u32 (r.toNat : Int), .slice a1 n1 c1, .slice a2 n2 c2] w fun e w' => e = .returned (.bool true) ∧ Below w.heap.size w w' := by
  have hO := Own.start w
  have la : A.length = n1 := by have := hA.len; rw [u8s_length] at this; omega
  have lb : B.length = n2 := by have := hB.len; rw [u8s_length] at this; omega
  have HA := Lib.hid hA
  have HB := Lib.hid hB
  clear hA hB
  generalize hW : w = wn at hO HA HB ⊢
  clear hW w
  by_cases h1 : n1 ≤ 500
  · have t1 : decide ((500 : Int) < (n1 : Int)) = false := by simp; omega
    by_cases h2 : n2 ≤ 500
    · have t2 : decide ((500 : Int) < (n2 : Int)) = false := by simp; omega
      obtain ⟨S, hS1⟩ : ∃ S, Crc.sum (A ++ B) = S := ⟨_, rfl⟩
      obtain ⟨T, hT1⟩ : ∃ T, Crc.step r (A ++ B) = T := ⟨_, rfl⟩
      have hS2 : Crc.zp n2 (Crc.sum A) ^^^ Crc.sum B = S := by rw [← lb, Crc.sum_append, hS1]
      have hT2 : Crc.step (Crc.step r A) B = T := by rw [← Crc.step_append, hT1]
      have HS1 := Lib.hid hS1
      have HS2 := Lib.hid hS2
      have HT1 := Lib.hid hT1
      have HT2 := Lib.hid hT2
      have hap : u8s A ++ u8s B = u8s (A ++ B) := (u8s_append A B).symm
      have HP := Lib.hid hap
      clear hS1 hS2 hT1 hT2 la lb hap
      go_enter Try.func7, Try.ntmps7
      go_wp2_with (first
        | (go_at_call 8; refine (live_calls _).mono ?_; rintro e w1 ⟨rfl, hb⟩; replace hO := hO.call hb; clear hb)
        | ((with_reducible refine gAppend ?_); refine own_appendNil hO _ _ 22 eu8 rfl rfl (hO.rd HA.out) (u8s_one _) (by simp [maxLen]; omega) (by omega) ?_; clear hO; intro a5 c5 w2 hO)
        | ((with_reducible refine gAppend ?_); refine own_append hO 0 _ _ 22 eu8 rfl rfl rfl (hO.rd HB.out) (u8s_one _) (n1 + n2) rfl (by simp [maxLen]; omega) (by omega) ?_; clear hO; intro a6 c6 w3 hO; have hR : Rd w3 1 a6 (n1 + n2) c6 (u8s (A ++ B)) := (by rw [← HP.out]; exact hO.rdAt 0 rfl); have HR := Lib.hid hR; clear hR)
        | (go_at_call 9; (with_reducible refine gCall #[.slice a1 _ _] ?_); refine (sum_calls _ _ _ A _ (hO.rd HA.out)).mono ?_; rintro e w4 ⟨rfl, hb⟩; replace HR := Lib.hid (HR.out.below hb); replace hO := hO.call hb; clear hb)
        | (go_at_call 9; (with_reducible refine gCall #[.slice a2 _ _] ?_); refine (sum_calls _ _ _ B _ (hO.rd HB.out)).mono ?_; rintro e w5 ⟨rfl, hb⟩; replace HR := Lib.hid (HR.out.below hb); replace hO := hO.call hb; clear hb)
        | (go_at_call 9; (with_reducible refine gCall #[.slice a6 _ _] ?_); refine (sum_calls _ _ _ (A ++ B) _ HR.out).mono ?_; rw [HS1.out]; rintro e w6 ⟨rfl, hb⟩; replace HR := Lib.hid (HR.out.below hb); replace hO := hO.call hb; clear hb)
        | (go_at_call 18; refine (join_calls (Crc.sum A) (Crc.sum B) n2 (by omega) _).mono ?_; rw [HS2.out]; rintro e w7 ⟨rfl, hb⟩; replace HR := Lib.hid (HR.out.below hb); replace hO := hO.call hb; clear hb)
        | (go_at_call 13; (with_reducible refine gCall #[_, .slice a1 _ _] ?_); refine (step_calls r _ _ _ A _ (hO.rd HA.out)).mono ?_; rintro e w8 ⟨rfl, hb⟩; replace HR := Lib.hid (HR.out.below hb); replace hO := hO.call hb; clear hb)
        | (go_at_call 13; (with_reducible refine gCall #[_, .slice a2 _ _] ?_); refine (step_calls (Crc.step r A) _ _ _ B _ (hO.rd HB.out)).mono ?_; rw [HT2.out]; rintro e w9 ⟨rfl, hb⟩; replace HR := Lib.hid (HR.out.below hb); replace hO := hO.call hb; clear hb)
        | (go_at_call 13; (with_reducible refine gCall #[_, .slice a6 _ _] ?_); refine (step_calls r _ _ _ (A ++ B) _ HR.out).mono ?_; rw [HT1.out]; rintro e w10 ⟨rfl, hb⟩; replace HR := Lib.hid (HR.out.below hb); replace hO := hO.call hb; clear hb))
      go_ret
      exact ⟨rfl, hO.below⟩
    · have t2 : decide ((500 : Int) < (n2 : Int)) = true := by simp; omega
      go_enter Try.func7, Try.ntmps7
      go_wp2_with (go_at_call 8; refine (live_calls _).mono ?_; rintro e w1 ⟨rfl, hb⟩; replace hO := hO.call hb; clear hb)
      go_ret
      exact ⟨rfl, hO.below⟩
  · have t1 : decide ((500 : Int) < (n1 : Int)) = true := by simp; omega
    go_enter Try.func7, Try.ntmps7
    go_wp2_with (go_at_call 8; refine (live_calls _).mono ?_; rintro e w1 ⟨rfl, hb⟩; replace hO := hO.call hb; clear hb)
    go_ret
    exact ⟨rfl, hO.below⟩
end Go.Proofs.Ytocanpehkmcndaa
