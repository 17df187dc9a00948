/- The walk of CrcXor. -/
import Derived.Test.YtocanpehkmcndaaL
namespace Go.Proofs.Ytocanpehkmcndaa
open Go.RowKit Go.Own Go.Bv Go.Ord Go.Eq

theorem xorL_get (A B C : List (BitVec 8)) (k : Nat) (ha : k < A.length) (hb : k < B.length) (hc : k < C.length) : (u8s (Crc.xorL (Crc.xorL A B) C))[k]? = some (.int .u8 (((A[k] ^^^ B[k] ^^^ C[k]).toNat : Nat) : Int)) := by
  simp [u8s, Crc.xorL, List.getElem?_zipWith, ha, hb, hc]

set_option maxHeartbeats 2000000 in
set_option maxRecDepth 100000 in
theorem xor_walk (a1 a2 a3 : Option Addr) (n1 c1 n2 c2 n3 c3 : Nat) (A B C : List (BitVec 8)) (w : World) (hA : Rd w 1 a1 n1 c1 (u8s A)) (hB : Rd w 1 a2 n2 c2 (u8s B)) (hC : Rd w 1 a3 n3 c3 (u8s C)) :
    Calls Try.prog 3 #[.slice a1 n1 c1, .slice a2 n2 c2, .slice a3 n3 c3] w fun e w' => e = .returned (.bool true) ∧ Below w.heap.size w w' := by
  have hO := Own.start w
  have la : A.length = n1 := by have := hA.len; rw [u8s_length] at this; omega
  have lb : B.length = n2 := by have := hB.len; rw [u8s_length] at this; omega
  have lc : C.length = n3 := by have := hC.len; rw [u8s_length] at this; omega
  have HA := Lib.hid hA
  have HB := Lib.hid hB
  have HC := Lib.hid hC
  clear hA hB hC
  generalize hW : w = wn at hO HA HB HC ⊢
  clear hW w
  by_cases h5 : n1 ≤ 500
  · by_cases h12 : n1 = n2
    · by_cases h13 : n1 = n3
      · subst h12 h13
        have HLA := Lib.hid la
        have HLB := Lib.hid lb
        have HLC := Lib.hid lc
        have lX : (u8s (Crc.xorL (Crc.xorL A B) C)).length = n1 := by rw [u8s_length]; simp [Crc.xorL]; omega
        have hsum := Crc.sum_xor3 A B C (by omega) (by omega)
        obtain ⟨s1, s2, t1, t2, hs1, hs2, ht1, ht2, hfin⟩ : ∃ s1 s2 t1 t2 : BitVec 32, Crc.sum A = s1 ∧ Crc.sum B = s2 ∧ Go.bits .xor .u32 (s1.toNat : Int) (s2.toNat : Int) = (t1.toNat : Int) ∧ Go.bits .xor .u32 (t1.toNat : Int) ((Crc.sum C).toNat : Int) = (t2.toNat : Int) ∧ t2 = Crc.sum (Crc.xorL (Crc.xorL A B) C) :=
          ⟨_, _, _, _, rfl, rfl, xor32 _ _, xor32 _ _, hsum.symm⟩
        subst hs1 hs2
        have HX := Lib.hid lX
        have HF := Lib.hid hfin
        clear la lb lc lX hsum hfin
        go_enter Try.func3, Try.ntmps3
        go_wp2_with (first
          | (go_at_call 8; refine (live_calls _).mono ?_; rintro e w1 ⟨rfl, hb⟩; replace hO := hO.call hb; clear hb)
          | ((with_reducible refine gMake ?_); refine own_make hO _ _ 22 eu8 n1 rfl rfl rfl rfl (by omega) (by simp [maxLen]; omega) ?_; clear hO; intro g w2 hO))
        go_loopg [34] n1 (fun m c wr => ∃ k : Nat, m = n1 - k ∧ k ≤ n1 ∧ c = .int .i64 k ∧ Own wn wr [.sl 5 1 (.slice (some ⟨g, 0, none⟩) n1 n1) n1 (fillK (u8s (Crc.xorL (Crc.xorL A B) C)) (.int .u8 0) k)])
        case atStart => exact ⟨0, rfl, by omega, rfl, by rw [fillK_zero, HX.out, ← made_u8]; exact hO⟩
        case round =>
          obtain ⟨k, rfl, hk, rfl, hO1⟩ := hrel
          clear hO
          by_cases hlt : k < n1
          · have ka : k < A.length := by have := HLA.out; omega
            have kb : k < B.length := by have := HLB.out; omega
            have kc : k < C.length := by have := HLC.out; omega
            have HG := Lib.hid (xorL_get A B C k ka kb kc)
            obtain ⟨ba, oa, ea, _, fa⟩ := HA.out.at' (by omega)
            obtain ⟨bb, ob, eb, _, fb⟩ := HB.out.at' (by omega)
            obtain ⟨bc, oc, ec, _, fc⟩ := HC.out.at' (by omega)
            subst ea eb ec
            have ga : wr.drew.cell? ⟨ba, oa + k, none⟩ = some (.int .u8 (A[k].toNat : Int)) := hO1.drew.oldcell ((fa k (by omega)).trans (u8s_get A k ka))
            have gb : wr.drew.cell? ⟨bb, ob + k, none⟩ = some (.int .u8 (B[k].toNat : Int)) := hO1.drew.oldcell ((fb k (by omega)).trans (u8s_get B k kb))
            have gc : wr.drew.cell? ⟨bc, oc + k, none⟩ = some (.int .u8 (C[k].toNat : Int)) := hO1.drew.oldcell ((fc k (by omega)).trans (u8s_get C k kc))
            clear fa fb fc
            generalize A[k] = x at *
            generalize B[k] = y at *
            generalize C[k] = z at *
            obtain ⟨u, v, hu, hv, huv⟩ := xor8_3 x y z
            have HUV := Lib.hid huv
            clear huv
            replace hO1 := hO1.drew
            generalize hwr : wr.drew = wd at ga gb gc hO1
            have HWR := Lib.hid hwr
            clear hwr
            go_wp2
            refine wp_region_text (by kernel_rfl) (by kernel_rfl) ?_
            rw [HWR.out]
            clear HWR
            go_wp2_with (first
              | ((with_reducible refine gI ?_); refine wpI_step rfl rfl (by first | exact ok_int rfl rfl | exact ok_bool rfl rfl | exact ok_str rfl rfl | exact ok_conv rfl | rfl) ?_; intro _ _) | ((with_reducible refine gI ?_); first | refine wpI_skip rfl ?_ | refine wpI_want rfl ?_) | (with_reducible refine gOnly0 ?_) | (with_reducible refine wpI_nil ?_)
              | ((with_reducible refine gStore ?_); refine own_setElem hO1 0 5 _ _ _ rfl rfl rfl (by omega) iu8s rfl ?_; clear hO1 ga gb gc; intro w3 hO1))
            go_roundg (n1 - (k + 1))
            case measure => omega
            case rel =>
              refine ⟨k + 1, rfl, by omega, by go_num, ?_⟩
              rw [← fillK_set _ _ _ k HG.out, ← HUV.out]
              exact hO1
          · obtain rfl : k = n1 := by omega
            have hall : fillK (u8s (Crc.xorL (Crc.xorL A B) C)) (.int .u8 0) k = u8s (Crc.xorL (Crc.xorL A B) C) := by
              have := fillK_all (u8s (Crc.xorL (Crc.xorL A B) C)) (.int .u8 0)
              rw [HX.out] at this; exact this
            rw [hall] at hO1
            clear hall
            go_wp2_with (first
              | (go_at_call 9; refine (sum_calls _ _ _ _ _ (hO1.rdAt 0 rfl)).mono ?_; rw [← HF.out]; rintro e w4 ⟨rfl, hb⟩; replace hO1 := hO1.call hb; clear hb)
              | (go_at_call 9; refine (sum_calls _ _ _ A _ (hO1.rd HA.out)).mono ?_; rintro e w5 ⟨rfl, hb⟩; replace hO1 := hO1.call hb; clear hb)
              | (go_at_call 9; refine (sum_calls _ _ _ B _ (hO1.rd HB.out)).mono ?_; rintro e w6 ⟨rfl, hb⟩; replace hO1 := hO1.call hb; clear hb)
              | (go_at_call 9; refine (sum_calls _ _ _ C _ (hO1.rd HC.out)).mono ?_; rintro e w7 ⟨rfl, hb⟩; replace hO1 := hO1.call hb; clear hb))
            go_ret
            exact ⟨rfl, hO1.below⟩
      · subst h12
        have b1 : ((n1 : Int) != (n3 : Int)) = true := by simp; omega
        go_enter Try.func3, Try.ntmps3
        go_wp2_with (go_at_call 8; refine (live_calls _).mono ?_; rintro e w1 ⟨rfl, hb⟩; replace hO := hO.call hb; clear hb)
        go_ret
        exact ⟨rfl, hO.below⟩
    · have b1 : ((n1 : Int) != (n2 : Int)) = true := by simp; omega
      go_enter Try.func3, Try.ntmps3
      go_wp2_with (go_at_call 8; refine (live_calls _).mono ?_; rintro e w1 ⟨rfl, hb⟩; replace hO := hO.call hb; clear hb)
      go_ret
      exact ⟨rfl, hO.below⟩
  · go_enter Try.func3, Try.ntmps3
    go_wp2_with (go_at_call 8; refine (live_calls _).mono ?_; rintro e w1 ⟨rfl, hb⟩; replace hO := hO.call hb; clear hb)
    go_ret
    exact ⟨rfl, hO.below⟩
end Go.Proofs.Ytocanpehkmcndaa
