/- The walk of perm.Absorb. -/
import Derived.Test.YtekiloagckkneaaDoorPe
import Derived.Test.YtekiloagckkneaaDoorPa
import Derived.Test.YtekiloagckkneaaDoorG
import Derived.Test.YtekiloagckkneaaDoorT
import Derived.Test.YtekiloagckkneaaDoorV
import Derived.Deep.CutRange
import Derived.Deep.CutBlock
namespace Go.Proofs.YtekiloagckkneaaDoor
open Go.RowKit Go.Own Go.Bv Go.Ord Go.Eq

def absT (s : St) (bs : List (BitVec 8)) : St := if bs.length ≤ 131072 then s.absorb bs else St.zero
def absE (bs : List (BitVec 8)) : Int := if bs.length ≤ 131072 then 0 else 3

theorem xput_fact (s : St) (c : BitVec 8) (k : Nat) (hk : k < 8) : ∃ Y : BitVec 32, Go.bits .xor .u32 ((s.w (k / 4)).toNat : Int) ((c.toNat : Int) * ((2 ^ (k % 4 * 8) : Nat) : Int)) = (Y.toNat : Int) ∧ (s.xput k c).C = s.C.setIfInBounds (k / 4) (.int .u32 (Y.toNat : Int)) := by
  refine ⟨s.w (k / 4) ^^^ c.setWidth 32 <<< (k % 4 * 8), ?_, ?_⟩
  · have hs : ((c.setWidth 32 <<< (k % 4 * 8)).toNat : Int) = (c.toNat : Int) * ((2 ^ (k % 4 * 8) : Nat) : Int) := by
      rw [BitVec.toNat_shiftLeft, Nat.shiftLeft_eq, BitVec.toNat_setWidth, Nat.mod_eq_of_lt (a := c.toNat) (by have := c.isLt; omega), Nat.mod_eq_of_lt]
      · norm_cast
      · have h1 : 2 ^ (k % 4 * 8) ≤ 2 ^ 24 := Nat.pow_le_pow_right (by omega) (by omega)
        have h2 := c.isLt
        calc c.toNat * 2 ^ (k % 4 * 8) ≤ 255 * 2 ^ 24 := Nat.mul_le_mul (by omega) h1
          _ < 2 ^ 32 := by decide
    rw [← hs, xor32]
  · obtain rfl | rfl | rfl | rfl | rfl | rfl | rfl | rfl : k = 0 ∨ k = 1 ∨ k = 2 ∨ k = 3 ∨ k = 4 ∨ k = 5 ∨ k = 6 ∨ k = 7 := by omega
    all_goals simp [St.xput, St.C, St.w, St.l]

/-- the piece of the walk that takes one octet in -/
def XKeep (P : Prop) : Prop := P

set_option maxHeartbeats 4000000 in
set_option maxRecDepth 100000 in
theorem absorb1_calls (s : St) (a : Option Addr) (n cap : Nat) (bs : List (BitVec 8)) (w : World) (hR : Rd w 1 a n cap (u8s bs)) (hT : Turns w) (hn : n ≤ 131072) :
    Calls Tryd.prog 26 #[.agg s.C, .slice a n cap] w fun e w' => e = .returned (.tuple #[.agg (s.absorb bs).C, .int .i64 0]) ∧ Below w.heap.size w w' := by
  have hO := Own.start w
  have hlen : bs.length = n := by have := hR.len; rw [u8s_length] at this; omega
  have HL := Lib.hid hlen
  have HR := Lib.hid hR
  have HT := Lib.hid hT
  have HA : Hid (s.absorb bs = s.absK bs (n / 8 + 1)) := by show _ = _; unfold St.absorb; rw [hlen]
  rw [HA.out]
  clear hR hlen hT HA
  generalize hW : w = wn at hO HR HT ⊢
  clear hW w
  go_enter Tryd.func26, Tryd.ntmps26
  go_wp2_with (first
    | ((with_reducible refine gBox ?_); refine own_box hO 24 _ _ rfl ?_; clear hO; intro b w1 hO; replace hO : Own wn w1 [.blk b (.cells s.C 24 (0,0))] := hO)
    | ((with_reducible refine gAlloc ?_); refine own_alloc hO 24 _ iwz ?_; clear hO; intro r w2 hO))
  go_loopg [6] (n / 8 + 1) (fun m c wr => ∃ k : Nat, m = n / 8 + 1 - k ∧ k ≤ n / 8 + 1 ∧ c = .int .i64 ((8 * k : Nat) : Int) ∧ Own wn wr [.blk r (.cells St.zero.C 24 (0,0)), .blk b (.cells (s.absK bs k).C 24 (0,0))])
  case atStart => exact ⟨0, rfl, by omega, rfl, hO⟩
  case round =>
    obtain ⟨k, rfl, hk, rfl, hO1⟩ := hrel
    clear hO
    have hO := hO1
    clear hO1
    by_cases hlt : 8 * k ≤ n
    · have hb0 : decide (((8 * k : Nat) : Int) ≤ (n : Int)) = true := by simp; omega
      have HS : Hid (s.absK bs (k + 1) = (St.mixK (s.absK bs k) bs (8 * k) 8).perm) := rfl
      generalize hu : s.absK bs k = u at *
      clear hu
      obtain ⟨p, hp⟩ : ∃ p, 8 * k = p := ⟨_, rfl⟩
      have hp2 : p + 8 = 8 * (k + 1) := by omega
      have hk2 : k < n / 8 + 1 := by omega
      have HP := Lib.hid hp
      have HP2 := Lib.hid hp2
      rw [hp] at HS hb0 hlt ⊢
      clear hp hp2
      go_wp2
      obtain ⟨wo, hwo⟩ : ∃ wo : World, wo = wr := ⟨_, rfl⟩
      clear hwo
      go_loopg [7, 8, 19, 21, 22, 23, 24, 25, 26, 27, 28, 29, 30, 31, 32, 33, 34, 35, 36, 37, 38, 39, 40, 41, 42, 43, 44, 45, 46, 47, 48, 49, 50, 51, 52, 53, 54] 8 (fun m s7 s8 c s21 s22 s23 s24 s25 s26 s27 s28 s29 s30 s31 s32 s33 s34 s35 s36 s37 s38 s39 s40 s41 s42 s43 s44 s45 s46 s47 s48 s49 s50 s51 s52 s53 s54 wq => ∃ j : Nat, m = 8 - j ∧ j ≤ 8 ∧ c = .int .i64 (j : Int) ∧ Own wn wq [.blk r (.cells St.zero.C 24 (0,0)), .blk b (.cells (St.mixK u bs p j).C 24 (0,0))])
      case atStart => exact ⟨0, rfl, by omega, rfl, hO⟩
      case round =>
        obtain ⟨j, rfl, hj, rfl, hO1⟩ := hrel
        clear hO
        have hO := hO1
        clear hO1
        by_cases hjl : j < 8
        · have hb1 : decide ((j : Int) < 8) = true := by simp; omega
          have HM : Hid (St.mixK u bs p (j + 1) = (St.mixK u bs p j).xput j (byteAt bs (p + j))) := rfl
          generalize St.mixK u bs p j = v at *
          obtain ⟨c, hc⟩ : ∃ c, byteAt bs (p + j) = c := ⟨_, rfl⟩
          rw [hc] at HM
          have HC1 : Hid (p + j < n → (u8s bs)[p + j]? = some (.int .u8 (c.toNat : Int))) := fun hi => by
            have h2 : p + j < bs.length := by rw [HL.out]; exact hi
            rw [← hc, byteAt_lt h2]
            exact u8s_get bs (p + j) h2
          have HC2 : Hid (p + j = n → Value.int .u8 128 = .int .u8 (c.toNat : Int)) := fun hi => by
            rw [← hc, hi, ← HL.out, byteAt_eq]; rfl
          have HC3 : Hid (n < p + j → Value.int .u8 0 = .int .u8 (c.toNat : Int)) := fun hi => by
            rw [← hc, byteAt_gt (by rw [HL.out]; exact hi)]; rfl
          clear hc
          obtain ⟨q, hq⟩ : ∃ q, q = j := ⟨j, rfl⟩
          have HQ := Lib.hid hq
          clear hq
          go_upto_block 4 with fail
          go_cut [8, 19] from 19 to 54 (fun s8 s19 wx => s8 = .int .u8 (c.toNat : Int) ∧ s19 = .int .i64 (j : Int) ∧ Own wn wx [.blk r (.cells St.zero.C 24 (0,0)), .blk b (.cells v.C 24 (0,0))])
          case first =>
            by_cases c1 : p + j < n
            · have d1 : decide ((p : Int) + (j : Int) < (n : Int)) = true := by simp; omega
              obtain ⟨b0, off, rfl⟩ := HR.out.place (by omega)
              have HV := Lib.hid (HC1.out c1)
              go_wp2_with (first | ((with_reducible refine gLoad ?_); refine ld_rd (hO.rd HR.out) rfl (HV.out) (tA rfl) ?_))
              go_meet
              case rel => exact ⟨rfl, rfl, hO⟩
            · have d1 : decide ((p : Int) + (j : Int) < (n : Int)) = false := by simp; omega
              by_cases c2 : p + j = n
              · have d2 : (((p : Int) + (j : Int)) == (n : Int)) = true := by simp; omega
                have HV := Lib.hid (HC2.out c2)
                clear c2
                go_wp2
                go_meet
                case rel => exact ⟨HV.out, rfl, hO⟩
              · have d2 : (((p : Int) + (j : Int)) == (n : Int)) = false := by simp; omega
                have HV := Lib.hid (HC3.out (by omega))
                clear c2
                go_wp2
                go_meet
                case rel => exact ⟨HV.out, rfl, hO⟩
          case rest =>
            obtain ⟨rfl, rfl, hO1⟩ := hcut
            clear hO HC1 HC2 HC3
            have hO := hO1
            clear hO1
            obtain rfl | rfl | rfl | rfl | rfl | rfl | rfl | rfl : j = 0 ∨ j = 1 ∨ j = 2 ∨ j = 3 ∨ j = 4 ∨ j = 5 ∨ j = 6 ∨ j = 7 := by omega
            all_goals
              go_wp2
              refine wp_region_text (by kernel_rfl) (by kernel_rfl) ?_
              replace hO := hO.drew
              generalize World.drew _ = wd at hO ⊢
              go_wp2_with (first | ((with_reducible refine gLoad ?_); first | refine ld_blk hO 0 rfl rfl rfl (tA rfl) ?_ | refine ld_all hO 0 rfl rfl (tA rfl) (tS rfl) ?_ | refine ld_blk hO 1 rfl rfl rfl (tA rfl) ?_ | refine ld_all hO 1 rfl rfl (tA rfl) (tS rfl) ?_) | ((with_reducible refine gStore ?_); first | (refine st_blk hO 0 rfl rfl rfl (ltb rfl) rfl (tS rfl) ?_; clear hO; intro ww hO) | (refine st_all hO 0 rfl rfl rfl rfl rfl rfl (tS rfl) ?_; clear hO; intro ww hO) | (refine st_blk hO 1 rfl rfl rfl (ltb rfl) rfl (tS rfl) ?_; clear hO; intro ww hO) | (refine st_all hO 1 rfl rfl rfl rfl rfl rfl (tS rfl) ?_; clear hO; intro ww hO)) | ((with_reducible refine Go.Bva.gBin ?_); first | refine Go.Bva.shl_u32 (Go.Bva.w8 rfl) rfl (by decide) ?_ | refine Go.Bva.xor_u32 rfl rfl ?_) | ((with_reducible refine gI ?_); refine wpI_step rfl rfl (by kernel_rfl) ?_; intro K hK; have HK := Lib.hid hK; clear hK) | ((with_reducible refine gI ?_); first | refine wpI_skip rfl ?_ | refine wpI_want rfl ?_) | ((with_reducible refine gOnlyK0 HK.out ?_); clear HK K; first | (refine wpI_act (by simp only [Act.put, List.setIfInBounds_toArray, List.set_cons_succ, List.set_cons_zero]; rfl) ?_) | skip) | (with_reducible refine wpI_nil ?_))
              go_roundg (8 - (q + 1))
              case measure => rw [HQ.out]; omega
              case rel => exact ⟨q + 1, rfl, by rw [HQ.out]; omega, by rw [HQ.out]; go_num, by rw [HQ.out, HM.out]; exact hO⟩
        · obtain rfl : j = 8 := by omega
          go_wp2_with (first
            | ((with_reducible refine gLoad ?_); first | refine ld_blk hO 0 rfl rfl rfl (tA rfl) ?_ | refine ld_all hO 0 rfl rfl (tA rfl) (tS rfl) ?_ | refine ld_blk hO 1 rfl rfl rfl (tA rfl) ?_ | refine ld_all hO 1 rfl rfl (tA rfl) (tS rfl) ?_)
            | ((with_reducible refine gStore ?_); first | (refine st_blk hO 0 rfl rfl rfl (ltb rfl) rfl (tS rfl) ?_; clear hO; intro ww hO) | (refine st_all hO 0 rfl rfl rfl rfl rfl rfl (tS rfl) ?_; clear hO; intro ww hO) | (refine st_blk hO 1 rfl rfl rfl (ltb rfl) rfl (tS rfl) ?_; clear hO; intro ww hO) | (refine st_all hO 1 rfl rfl rfl rfl rfl rfl (tS rfl) ?_; clear hO; intro ww hO))
            | (go_at_call 40; refine (perm_calls _ _ (HT.out.own hO)).mono ?_; rintro e ww ⟨rfl, hb⟩; replace hO := hO.call hb; clear hb))
          go_roundg (n / 8 + 1 - (k + 1))
          case measure => omega
          case rel => exact ⟨k + 1, rfl, by omega, by rw [← HP2.out]; go_num, by rw [HS.out]; exact hO⟩
    · have hb0 : decide (((8 * k : Nat) : Int) ≤ (n : Int)) = false := by simp; omega
      obtain rfl : k = n / 8 + 1 := by omega
      go_wp2_with (first
        | ((with_reducible refine gLoad ?_); first | refine ld_blk hO 0 rfl rfl rfl (tA rfl) ?_ | refine ld_all hO 0 rfl rfl (tA rfl) (tS rfl) ?_ | refine ld_blk hO 1 rfl rfl rfl (tA rfl) ?_ | refine ld_all hO 1 rfl rfl (tA rfl) (tS rfl) ?_)
        | ((with_reducible refine gStore ?_); first | (refine st_blk hO 0 rfl rfl rfl (ltb rfl) rfl (tS rfl) ?_; clear hO; intro ww hO) | (refine st_all hO 0 rfl rfl rfl rfl rfl rfl (tS rfl) ?_; clear hO; intro ww hO) | (refine st_blk hO 1 rfl rfl rfl (ltb rfl) rfl (tS rfl) ?_; clear hO; intro ww hO) | (refine st_all hO 1 rfl rfl rfl rfl rfl rfl (tS rfl) ?_; clear hO; intro ww hO)))
      refine bodyPost_ret (res_ct rfl _ _ r 24 (s.absK bs (n / 8 + 1)).C (0,0) _ rfl (hO.blk 0 rfl) Tryd.underlying24 rfl (iws' _)) rfl ⟨rfl, hO.below⟩
end Go.Proofs.YtekiloagckkneaaDoor
