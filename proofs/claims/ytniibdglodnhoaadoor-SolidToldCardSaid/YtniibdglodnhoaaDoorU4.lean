/- Of several texts of this claim, one behind the other: Pi PSq Pk OF Vh Vs Vt Vg Vb Zn Zp. -/
import Derived.Test.YtniibdglodnhoaaDoorU3
import Derived.Test.YtniibdglodnhoaaDoorPe
import Derived.Deep.CutRange
import Derived.Deep.CutBlock
import Derived.Test.YtniibdglodnhoaaDoorO
import Derived.Lib.AppendZeros
import Derived.Lib.LazyBuf

/- The walk of perm.Absorb. -/
namespace Go.Proofs.YtniibdglodnhoaaDoor
open Go.RowKit Go.Own Go.Bv Go.Ord Go.Eq

def absT (s : St) (bs : List (BitVec 8)) : St := if bs.length ≤ 131072 then s.absorb bs else St.zero
def absE (bs : List (BitVec 8)) : Int := if bs.length ≤ 131072 then 0 else 3

theorem xput_fact (s : St) (c : BitVec 8) (k : Nat) (hk : k < 8) : ∃ Y : BitVec 32, Go.bits .xor .u32 ((s.w (k / 4)).toNat : Int) ((c.toNat : Int) * ((2 ^ (k % 4 * 8) : Nat) : Int)) = (Y.toNat : Int) ∧ (s.xput k c).C = s.C.setIfInBounds (k / 4) (.int .u32 (Y.toNat : Int)) := by
  refine ⟨s.w (k / 4) ^^^ c.setWidth 32 <<< (k % 4 * 8), ?_, ?_⟩
  · have hs : ((c.setWidth 32 <<< (k % 4 * 8)).toNat : Int) = (c.toNat : Int) * ((2 ^ (k % 4 * 8) : Nat) : Int) := by
      rw [BitVec.toNat_shiftLeft, Nat.shiftLeft_eq, BitVec.toNat_setWidth, Nat.mod_eq_of_lt (a := c.toNat) (by have := c.isLt; omega), Nat.mod_eq_of_lt]
      · norm_cast
      · have h1 : 2 ^ (k % 4 * 8) ≤ 2 ^ 24 := Nat.pow_le_pow_right (by omega) (by omega)
        have h2 := c.isLt
        calc c.toNat * 2 ^ (k % 4 * 8) ≤ 255 * 2 ^ 24 := Nat.mul_le_mul (by omega) h1
          _ < 2 ^ 32 := by decide
    rw [← hs, xor32]
  · obtain rfl | rfl | rfl | rfl | rfl | rfl | rfl | rfl : k = 0 ∨ k = 1 ∨ k = 2 ∨ k = 3 ∨ k = 4 ∨ k = 5 ∨ k = 6 ∨ k = 7 := by omega
    all_goals simp [St.xput, St.C, St.w, St.l]

/-- the piece of the walk that takes one octet in -/
def XKeep (P : Prop) : Prop := P

set_option maxHeartbeats 4000000 in
set_option maxRecDepth 100000 in
theorem absorb1_calls (s : St) (a : Option Addr) (n cap : Nat) (bs : List (BitVec 8)) (w : World) (hR : Rd w 1 a n cap (u8s bs)) (hT : Turns w) (hn : n ≤ 131072) :
    Calls Tryd.prog 49 #[.agg s.C, .slice a n cap] w fun e w' => e = .returned (.tuple #[.agg (s.absorb bs).C, .int .i64 0]) ∧ Below w.heap.size w w' := by
  have hO := Own.start w
  have hlen : bs.length = n := by have := hR.len; rw [u8s_length] at this; omega
  have HL := Lib.hid hlen
  have HR := Lib.hid hR
  have HT := Lib.hid hT
  have HA : Hid (s.absorb bs = s.absK bs (n / 8 + 1)) := by show _ = _; unfold St.absorb; rw [hlen]
  rw [HA.out]
  clear hR hlen hT HA
  generalize hW : w = wn at hO HR HT ⊢
  clear hW w
  go_enter Tryd.func49, Tryd.ntmps49
  go_wp2_with (first
    | ((with_reducible refine gBox ?_); refine own_box hO 24 _ _ rfl ?_; clear hO; intro b w1 hO; replace hO : Own wn w1 [.blk b (.cells s.C 24 (0,0))] := hO)
    | ((with_reducible refine gAlloc ?_); refine own_alloc hO 24 _ iwz ?_; clear hO; intro r w2 hO))
  go_loopg [6] (n / 8 + 1) (fun m c wr => ∃ k : Nat, m = n / 8 + 1 - k ∧ k ≤ n / 8 + 1 ∧ c = .int .i64 ((8 * k : Nat) : Int) ∧ Own wn wr [.blk r (.cells St.zero.C 24 (0,0)), .blk b (.cells (s.absK bs k).C 24 (0,0))])
  case atStart => exact ⟨0, rfl, by omega, rfl, hO⟩
  case round =>
    obtain ⟨k, rfl, hk, rfl, hO1⟩ := hrel
    clear hO
    have hO := hO1
    clear hO1
    by_cases hlt : 8 * k ≤ n
    · have hb0 : decide (((8 * k : Nat) : Int) ≤ (n : Int)) = true := by simp; omega
      have HS : Hid (s.absK bs (k + 1) = (St.mixK (s.absK bs k) bs (8 * k) 8).perm) := rfl
      generalize hu : s.absK bs k = u at *
      clear hu
      obtain ⟨p, hp⟩ : ∃ p, 8 * k = p := ⟨_, rfl⟩
      have hp2 : p + 8 = 8 * (k + 1) := by omega
      have hk2 : k < n / 8 + 1 := by omega
      have HP := Lib.hid hp
      have HP2 := Lib.hid hp2
      rw [hp] at HS hb0 hlt ⊢
      clear hp hp2
      go_wp2
      obtain ⟨wo, hwo⟩ : ∃ wo : World, wo = wr := ⟨_, rfl⟩
      clear hwo
      go_loopg [7, 8, 19, 21, 22, 23, 24, 25, 26, 27, 28, 29, 30, 31, 32, 33, 34, 35, 36, 37, 38, 39, 40, 41, 42, 43, 44, 45, 46, 47, 48, 49, 50, 51, 52, 53, 54] 8 (fun m s7 s8 c s21 s22 s23 s24 s25 s26 s27 s28 s29 s30 s31 s32 s33 s34 s35 s36 s37 s38 s39 s40 s41 s42 s43 s44 s45 s46 s47 s48 s49 s50 s51 s52 s53 s54 wq => ∃ j : Nat, m = 8 - j ∧ j ≤ 8 ∧ c = .int .i64 (j : Int) ∧ Own wn wq [.blk r (.cells St.zero.C 24 (0,0)), .blk b (.cells (St.mixK u bs p j).C 24 (0,0))])
      case atStart => exact ⟨0, rfl, by omega, rfl, hO⟩
      case round =>
        obtain ⟨j, rfl, hj, rfl, hO1⟩ := hrel
        clear hO
        have hO := hO1
        clear hO1
        by_cases hjl : j < 8
        · have hb1 : decide ((j : Int) < 8) = true := by simp; omega
          have HM : Hid (St.mixK u bs p (j + 1) = (St.mixK u bs p j).xput j (byteAt bs (p + j))) := rfl
          generalize St.mixK u bs p j = v at *
          obtain ⟨c, hc⟩ : ∃ c, byteAt bs (p + j) = c := ⟨_, rfl⟩
          rw [hc] at HM
          have HC1 : Hid (p + j < n → (u8s bs)[p + j]? = some (.int .u8 (c.toNat : Int))) := fun hi => by
            have h2 : p + j < bs.length := by rw [HL.out]; exact hi
            rw [← hc, byteAt_lt h2]
            exact u8s_get bs (p + j) h2
          have HC2 : Hid (p + j = n → Value.int .u8 128 = .int .u8 (c.toNat : Int)) := fun hi => by
            rw [← hc, hi, ← HL.out, byteAt_eq]; rfl
          have HC3 : Hid (n < p + j → Value.int .u8 0 = .int .u8 (c.toNat : Int)) := fun hi => by
            rw [← hc, byteAt_gt (by rw [HL.out]; exact hi)]; rfl
          clear hc
          obtain ⟨q, hq⟩ : ∃ q, q = j := ⟨j, rfl⟩
          have HQ := Lib.hid hq
          clear hq
          go_upto_block 4 with fail
          go_cut [8, 19] from 19 to 54 (fun s8 s19 wx => s8 = .int .u8 (c.toNat : Int) ∧ s19 = .int .i64 (j : Int) ∧ Own wn wx [.blk r (.cells St.zero.C 24 (0,0)), .blk b (.cells v.C 24 (0,0))])
          case first =>
            by_cases c1 : p + j < n
            · have d1 : decide ((p : Int) + (j : Int) < (n : Int)) = true := by simp; omega
              obtain ⟨b0, off, rfl⟩ := HR.out.place (by omega)
              have HV := Lib.hid (HC1.out c1)
              go_wp2_with (first | ((with_reducible refine gLoad ?_); refine ld_rd (hO.rd HR.out) rfl (HV.out) (tA rfl) ?_))
              go_meet
              case rel => exact ⟨rfl, rfl, hO⟩
            · have d1 : decide ((p : Int) + (j : Int) < (n : Int)) = false := by simp; omega
              by_cases c2 : p + j = n
              · have d2 : (((p : Int) + (j : Int)) == (n : Int)) = true := by simp; omega
                have HV := Lib.hid (HC2.out c2)
                clear c2
                go_wp2
                go_meet
                case rel => exact ⟨HV.out, rfl, hO⟩
              · have d2 : (((p : Int) + (j : Int)) == (n : Int)) = false := by simp; omega
                have HV := Lib.hid (HC3.out (by omega))
                clear c2
                go_wp2
                go_meet
                case rel => exact ⟨HV.out, rfl, hO⟩
          case rest =>
            obtain ⟨rfl, rfl, hO1⟩ := hcut
            clear hO HC1 HC2 HC3
            have hO := hO1
            clear hO1
            obtain rfl | rfl | rfl | rfl | rfl | rfl | rfl | rfl : j = 0 ∨ j = 1 ∨ j = 2 ∨ j = 3 ∨ j = 4 ∨ j = 5 ∨ j = 6 ∨ j = 7 := by omega
            all_goals
              go_wp2
              refine wp_region_text (by kernel_rfl) (by kernel_rfl) ?_
              replace hO := hO.drew
              generalize World.drew _ = wd at hO ⊢
              go_wp2_with (first | ((with_reducible refine gLoad ?_); first | refine ld_blk hO 0 rfl rfl rfl (tA rfl) ?_ | refine ld_all hO 0 rfl rfl (tA rfl) (tS rfl) ?_ | refine ld_blk hO 1 rfl rfl rfl (tA rfl) ?_ | refine ld_all hO 1 rfl rfl (tA rfl) (tS rfl) ?_) | ((with_reducible refine gStore ?_); first | (refine st_blk hO 0 rfl rfl rfl (ltb rfl) rfl (tS rfl) ?_; clear hO; intro ww hO) | (refine st_all hO 0 rfl rfl rfl rfl rfl rfl (tS rfl) ?_; clear hO; intro ww hO) | (refine st_blk hO 1 rfl rfl rfl (ltb rfl) rfl (tS rfl) ?_; clear hO; intro ww hO) | (refine st_all hO 1 rfl rfl rfl rfl rfl rfl (tS rfl) ?_; clear hO; intro ww hO)) | ((with_reducible refine Go.Bva.gBin ?_); first | refine Go.Bva.shl_u32 (Go.Bva.w8 rfl) rfl (by decide) ?_ | refine Go.Bva.xor_u32 rfl rfl ?_) | ((with_reducible refine gI ?_); refine wpI_step rfl rfl (by kernel_rfl) ?_; intro K hK; have HK := Lib.hid hK; clear hK) | ((with_reducible refine gI ?_); first | refine wpI_skip rfl ?_ | refine wpI_want rfl ?_) | ((with_reducible refine gOnlyK0 HK.out ?_); clear HK K; first | (refine wpI_act (by simp only [Act.put, List.setIfInBounds_toArray, List.set_cons_succ, List.set_cons_zero]; rfl) ?_) | skip) | (with_reducible refine wpI_nil ?_))
              go_roundg (8 - (q + 1))
              case measure => rw [HQ.out]; omega
              case rel => exact ⟨q + 1, rfl, by rw [HQ.out]; omega, by rw [HQ.out]; go_num, by rw [HQ.out, HM.out]; exact hO⟩
        · obtain rfl : j = 8 := by omega
          go_wp2_with (first
            | ((with_reducible refine gLoad ?_); first | refine ld_blk hO 0 rfl rfl rfl (tA rfl) ?_ | refine ld_all hO 0 rfl rfl (tA rfl) (tS rfl) ?_ | refine ld_blk hO 1 rfl rfl rfl (tA rfl) ?_ | refine ld_all hO 1 rfl rfl (tA rfl) (tS rfl) ?_)
            | ((with_reducible refine gStore ?_); first | (refine st_blk hO 0 rfl rfl rfl (ltb rfl) rfl (tS rfl) ?_; clear hO; intro ww hO) | (refine st_all hO 0 rfl rfl rfl rfl rfl rfl (tS rfl) ?_; clear hO; intro ww hO) | (refine st_blk hO 1 rfl rfl rfl (ltb rfl) rfl (tS rfl) ?_; clear hO; intro ww hO) | (refine st_all hO 1 rfl rfl rfl rfl rfl rfl (tS rfl) ?_; clear hO; intro ww hO))
            | (go_at_call 63; refine (perm_calls _ _ (HT.out.own hO)).mono ?_; rintro e ww ⟨rfl, hb⟩; replace hO := hO.call hb; clear hb))
          go_roundg (n / 8 + 1 - (k + 1))
          case measure => omega
          case rel => exact ⟨k + 1, rfl, by omega, by rw [← HP2.out]; go_num, by rw [HS.out]; exact hO⟩
    · have hb0 : decide (((8 * k : Nat) : Int) ≤ (n : Int)) = false := by simp; omega
      obtain rfl : k = n / 8 + 1 := by omega
      go_wp2_with (first
        | ((with_reducible refine gLoad ?_); first | refine ld_blk hO 0 rfl rfl rfl (tA rfl) ?_ | refine ld_all hO 0 rfl rfl (tA rfl) (tS rfl) ?_ | refine ld_blk hO 1 rfl rfl rfl (tA rfl) ?_ | refine ld_all hO 1 rfl rfl (tA rfl) (tS rfl) ?_)
        | ((with_reducible refine gStore ?_); first | (refine st_blk hO 0 rfl rfl rfl (ltb rfl) rfl (tS rfl) ?_; clear hO; intro ww hO) | (refine st_all hO 0 rfl rfl rfl rfl rfl rfl (tS rfl) ?_; clear hO; intro ww hO) | (refine st_blk hO 1 rfl rfl rfl (ltb rfl) rfl (tS rfl) ?_; clear hO; intro ww hO) | (refine st_all hO 1 rfl rfl rfl rfl rfl rfl (tS rfl) ?_; clear hO; intro ww hO)))
      refine bodyPost_ret (res_ct rfl _ _ r 24 (s.absK bs (n / 8 + 1)).C (0,0) _ rfl (hO.blk 0 rfl) Tryd.underlying24 rfl (iws' _)) rfl ⟨rfl, hO.below⟩
end Go.Proofs.YtniibdglodnhoaaDoor

/- The walk of perm.Squeeze. -/
namespace Go.Proofs.YtniibdglodnhoaaDoor
open Go.RowKit Go.Own Go.Bv Go.Ord Go.Eq

/-- what Squeeze hands back: octets in a block of its own -/
def SqRet (w : World) (s : St) (n : Nat) (e : Ending) (w' : World) : Prop :=
  ∃ g C, e = .returned (.tuple #[.slice (some ⟨g, 0, none⟩) n n, .int .i64 0]) ∧ Below w.heap.size w w' ∧ Res.holds w.heap.size w' (.blk g (.cells C 5 (0,0))) ∧ C.toList.take n = u8s (s.squeeze n)

theorem sq_next (s : St) (k : Nat) : s.sqK (k + 1) = s.sqK k ++ (octs4 (St.permN k s).a ++ octs4 (St.permN k s).b) := rfl
theorem octs_first (s : St) : (u8s s.octs).take (8 * 1) = u8s (octs4 s.a ++ octs4 s.b) := rfl
theorem sq_take (s : St) (n k : Nat) (C : List Value) (h : C.take (8 * k) = u8s (s.sqK k)) (hn : n ≤ 8 * k) : C.take n = u8s (s.squeeze n) := by
  rw [St.squeeze_of s hn, u8s_take, ← h, List.take_take, Nat.min_eq_left hn]

set_option maxHeartbeats 2000000 in
set_option maxRecDepth 100000 in
theorem squeeze_calls (s : St) (n : Nat) (hn : n ≤ 131072) (w : World) (hT : Turns w) :
    Calls Tryd.prog 62 #[.agg s.C, .int .i64 (n : Int)] w (SqRet w s n) := by
  have hO := Own.start w
  have HT := Lib.hid hT
  clear hT
  generalize hW : w = wn at hO HT ⊢
  clear hW w
  have hb0 : decide ((n : Int) < 0) = false := by simp
  have hb1 : decide ((131072 : Int) < (n : Int)) = false := by simp; omega
  go_enter Tryd.func62, Tryd.ntmps62
  go_wp2_with (first
    | ((with_reducible refine gBox ?_); refine own_box hO 24 _ _ rfl ?_; clear hO; intro b w1 hO; replace hO : Own wn w1 [.blk b (.cells s.C 24 (0,0))] := hO)
    | ((with_reducible refine gMake ?_); refine own_make0 hO _ _ 28 eu8_8 (n + 8) rfl rfl (by simp) (by omega) (by simp [maxLen]; omega) ?_; clear hO; intro g w2 hO))
  go_loopg [6] (n + 1) (fun m v wr => ∃ k g cp, m = (n + 1) - 8 * k ∧ 8 * k < n + 8 ∧ v = .slice (some ⟨g, 0, none⟩) (8 * k) cp ∧ Own wn wr [.sl 5 1 (.slice (some ⟨g, 0, none⟩) (8 * k) cp) (8 * k) (u8s (s.sqK k)), .blk b (.cells (St.permN k s).C 24 (0,0))])
  case atStart => exact ⟨0, g, n + 8, rfl, by omega, rfl, hO⟩
  case round =>
    obtain ⟨k, g, cp, rfl, hk, rfl, hO1⟩ := hrel
    clear hO
    have hO := hO1
    clear hO1
    by_cases hlt : 8 * k < n
    · have hb2 : decide (((8 * k : Nat) : Int) < (n : Int)) = true := by simp; omega
      have HS := Lib.hid (sq_next s k)
      have HP : Hid (St.permN (k + 1) s = (St.permN k s).perm) := rfl
      generalize St.permN k s = u at *
      have d16 : ¬ (16 : Nat) = 8 := by decide
      go_wp2_with (first
        | ((with_reducible refine gLoad ?_); first | refine ld_blk hO 0 rfl rfl rfl (tA rfl) ?_ | refine ld_all hO 0 rfl rfl (tA rfl) (tS rfl) ?_ | refine ld_blk hO 1 rfl rfl rfl (tA rfl) ?_ | refine ld_all hO 1 rfl rfl (tA rfl) (tS rfl) ?_ | refine ld_blk hO 2 rfl rfl rfl (tA rfl) ?_ | refine ld_all hO 2 rfl rfl (tA rfl) (tS rfl) ?_ | refine ld_blk hO 3 rfl rfl rfl (tA rfl) ?_ | refine ld_all hO 3 rfl rfl (tA rfl) (tS rfl) ?_)
        | ((with_reducible refine gStore ?_); first | (refine st_blk hO 0 rfl rfl rfl (ltb rfl) rfl (tS rfl) ?_; clear hO; intro ww hO) | (refine st_all hO 0 rfl rfl rfl rfl rfl rfl (tS rfl) ?_; clear hO; intro ww hO) | (refine st_blk hO 1 rfl rfl rfl (ltb rfl) rfl (tS rfl) ?_; clear hO; intro ww hO) | (refine st_all hO 1 rfl rfl rfl rfl rfl rfl (tS rfl) ?_; clear hO; intro ww hO) | (refine st_blk hO 2 rfl rfl rfl (ltb rfl) rfl (tS rfl) ?_; clear hO; intro ww hO) | (refine st_all hO 2 rfl rfl rfl rfl rfl rfl (tS rfl) ?_; clear hO; intro ww hO) | (refine st_blk hO 3 rfl rfl rfl (ltb rfl) rfl (tS rfl) ?_; clear hO; intro ww hO) | (refine st_all hO 3 rfl rfl rfl rfl rfl rfl (tS rfl) ?_; clear hO; intro ww hO))
        | (go_at_call 30; refine (octets_calls _ _).mono ?_; rintro e ww ⟨g2, rfl, hb, hr⟩; replace hO := hO.addRow hb hr; clear hb hr)
        | (go_at_call 63; refine (perm_calls _ _ (HT.out.own hO)).mono ?_; rintro e ww ⟨rfl, hb⟩; replace hO := hO.call hb; clear hb)
        | ((with_reducible refine gAppend ?_); refine own_append hO 1 _ _ 28 eu8_8 rfl rfl rfl ((hO.rdAt 0 rfl).take 8 (by omega)) (by rw [octs_first]; exact u8s_one _) (8 * k + 8) rfl (by simp [maxLen]; omega) (by omega) ?_; clear hO; intro a2 c2 w4 hO; obtain ⟨g3, rfl⟩ := hO.slPlace 1 rfl (by omega)))
      go_roundg ((n + 1) - 8 * (k + 1))
      case measure => omega
      case rel =>
        refine ⟨k + 1, g3, c2, rfl, by omega, rfl, ?_⟩
        rw [HS.out, HP.out, u8s_append]
        exact hO.sub (List.Sublist.cons _ (List.Sublist.refl _))
    · have hb2 : decide (((8 * k : Nat) : Int) < (n : Int)) = false := by simp; omega
      obtain ⟨C, hg1, hg2, hC, hcp, hcm⟩ := blk_of_row (hO.row 0 rfl)
      have HF := Lib.hid (sq_take s n k _ hC (by omega))
      have hle : n ≤ cp := by omega
      clear hC
      go_wp2
      go_ret2
      exact ⟨g, C, rfl, hO.below, ⟨hg1, hg2⟩, HF.out⟩
end Go.Proofs.YtniibdglodnhoaaDoor

/- The walk of the document's Squeeze; of Absorb and Squeeze, of both, for whatever comes in. -/
namespace Go.Proofs.YtniibdglodnhoaaDoor
open Go.RowKit Go.Own Go.Bv Go.Ord Go.Eq

set_option maxHeartbeats 1000000 in
theorem squeeze_no (s : St) (n : Int) (w : World) (h : n < 0 ∨ 131072 < n) :
    Calls Tryd.prog 62 #[.agg s.C, .int .i64 n] w fun e w' => e = .returned (.tuple #[.slice none 0 0, .int .i64 (if n < 0 then 1 else 3)]) ∧ Below w.heap.size w w' := by
  have hO := Own.start w
  generalize hW : w = wn at hO ⊢
  clear hW w
  by_cases h0 : n < 0
  · have hb0 : decide (n < 0) = true := by simp; omega
    rw [if_pos h0]
    clear h
    go_enter Tryd.func62, Tryd.ntmps62
    go_wp2_with (first | ((with_reducible refine gBox ?_); first | (refine bxA hO rfl ?_; clear hO; intro b ww hO) | (refine bx1 hO rfl rfl ?_; clear hO; intro b ww hO)))
    go_ret2
    exact ⟨rfl, hO.below⟩
  · have hb0 : decide (n < 0) = false := by simp; omega
    have hb1 : decide (131072 < n) = true := by simp; omega
    rw [if_neg h0]
    clear h
    go_enter Tryd.func62, Tryd.ntmps62
    go_wp2_with (first | ((with_reducible refine gBox ?_); first | (refine bxA hO rfl ?_; clear hO; intro b ww hO) | (refine bx1 hO rfl rfl ?_; clear hO; intro b ww hO)))
    go_ret2
    exact ⟨rfl, hO.below⟩
def sqT (s : St) (n : Int) : List (BitVec 8) := if n < 0 ∨ 131072 < n then [] else s.squeeze n.toNat
def sqE (n : Int) : Int := if n < 0 then 1 else if 131072 < n then 3 else 0
/-- what is squeezed out, or why not -/
def SqOut (w : World) (X : List (BitVec 8)) (E : Int) (e : Ending) (w' : World) : Prop :=
  ∃ a m c, e = .returned (.tuple #[.slice a m c, .int .i64 E]) ∧ Below w.heap.size w w' ∧ Rd w' 1 a m c (u8s X)
theorem squeeze_calls' (s : St) (n : Int) (w : World) (hT : Turns w) : Calls Tryd.prog 62 #[.agg s.C, .int .i64 n] w (SqOut w (sqT s n) (sqE n)) := by
  by_cases h : n < 0 ∨ 131072 < n
  · refine (squeeze_no s n w h).mono fun e w' ⟨h1, h2⟩ => ?_
    have e1 : sqT s n = [] := if_pos h
    have e2 : sqE n = if n < 0 then 1 else 3 := by
      unfold sqE
      by_cases h0 : n < 0
      · rw [if_pos h0, if_pos h0]
      · rw [if_neg h0, if_neg h0, if_pos (by omega)]
    rw [e1, e2]
    exact ⟨none, 0, 0, h1, h2, rd_zero _ _ (by simp [maxLen]) (fun _ => rfl)⟩
  · obtain ⟨m, rfl⟩ : ∃ m : Nat, n = (m : Int) := ⟨n.toNat, by omega⟩
    refine (squeeze_calls s m (by omega) w hT).mono fun e w' ⟨g, C, h1, h2, h3, h4⟩ => ?_
    have e1 : sqT s m = s.squeeze m := if_neg h
    have e2 : sqE m = 0 := by unfold sqE; rw [if_neg (by omega), if_neg (by omega)]
    rw [e1, e2]
    refine ⟨_, m, m, h1, h2, rd_blk_off h3.2 0 (by rw [List.drop_zero]; exact h4) (by rw [u8s_length, St.squeeze_length]) (Nat.le_refl _) (by unfold maxLen; omega)⟩
set_option maxHeartbeats 1000000 in
theorem absorb_no (s : St) (a : Option Addr) (n cap : Nat) (w : World) (hn : 131072 < n) :
    Calls Tryd.prog 49 #[.agg s.C, .slice a n cap] w fun e w' => e = .returned (.tuple #[.agg St.zero.C, .int .i64 3]) ∧ Below w.heap.size w w' := by
  have hO := Own.start w
  have d1 : decide ((131072 : Int) < (n : Int)) = true := by simp; omega
  generalize hW : w = wn at hO ⊢
  clear hW w
  go_enter Tryd.func49, Tryd.ntmps49
  go_wp2_with (first | ((with_reducible refine gBox ?_); first | (refine bxA hO rfl ?_; clear hO; intro b ww hO) | (refine bx1 hO rfl rfl ?_; clear hO; intro b ww hO)) | ((with_reducible refine gAlloc ?_); refine own_alloc hO _ _ iwz ?_; clear hO; intro rr ww hO) | ((with_reducible refine gStore ?_); first | (refine stX hO 0 rfl rfl rfl rfl rfl (tS rfl) ?_; clear hO; intro ww hO) | (refine stC hO 0 rfl rfl rfl (ltb rfl) rfl (tS rfl) ?_; clear hO; intro ww hO)))
  refine bodyPost_ret (res_ct rfl _ _ rr 24 St.zero.C (0,0) _ rfl (hO.blk 0 rfl) Tryd.underlying24 rfl (iws' _)) rfl ⟨rfl, hO.below⟩
theorem absorb_calls (s : St) (a : Option Addr) (n cap : Nat) (bs : List (BitVec 8)) (w : World) (hR : Rd w 1 a n cap (u8s bs)) (hT : Turns w) :
    Calls Tryd.prog 49 #[.agg s.C, .slice a n cap] w fun e w' => e = .returned (.tuple #[.agg (absT s bs).C, .int .i64 (absE bs)]) ∧ Below w.heap.size w w' := by
  have hl : bs.length = n := by have := hR.len; rw [u8s_length] at this; omega
  unfold absT absE
  by_cases h : n ≤ 131072
  · rw [if_pos (by omega), if_pos (by omega)]
    exact absorb1_calls s a n cap bs w hR hT h
  · rw [if_neg (by omega), if_neg (by omega)]
    exact absorb_no s a n cap w (by omega)
end Go.Proofs.YtniibdglodnhoaaDoor

/- A region that draws its order and makes one variable anywhere in it ('alloc', next to calls): one walk in the order of the text, but that at each marked operation the variable is made now, or later. -/
namespace Go.Ord
open Go.RowKit

section
variable {P : Program} {ops : Array Oper} {Q : Exit → Act → World → Prop} {S : World → Prop} {st : Op → Bool}

/-! ### any order of the rest that the checks let -/
def waitsB (ops : Array Oper) (j i : Nat) (acc : List Nat) : Bool := ((ops[j]?).map fun o => o.after.toList.any fun e => Region.binds .any e && (e.on == i || acc.contains e.on)).getD false
def depsIn (ops : Array Oper) (i : Nat) (U : List Nat) : List Nat := U.foldl (fun acc j => if waitsB ops j i acc then acc ++ [j] else acc) []
/-- those of U behind i: each waits for i or for one of them; the others are apart -/
def freeB (P : Program) (st : Op → Bool) (ops : Array Oper) (i : Nat) (U : List Nat) (x : Option Nat) : Bool :=
  let D := depsIn ops i U
  (D.all fun j => U.contains j && waitsB ops j i D) &&
  (U.all fun j => D.contains j || x == some j || (match ops[i]?, ops[j]? with | some oi, some oj => oi.apart ops oj && compat (kindS P st oi.op) (kindS P st oj.op) | _, _ => false)) &&
  (!lastB ops || i + 1 == ops.size || D.contains (ops.size - 1))
/-- i may come, where U and i are what is left -/
def mayB (ops : Array Oper) (i : Nat) (U : List Nat) : Bool :=
  match ops[i]? with
  | some oi => oi.after.toList.all fun e => !Region.binds .any e || (decide (e.on < ops.size) && !(e.on == i) && !(U.contains e.on))
  | none => false

structure Left (ops : Array Oper) (listed : Array Bool) (U : List Nat) : Prop where
  size : listed.size = ops.size
  at' : ∀ j, j < ops.size → listed[j]? = some (decide (j ∉ U))
  nodup : U.Nodup
  lt : ∀ j ∈ U, j < ops.size
theorem Left.get {listed : Array Bool} {U : List Nat} (h : Left ops listed U) {j : Nat} (d : Bool) (hj : j < ops.size) : listed.getD j d = decide (j ∉ U) := by
  simp [Array.getD_eq_getD_getElem?, h.at' j hj]
theorem Left.perm {listed : Array Bool} {U V : List Nat} (h : Left ops listed U) (hp : U.Perm V) : Left ops listed V :=
  ⟨h.size, fun j hj => by rw [h.at' j hj]; congr 1; exact decide_eq_decide.2 (not_congr hp.mem_iff), hp.nodup_iff.1 h.nodup, fun j hj => h.lt j (hp.mem_iff.2 hj)⟩
theorem Left.done {listed : Array Bool} {i : Nat} {U : List Nat} (h : Left ops listed (i :: U)) : Left ops (listed.setIfInBounds i true) U := by
  have hi : i < ops.size := h.lt i List.mem_cons_self
  refine ⟨by simpa using h.size, fun j hj => ?_, (List.nodup_cons.1 h.nodup).2, fun j hj => h.lt j (List.mem_cons_of_mem _ hj)⟩
  rw [Array.getElem?_setIfInBounds]
  by_cases hij : i = j
  · subst hij
    rw [if_pos rfl, if_pos (by rw [h.size]; exact hi)]
    have := (List.nodup_cons.1 h.nodup).1
    simp [this]
  · rw [if_neg hij, h.at' j hj]
    congr 1
    apply decide_eq_decide.2
    simp [List.mem_cons, Ne.symm hij]
theorem Left.ready {listed : Array Bool} {i : Nat} {U : List Nat} (h : Left ops listed (i :: U)) (hm : mayB ops i U = true) : i ∈ Region.ready .any ops listed := by
  have hi : i < ops.size := h.lt i List.mem_cons_self
  unfold mayB at hm
  have ho : ops[i]? = some ops[i] := Array.getElem?_eq_getElem hi
  rw [ho] at hm
  rw [mem_ready]
  refine ⟨by rw [h.get true hi]; simp, ops[i], ho, fun e hem hb => ?_⟩
  have := List.all_eq_true.1 hm e (by simpa using hem)
  simp only [hb, Bool.not_true, Bool.false_or, Bool.and_eq_true, decide_eq_true_eq, Bool.not_eq_true', beq_eq_false_iff_ne, ne_eq, List.contains_eq_mem] at this
  obtain ⟨⟨h1, h2⟩, h3⟩ := this
  rw [h.get false h1]
  have h4 : e.on ∉ U := by simpa using h3
  simp [List.mem_cons, h2, h4]
theorem Left.mem {listed : Array Bool} {U : List Nat} (h : Left ops listed U) {j : Nat} (hj : j ∈ Region.ready .any ops listed) : j ∈ U := by
  obtain ⟨h0, o, ho, _⟩ := mem_ready.1 hj
  have hlt : j < ops.size := (Array.getElem?_eq_some_iff.1 ho).1
  rw [h.get true hlt] at h0
  simpa using h0
theorem freeB_D {i : Nat} {U : List Nat} {x : Option Nat} (hf : freeB P st ops i U x = true) :
    (∀ j ∈ depsIn ops i U, ∀ oj, ops[j]? = some oj → ∃ e ∈ oj.after, Region.binds .any e = true ∧ (e.on = i ∨ e.on ∈ depsIn ops i U)) ∧ (∀ j ∈ depsIn ops i U, j ∈ U) ∧ (lastB ops = true → ∀ j, j + 1 = ops.size → j ≠ i → j ∈ depsIn ops i U) ∧
    ∀ j ∈ U, j ∉ depsIn ops i U → x ≠ some j → ∀ oi oj, ops[i]? = some oi → ops[j]? = some oj → oi.apart ops oj = true ∧ compat (kindS P st oi.op) (kindS P st oj.op) = true := by
  unfold freeB at hf
  simp only [Bool.and_eq_true] at hf
  obtain ⟨⟨h1, h2⟩, h3⟩ := hf
  refine ⟨fun j hj oj hoj => ?_, fun j hj => ?_, fun hl j hjs hji => ?_, fun j hj hjD hx oi oj hoi hoj => ?_⟩
  · have := List.all_eq_true.1 h1 j hj
    simp only [Bool.and_eq_true, waitsB, hoj, Option.map_some, Option.getD_some, List.any_eq_true, Bool.or_eq_true, beq_iff_eq, List.contains_iff_mem] at this
    obtain ⟨_, e, he1, he2, he3⟩ := this
    exact ⟨e, by simpa using he1, he2, he3⟩
  · have := List.all_eq_true.1 h1 j hj
    simp only [Bool.and_eq_true, List.contains_iff_mem] at this
    exact this.1
  · simp only [hl, Bool.not_true, Bool.false_or, Bool.or_eq_true, beq_iff_eq, List.contains_iff_mem] at h3
    rcases h3 with h | h
    · omega
    · rwa [show j = ops.size - 1 by omega]
  · have := List.all_eq_true.1 h2 j hj
    simp only [Bool.or_eq_true, List.contains_iff_mem, beq_iff_eq, hoi, hoj, Bool.and_eq_true] at this
    rcases this with (h | h) | h
    · exact absurd h hjD
    · exact absurd h hx
    · exact h

def okL (P : Program) (st : Op → Bool) (ops : Array Oper) : List Nat → Bool
  | [] => true
  | i :: r => mayB ops i r && freeB P st ops i r none && (!(r.isEmpty) || !lastB ops || i + 1 == ops.size) && okL P st ops r

theorem any_plan (hsel : ∀ (j : Nat) (o : Oper) cs b, ops[j]? = some o → o.op ≠ .select cs b) : ∀ (L : List Nat) (l : List Oper) (listed : Array Bool) (a : Act) (w : World), okL P st ops L = true → S w → L.map (fun i => ops[i]?) = l.map some → Left ops listed L →
    wpI P ops S st Q l a w → wpAnyI P ops S st Q L.length listed a w
  | [], l, listed, a, w, _, _, hl, hL, h => by
    have : l = [] := by cases l with | nil => rfl | cons _ _ => simp at hl
    subst this
    refine ⟨?_, h⟩
    rw [List.eq_nil_iff_forall_not_mem]
    intro j hj
    have := hL.mem hj
    cases this
  | i :: r, l, listed, a, w, hok, hS, hl, hL, h => by
    obtain ⟨o, l', rfl⟩ : ∃ o l', l = o :: l' := by cases l with | nil => simp at hl | cons o l' => exact ⟨o, l', rfl⟩
    simp only [List.map_cons, List.cons.injEq] at hl
    obtain ⟨h0, hl⟩ := hl
    unfold okL at hok
    simp only [Bool.and_eq_true] at hok
    obtain ⟨⟨⟨hm, hf⟩, hlast⟩, hr⟩ := hok
    have hready := hL.ready hm
    rcases h with h | ⟨hnil, hlb, _, h⟩
    case inr =>
      have hrn : r = [] := by cases r with | nil => rfl | cons _ _ => rw [hnil] at hl; simp at hl
      subst hrn
      simp only [List.isEmpty_nil, Bool.not_true, Bool.false_or, hlb, beq_iff_eq] at hlast
      refine ⟨fun hr => (by rw [hr] at hready; cases hready), fun j hj => ?_⟩
      have := hL.mem hj
      simp only [List.mem_singleton] at this
      subst this
      refine ⟨o, h0, .inr ⟨hlast, hlb, ?_, h⟩⟩
      rw [List.eq_nil_iff_forall_not_mem]
      intro k hk
      have := hL.done.mem hk
      cases this
    obtain ⟨d1, d2, d3, d4⟩ := freeB_D hf
    refine any_first h0 hsel (depsIn ops i r) d1 d3 r.length listed a w hS ?_ ?_ hready ?_
    · intro j oj hoj hji hun hjD
      have hjlt : j < ops.size := (Array.getElem?_eq_some_iff.1 hoj).1
      rw [hL.get true hjlt] at hun
      have hjU : j ∈ i :: r := Decidable.not_not.1 (of_decide_eq_false hun)
      rcases List.mem_cons.1 hjU with e | hjr
      · exact absurd e hji
      · exact d4 j hjr hjD (by simp) o oj h0 hoj
    · intro j hj
      have hjr := d2 j hj
      rw [hL.get false (hL.lt j (List.mem_cons_of_mem _ hjr))]
      simp [hjr]
    · exact opI_mono hS (fun a' w' hS' hk' => any_plan hsel r l' _ a' w' hr hS' hl hL.done hk') h

/-- two that may come first, everything else apart from both -/
theorem any_first2 {i z : Nat} {oi oz : Oper} (hi : ops[i]? = some oi) (hz : ops[z]? = some oz) (hsel : ∀ (j : Nat) (o : Oper) cs b, ops[j]? = some o → o.op ≠ .select cs b) (D : List Nat)
    (hD : ∀ j ∈ D, ∀ oj, ops[j]? = some oj → ∃ e ∈ oj.after, Region.binds .any e = true ∧ (e.on = i ∨ e.on = z ∨ e.on ∈ D))
    (hlast : lastB ops = true → ∀ j, j + 1 = ops.size → j ≠ i → j ≠ z → j ∈ D) :
    ∀ (fuel : Nat) (listed : Array Bool) (a : Act) (w : World), S w →
      (∀ j oj, ops[j]? = some oj → j ≠ i → j ≠ z → listed.getD j true = false → j ∉ D → (oi.apart ops oj = true ∧ compat (kindS P st oi.op) (kindS P st oj.op) = true) ∧ (oz.apart ops oj = true ∧ compat (kindS P st oz.op) (kindS P st oj.op) = true) ∧ quietK (kindS P st oj.op) = true) →
      (∀ j ∈ D, listed.getD j false = false) →
      i ∈ Region.ready .any ops listed → z ∈ Region.ready .any ops listed →
      opI P ops S st Q oi (wpAnyI P ops S st Q fuel (listed.setIfInBounds i true)) a w → opI P ops S st Q oz (wpAnyI P ops S st Q fuel (listed.setIfInBounds z true)) a w → wpAnyI P ops S st Q (fuel + 1) listed a w := by
  intro fuel
  induction fuel with
  | zero =>
    intro listed a w hS _ _ hr hrz H Hz
    refine ⟨fun h => (by rw [h] at hr; cases hr), fun j hj => ?_⟩
    by_cases hji : j = i
    · subst hji; exact ⟨oi, hi, .inl H⟩
    · have h0 := ready_mono hj hji
      obtain ⟨_, _, _, _, hK⟩ := opI_some hS H
      rw [hK.1] at h0
      cases h0
  | succ fuel ih =>
    intro listed a w hS hfree hDl hr hrz H Hz
    refine ⟨fun h => (by rw [h] at hr; cases hr), fun j hj => ?_⟩
    by_cases hji : j = i
    · subst hji; exact ⟨oi, hi, .inl H⟩
    by_cases hjz : j = z
    · subst hjz; exact ⟨oz, hz, .inl Hz⟩
    obtain ⟨hjun, oj, hoj, hall⟩ := mem_ready.1 hj
    have hun : ∀ {k}, k ∈ Region.ready .any ops listed → listed.getD k false = true → False := fun {k} hk h1 => by
      have h0 := (mem_ready.1 hk).1
      rcases Nat.lt_or_ge k listed.size with h' | h'
      · simp [h'] at h0 h1; rw [h0] at h1; cases h1
      · simp [Array.getElem?_eq_none h'] at h1
    have hjD : j ∉ D := fun hm => by
      obtain ⟨e, he, hb, h⟩ := hD j hm oj hoj
      have h1 := hall e he hb
      rcases h with h | h | h
      · rw [h] at h1; exact hun hr h1
      · rw [h] at h1; exact hun hrz h1
      · rw [hDl _ h] at h1; cases h1
    obtain ⟨⟨hap, hco⟩, ⟨hapz, hcoz⟩, hq⟩ := hfree j oj hoj hji hjz hjun hjD
    have step : ∀ {k : Nat} {ok : Oper}, ops[k]? = some ok → j ≠ k → ok.apart ops oj = true → compat (kindS P st ok.op) (kindS P st oj.op) = true → opI P ops S st Q ok (wpAnyI P ops S st Q (fuel + 1) (listed.setIfInBounds k true)) a w →
        opI P ops S st Q oj (opI P ops S st Q ok (wpAnyI P ops S st Q fuel ((listed.setIfInBounds j true).setIfInBounds k true))) a w := by
      intro k ok hk hjk hap hco Hk
      have hstep : opI P ops S st Q ok (opI P ops S st Q oj (wpAnyI P ops S st Q fuel ((listed.setIfInBounds k true).setIfInBounds j true))) a w := by
        refine opI_mono hS (fun a' w' _ hk' => ?_) Hk
        obtain ⟨oj', hoj', h⟩ := hk'.2 j (ready_mono hj hjk)
        rw [hoj] at hoj'
        obtain rfl := Option.some.inj hoj'
        rcases h with h | ⟨hjs, hlb, _, _⟩
        · exact h
        · exact (hjD (hlast hlb j hjs hji hjz)).elim
      have := swap hap (fun cs b => hsel k ok cs b hk) (fun cs b => hsel j oj cs b hoj) hco hS hstep
      rwa [Array.setIfInBounds_comm _ _ (Ne.symm hjk)] at this
    obtain ⟨v, hg, k1⟩ := gives_of (quietK_spec hq) (step hi hji hap hco H)
    obtain ⟨v', hg', k2⟩ := gives_of (quietK_spec hq) (step hz hjz hapz hcoz Hz)
    obtain rfl := hg.unique hS hg'
    refine ⟨oj, hoj, .inl (hg.opI hS ?_)⟩
    refine ih (listed.setIfInBounds j true) _ w hS ?_ ?_ (ready_mono hr (Ne.symm hji)) (ready_mono hrz (Ne.symm hjz)) k1 k2
    · intro k ok hk' hki hkz hun' hkD
      refine hfree k ok hk' hki hkz ?_ hkD
      by_cases hjk : j = k
      · subst hjk; exact hjun
      · rw [getD_set_ne true hjk] at hun'; exact hun'
    · intro k hk'
      have hjk : j ≠ k := fun h => hjD (h ▸ hk')
      rw [getD_set_ne false hjk]; exact hDl k hk'

/-! ### the walk with one that may come early -/
inductive Fl where
  | n | b | m | z
/-- 'n': ahead of it the variable is not made; 'b': it is made now, or later; 'm': it is made now -/
def wpF (P : Program) (ops : Array Oper) (S : World → Prop) (st : Op → Bool) (Q : Exit → Act → World → Prop) (oz : Oper) : List (Fl × Oper) → Act → World → Prop
  | [], a, w => wpI P ops S st Q [oz] a w
  | (.n, o) :: r, a, w => opI P ops S st Q o (wpF P ops S st Q oz r) a w
  | (.b, o) :: r, a, w => opI P ops S st Q oz (wpI P ops S st Q (o :: r.map Prod.snd)) a w ∧ opI P ops S st Q o (wpF P ops S st Q oz r) a w
  | (_, o) :: r, a, w => opI P ops S st Q oz (wpI P ops S st Q (o :: r.map Prod.snd)) a w

def okF (P : Program) (st : Op → Bool) (ops : Array Oper) (z : Nat) : List (Fl × Nat) → Bool
  | [] => okL P st ops [z]
  | (f, i) :: r =>
    let R := r.map Prod.snd
    match f with
    | .n => mayB ops i (z :: R) && freeB P st ops i (z :: R) none && okF P st ops z r
    | .b => mayB ops i (z :: R) && mayB ops z (i :: R) && okL P st ops (i :: R) && okF P st ops z r &&
        (let D := depsIn ops i R ++ depsIn ops z R
         (D.all fun j => R.contains j) && ((depsIn ops i R).all fun j => waitsB ops j i (depsIn ops i R)) && ((depsIn ops z R).all fun j => waitsB ops j z (depsIn ops z R)) &&
         (!lastB ops || i + 1 == ops.size || z + 1 == ops.size || D.contains (ops.size - 1)) &&
         R.all fun j => D.contains j || match ops[i]?, ops[z]?, ops[j]? with
           | some oi, some oz, some oj => oi.apart ops oj && compat (kindS P st oi.op) (kindS P st oj.op) && oz.apart ops oj && compat (kindS P st oz.op) (kindS P st oj.op) && quietK (kindS P st oj.op)
           | _, _, _ => false)
    | _ => okL P st ops (z :: i :: R)

theorem float_lex (hsel : ∀ (j : Nat) (o : Oper) cs b, ops[j]? = some o → o.op ≠ .select cs b) {z : Nat} {oz : Oper} (hz : ops[z]? = some oz) : ∀ (F : List (Fl × Nat)) (fl : List (Fl × Oper)) (listed : Array Bool) (a : Act) (w : World), okF P st ops z F = true → S w →
    F.map (fun x => (x.1, ops[x.2]?)) = fl.map (fun x => (x.1, some x.2)) → Left ops listed (z :: F.map Prod.snd) → wpF P ops S st Q oz fl a w → wpAnyI P ops S st Q (F.length + 1) listed a w
  | [], fl, listed, a, w, hok, hS, hl, hL, h => by
    have : fl = [] := by cases fl with | nil => rfl | cons _ _ => simp at hl
    subst this
    exact any_plan hsel [z] [oz] listed a w hok hS (by simp [hz]) hL h
  | (f, i) :: r, fl, listed, a, w, hok, hS, hl, hL, h => by
    obtain ⟨⟨f', o⟩, fl', rfl⟩ : ∃ o l', fl = o :: l' := by cases fl with | nil => simp at hl | cons o l' => exact ⟨o, l', rfl⟩
    simp only [List.map_cons, List.cons.injEq, Prod.mk.injEq] at hl
    obtain ⟨⟨rfl, h0⟩, hl⟩ := hl
    have hlm : (r.map Prod.snd).map (fun i => ops[i]?) = (fl'.map Prod.snd).map some := by
      have := congrArg (List.map Prod.snd) hl
      simpa [List.map_map, Function.comp_def] using this
    have hLp : Left ops listed (i :: z :: r.map Prod.snd) := hL.perm (List.Perm.swap _ _ _)
    have hlen : (z :: i :: r.map Prod.snd).length = ((f, i) :: r).length + 1 := by simp
    have must : okL P st ops (z :: i :: r.map Prod.snd) = true → opI P ops S st Q oz (wpI P ops S st Q (o :: fl'.map Prod.snd)) a w → wpAnyI P ops S st Q (((f, i) :: r).length + 1) listed a w := fun hok h => by
      rw [← hlen]
      exact any_plan hsel (z :: i :: r.map Prod.snd) (oz :: o :: fl'.map Prod.snd) listed a w hok hS (by simp only [List.map_cons, hz, h0, hlm]) hL (.inl h)
    cases f with
    | n =>
      simp only [okF, Bool.and_eq_true] at hok
      obtain ⟨⟨hm, hf⟩, hr⟩ := hok
      have h : opI P ops S st Q o (wpF P ops S st Q oz fl') a w := h
      obtain ⟨d1, d2, d3, d4⟩ := freeB_D hf
      refine any_first h0 hsel (depsIn ops i (z :: r.map Prod.snd)) d1 d3 (r.length + 1) listed a w hS ?_ ?_ (hLp.ready hm) ?_
      · intro j oj hoj hji hun hjD
        have hjlt : j < ops.size := (Array.getElem?_eq_some_iff.1 hoj).1
        rw [hLp.get true hjlt] at hun
        have hjU : j ∈ i :: z :: r.map Prod.snd := Decidable.not_not.1 (of_decide_eq_false hun)
        rcases List.mem_cons.1 hjU with e | hjr
        · exact absurd e hji
        · exact d4 j hjr hjD (by simp) o oj h0 hoj
      · intro j hj
        have hjr := d2 j hj
        rw [hLp.get false (hLp.lt j (List.mem_cons_of_mem _ hjr))]
        have : j ∈ i :: z :: r.map Prod.snd := List.mem_cons_of_mem _ hjr
        simp only [this, not_true_eq_false, decide_false]
      · exact opI_mono hS (fun a' w' hS' hk' => float_lex hsel hz r fl' _ a' w' hr hS' hl hLp.done hk') h
    | b =>
      simp only [okF, Bool.and_eq_true] at hok
      obtain ⟨⟨⟨⟨hm, hmz⟩, hkl⟩, hr⟩, ⟨⟨⟨⟨c1, c2⟩, c3⟩, c4⟩, c5⟩⟩ := hok
      obtain ⟨ha, hb⟩ : opI P ops S st Q oz (wpI P ops S st Q (o :: fl'.map Prod.snd)) a w ∧ opI P ops S st Q o (wpF P ops S st Q oz fl') a w := h
      have hDin : ∀ j ∈ depsIn ops i (r.map Prod.snd) ++ depsIn ops z (r.map Prod.snd), j ∈ r.map Prod.snd := fun j hj => by
        have := List.all_eq_true.1 c1 j hj
        simpa using this
      refine any_first2 h0 hz hsel (depsIn ops i (r.map Prod.snd) ++ depsIn ops z (r.map Prod.snd)) ?_ ?_ (r.length + 1) listed a w hS ?_ ?_ (hLp.ready hm) (hL.ready hmz) ?_ ?_
      · intro j hj oj hoj
        rcases List.mem_append.1 hj with hj | hj
        · have := List.all_eq_true.1 c2 j hj
          simp only [waitsB, hoj, Option.map_some, Option.getD_some, List.any_eq_true, Bool.and_eq_true, Bool.or_eq_true, beq_iff_eq, List.contains_iff_mem] at this
          obtain ⟨e, he1, he2, he3⟩ := this
          exact ⟨e, by simpa using he1, he2, he3.elim .inl fun h => .inr (.inr (List.mem_append_left _ h))⟩
        · have := List.all_eq_true.1 c3 j hj
          simp only [waitsB, hoj, Option.map_some, Option.getD_some, List.any_eq_true, Bool.and_eq_true, Bool.or_eq_true, beq_iff_eq, List.contains_iff_mem] at this
          obtain ⟨e, he1, he2, he3⟩ := this
          exact ⟨e, by simpa using he1, he2, he3.elim (fun h => .inr (.inl h)) fun h => .inr (.inr (List.mem_append_right _ h))⟩
      · intro hlb j hjs hji hjz
        simp only [hlb, Bool.not_true, Bool.false_or, Bool.or_eq_true, beq_iff_eq, List.contains_iff_mem] at c4
        rcases c4 with (h | h) | h
        · omega
        · omega
        · rwa [show j = ops.size - 1 by omega]
      · intro j oj hoj hji hjz hun hjD
        have hjlt : j < ops.size := (Array.getElem?_eq_some_iff.1 hoj).1
        rw [hLp.get true hjlt] at hun
        have hjU : j ∈ i :: z :: r.map Prod.snd := Decidable.not_not.1 (of_decide_eq_false hun)
        have hjr : j ∈ r.map Prod.snd := by
          rcases List.mem_cons.1 hjU with e | hjr
          · exact absurd e hji
          · rcases List.mem_cons.1 hjr with e | hjr
            · exact absurd e hjz
            · exact hjr
        have := List.all_eq_true.1 c5 j hjr
        simp only [Bool.or_eq_true, List.contains_iff_mem, h0, hz, hoj, Bool.and_eq_true] at this
        rcases this with h | h
        · exact absurd h hjD
        · exact ⟨⟨h.1.1.1.1, h.1.1.1.2⟩, ⟨h.1.1.2, h.1.2⟩, h.2⟩
      · intro j hj
        have hjr := hDin j hj
        rw [hLp.get false (hLp.lt j (List.mem_cons_of_mem _ (List.mem_cons_of_mem _ hjr)))]
        have : j ∈ i :: z :: r.map Prod.snd := List.mem_cons_of_mem _ (List.mem_cons_of_mem _ hjr)
        simp only [this, not_true_eq_false, decide_false]
      · exact opI_mono hS (fun a' w' hS' hk' => float_lex hsel hz r fl' _ a' w' hr hS' hl hLp.done hk') hb
      · have hlen2 : (i :: r.map Prod.snd).length = r.length + 1 := by simp
        rw [← hlen2]
        exact opI_mono hS (fun a' w' hS' hk' => any_plan hsel (i :: r.map Prod.snd) (o :: fl'.map Prod.snd) _ a' w' hkl hS' (by simp only [List.map_cons, h0, hlm]) hL.done hk') ha
    | m => exact must hok h
    | z => exact must hok h

/-! ### from the text -/
def zipF : List Fl → List Oper → List (Fl × Oper)
  | .z :: fs, _ :: os => zipF fs os
  | .n :: fs, o :: os => (.n, o) :: zipF fs os
  | .b :: fs, o :: os => (.b, o) :: zipF fs os
  | .m :: fs, o :: os => (.m, o) :: zipF fs os
  | [], _ => []
  | _ :: _, [] => []
def idxF : Nat → List Fl → List (Fl × Nat)
  | k, .z :: fs => idxF (k + 1) fs
  | k, .n :: fs => (.n, k) :: idxF (k + 1) fs
  | k, .b :: fs => (.b, k) :: idxF (k + 1) fs
  | k, .m :: fs => (.m, k) :: idxF (k + 1) fs
  | _, [] => []
def zAt : Nat → List Fl → Nat
  | k, .z :: _ => k
  | k, _ :: fs => zAt (k + 1) fs
  | k, [] => k
def zOf : List Fl → List Oper → Oper
  | .z :: _, o :: _ => o
  | .n :: fs, _ :: os => zOf fs os
  | .b :: fs, _ :: os => zOf fs os
  | .m :: fs, _ :: os => zOf fs os
  | _, _ => { dst := none, op := .move (.tmp 0), type := 0, pos := "", after := #[], guard := none }
def okFl (P : Program) (st : Op → Bool) (ops : Array Oper) (fs : List Fl) : Bool :=
  Region.noSelect ops && okF P st ops (zAt 0 fs) (idxF 0 fs) && decide (zAt 0 fs < ops.size) && decide (fs.length = ops.size) && (decide ((zAt 0 fs :: (idxF 0 fs).map Prod.snd).Nodup)) &&
  ((List.range ops.size).all fun j => (zAt 0 fs :: (idxF 0 fs).map Prod.snd).contains j) && decide ((idxF 0 fs).length + 1 = ops.size) && ((zAt 0 fs :: (idxF 0 fs).map Prod.snd).all fun j => decide (j < ops.size))

theorem idx_zip : ∀ (k : Nat) (fs : List Fl) (os : List Oper) (ops : Array Oper), fs.length = os.length → (∀ j, os[j]? = ops[k + j]?) → (idxF k fs).map (fun x => (x.1, ops[x.2]?)) = (zipF fs os).map (fun x => (x.1, some x.2))
  | _, [], _, _, _, _ => rfl
  | k, f :: fs, [], _, h, _ => by simp at h
  | k, f :: fs, o :: os, ops, h, hl => by
    have ih := idx_zip (k + 1) fs os ops (by simpa using h) (fun j => by have := hl (j + 1); simpa [Nat.add_assoc, Nat.add_comm 1 j] using this)
    have h0 : ops[k]? = some o := by simpa using (hl 0).symm
    cases f with
    | z => exact ih
    | n => simp only [idxF, zipF, List.map_cons, h0, ih]
    | b => simp only [idxF, zipF, List.map_cons, h0, ih]
    | m => simp only [idxF, zipF, List.map_cons, h0, ih]
theorem zAt_zOf : ∀ (k : Nat) (fs : List Fl) (os : List Oper) (ops : Array Oper), fs.length = os.length → (∀ j, os[j]? = ops[k + j]?) → zAt k fs < k + fs.length → ops[zAt k fs]? = some (zOf fs os)
  | k, [], os, ops, _, _, h => by simp [zAt] at h
  | k, f :: fs, [], _, h, _, _ => by simp at h
  | k, f :: fs, o :: os, ops, h, hl, hz => by
    have ih := fun hz => zAt_zOf (k + 1) fs os ops (by simpa using h) (fun j => by have := hl (j + 1); simpa [Nat.add_assoc, Nat.add_comm 1 j] using this) hz
    have h0 : ops[k]? = some o := by simpa using (hl 0).symm
    cases f with
    | z => exact h0
    | n => exact ih (by simp only [zAt, List.length_cons] at hz; omega)
    | b => exact ih (by simp only [zAt, List.length_cons] at hz; omega)
    | m => exact ih (by simp only [zAt, List.length_cons] at hz; omega)

/-- **A REGION THAT DRAWS ITS ORDER, AND MAKES ONE VARIABLE ANYWHERE.** fs: a mark for each operation of the text ('z' marks the one that makes the variable). -/
theorem wp_region_float (S : World → Prop) (st : Op → Bool) (fs : List Fl) {id : Nat} {a : Act} {w : World} {l : List Oper} (hm : P.follows .mixedOrders = true) (hB : okFl P st l.toArray fs = true) (hS : S w.drew)
    (h : wpF P l.toArray S st Q (zOf fs l) (zipF fs l) a w.drew) : (Code.region id l.toArray true).wp P Q a w := by
  unfold okFl at hB
  simp only [Bool.and_eq_true, decide_eq_true_eq] at hB
  obtain ⟨⟨⟨⟨⟨⟨⟨hsel, hok⟩, hzl⟩, hfl⟩, hnd⟩, hall⟩, hlen⟩, hlt⟩ := hB
  have hl0 : ∀ j, l[j]? = l.toArray[0 + j]? := fun j => by simp
  have hfl' : fs.length = l.length := by simpa using hfl
  refine wp_region_any hm (wpAny_of_I (S := S) (st := st) _ _ _ _ hS ?_)
  have := float_lex (Q := Q) (S := S) (Region.noSelect_spec hsel) (zAt_zOf 0 fs l l.toArray hfl' hl0 (by rw [Nat.zero_add, hfl']; simpa using hzl)) (idxF 0 fs) (zipF fs l) (Array.replicate l.toArray.size false) a w.drew hok hS (idx_zip 0 fs l _ hfl' hl0)
    ⟨by simp, fun j hj => by
      have hc := List.all_eq_true.1 hall j (List.mem_range.2 hj)
      have hj' : j < l.length := by simpa using hj
      rw [List.contains_iff_mem] at hc
      simp only [hc, not_true_eq_false, decide_false]
      simp [hj'], hnd, fun j hj => by have := List.all_eq_true.1 hlt j hj; simpa using this⟩ h
  rw [hlen] at this
  simpa using this

/-! ### its steps: a single operation by the laws of 'wpI', what follows behind it -/
theorem upon_Q {Q' : Exit → Act → World → Prop} {o : Oper} {a : Act} {next : Act → World → Prop} {r : Result Next} (h : o.upon P a next (OnlyN Q) r) : o.upon P a next (OnlyN Q') r := by
  cases r with
  | halt e w' =>
    cases e <;> simp only [Oper.upon] at h ⊢
    exact h.elim
  | ok n w' =>
    cases n <;> simp only [Oper.upon] at h ⊢ <;> exact h
theorem opI_Q {Q' : Exit → Act → World → Prop} {o : Oper} {a : Act} {w : World} {K : Act → World → Prop} (h : opI P ops S st Q o K a w) : opI P ops S st Q' o K a w := by
  unfold opI at *
  split
  · rename_i hw
    rw [if_pos hw] at h
    refine ⟨h.1, ?_⟩
    have h2 := h.2
    split
    · rename_i hs
      rw [if_pos hs] at h2
      exact h2
    · rename_i hs
      rw [if_neg hs] at h2
      exact upon_Q h2
  · rename_i hw
    rw [if_neg hw] at h
    exact h
theorem opI_one {o : Oper} {R : Act → World → Prop} {a : Act} {w : World} (h : wpI P ops S st (fun _ a w => S w ∧ R a w) [o] a w) (hS : S w) : opI P ops S st Q o R a w := by
  rcases h with h | ⟨_, _, hs, h⟩
  · exact opI_mono hS (fun a w _ hk => hk.2) (opI_Q h)
  · unfold opI at *
    split
    · rename_i hw
      rw [if_pos hw] at h
      refine ⟨h.1, ?_⟩
      have h2 := h.2
      rw [if_neg (show ¬ noSt o.op = true from Bool.false_ne_true)] at h2
      rw [if_neg (by rw [hs]; exact Bool.false_ne_true)]
      exact upon_state rfl (upon_Q h2) fun D u w' hk => hk.2
    · rename_i hw
      rw [if_neg hw] at h
      exact h.2
theorem wpF_n {oz o : Oper} {r : List (Fl × Oper)} {a : Act} {w : World} (hS : S w) (h : wpI P ops S st (fun _ a w => S w ∧ wpF P ops S st Q oz r a w) [o] a w) : wpF P ops S st Q oz ((.n, o) :: r) a w := opI_one h hS
theorem wpF_b {oz o : Oper} {r : List (Fl × Oper)} {a : Act} {w : World} (hS : S w) (h1 : wpI P ops S st Q (oz :: o :: r.map Prod.snd) a w) (h : wpI P ops S st (fun _ a w => S w ∧ wpF P ops S st Q oz r a w) [o] a w) : wpF P ops S st Q oz ((.b, o) :: r) a w := by
  refine ⟨?_, opI_one h hS⟩
  rcases h1 with h1 | ⟨h1, _⟩
  · exact h1
  · cases h1
theorem wpF_m {oz o : Oper} {r : List (Fl × Oper)} {a : Act} {w : World} (h1 : wpI P ops S st Q (oz :: o :: r.map Prod.snd) a w) : wpF P ops S st Q oz ((.m, o) :: r) a w := by
  rcases h1 with h1 | ⟨h1, _⟩
  · exact h1
  · cases h1
theorem wpI_nilS {R : Act → World → Prop} {a : Act} {w : World} (hS : S w) (h : R a w) : wpI P ops S st (fun _ a w => S w ∧ R a w) [] a w := ⟨hS, h⟩
theorem wpF_act {oz : Oper} {r : List (Fl × Oper)} {a a' : Act} {w : World} (h : a = a') (k : wpF P ops S st Q oz r a' w) : wpF P ops S st Q oz r a w := h ▸ k
end
end Go.Ord

/- Walks: envelope's head, Stream, Tag. -/
namespace Go.Proofs.YtniibdglodnhoaaDoor
open Go.RowKit Go.Own Go.Bv Go.Ord Go.Eq

theorem hi56 (n : BitVec 64) : (n.toNat : Int) / 72057594037927936 % 256 = (n.toNat : Int) / 72057594037927936 := by have := n.isLt; omega
theorem made_take8 (m : Nat) (h : 8 ≤ m) : (madeCells (Value.int .u8 0).cells m).toList.take 8 = List.replicate 8 (Value.int .u8 0) := by
  have := made_u8 m
  rw [Nat.mul_one] at this
  rw [this, List.take_replicate, Nat.min_eq_left h]

set_option maxHeartbeats 4000000 in
set_option maxRecDepth 100000 in
theorem head_calls (n : BitVec 64) (a : Option Addr) (len cap : Nat) (kind : List (BitVec 8)) (w : World) (hR : Rd w 1 a len cap (u8s kind)) (hk : len ≤ 100) :
    Calls Tryd.prog 29 #[.int .u64 (n.toNat : Int), .slice a len cap] w fun e w' => ∃ a' c', e = .returned (.slice a' (8 + len) c') ∧ Below w.heap.size w w' ∧ w'.ownsRow w.heap.size 5 1 (.slice a' (8 + len) c') (8 + len) (u8s (eight n ++ kind)) := by
  have hO := Own.start w
  have HR := Lib.hid hR
  have n0 := nn n
  have n1 : (n.toNat : Int) < 18446744073709551616 := by have := n.isLt; omega
  clear hR
  generalize hW : w = wn at hO HR ⊢
  clear hW w
  go_enter Tryd.func29, Tryd.ntmps29
  go_wp2_with (first
    | ((with_reducible refine gMake ?_); refine own_makeC hO _ _ 28 eu8_8 8 (8 + len) rfl rfl rfl (by go_num) (by omega) (by omega) (by simp [maxLen]; omega) ?_; clear hO; intro g ww hO))
  replace hO : Own wn ww [.sl 5 1 (.slice (some ⟨g, 0, none⟩) 8 (8 + len)) 8 (fillK (u8s (eight n)) (.int .u8 0) 0)] := by
    rw [fillK_zero, u8s_length, eight_length, ← made_take8 (8 + len) (by omega)]; exact hO
  go_loopg [6, 13] 8 (fun m s6 c wr => ∃ k : Nat, m = 8 - k ∧ k ≤ 8 ∧ c = .int .i64 k ∧ Own wn wr [.sl 5 1 (.slice (some ⟨g, 0, none⟩) 8 (8 + len)) 8 (fillK (u8s (eight n)) (.int .u8 0) k)])
  case atStart => exact ⟨0, rfl, by omega, rfl, hO⟩
  case round =>
    obtain ⟨k, rfl, hk8, rfl, hO1⟩ := hrel
    clear hO
    have hO := hO1
    clear hO1
    by_cases hlt : k < 8
    · have hg := eight_get n k hlt
      obtain ⟨q, hq⟩ : ∃ q, q = k := ⟨k, rfl⟩
      have HQ := Lib.hid hq
      clear hq
      obtain rfl | rfl | rfl | rfl | rfl | rfl | rfl | rfl : k = 0 ∨ k = 1 ∨ k = 2 ∨ k = 3 ∨ k = 4 ∨ k = 5 ∨ k = 6 ∨ k = 7 := by omega
      all_goals
        simp [hi56] at hg
        have HG := Lib.hid hg
        clear hg
        go_wp2_with ((with_reducible refine gStore ?_); refine own_setElem hO 0 5 _ _ _ rfl rfl rfl (by omega) iu8s_8 rfl ?_; clear hO; intro ww hO)
        go_roundg (8 - (q + 1))
        case measure => rw [HQ.out]; omega
        case rel =>
          refine ⟨q + 1, rfl, by rw [HQ.out]; omega, by rw [HQ.out]; go_num, ?_⟩
          rw [HQ.out, ← fillK_set _ _ _ _ HG.out]
          exact hO
    · obtain rfl : k = 8 := by omega
      have hall := fillK_all (u8s (eight n)) (.int .u8 0)
      rw [u8s_length, eight_length] at hall
      rw [hall] at hO
      clear hall
      go_wp2_with (first
        | ((with_reducible refine gAppend ?_); refine own_append hO 0 _ _ 28 eu8_8 rfl rfl rfl (hO.rd HR.out) (u8s_one _) (8 + len) rfl (by simp [maxLen]; omega) (by omega) ?_; clear hO; intro a2 c2 ww hO))
      go_ret
      refine ⟨a2, c2, rfl, hO.below, ?_⟩
      rw [u8s_append]
      exact hO.row 0 rfl

/-- what is handed back: octets in a block of its own -/
def BkRet (w : World) (X : List (BitVec 8)) (n : Nat) (e : Ending) (w' : World) : Prop :=
  ∃ g C, e = .returned (.tuple #[.slice (some ⟨g, 0, none⟩) n n, .int .i64 0]) ∧ Below w.heap.size w w' ∧ Res.holds w.heap.size w' (.blk g (.cells C 5 (0,0))) ∧ C.toList.take n = u8s X

theorem len9 (n : BitVec 64) (k : BitVec 8) : (eight n ++ [k]).length = 9 := rfl

set_option maxHeartbeats 4000000 in
set_option maxRecDepth 100000 in
theorem stream_ok (key : St) (n : BitVec 64) (m : Nat) (hm : m ≤ 65536) (w : World) (hT : Turns w) :
    Calls Tryd.prog 48 #[.agg key.C, .int .u64 (n.toNat : Int), .int .i64 (m : Int)] w (BkRet w (key.stream n m) m) := by
  have hO := Own.start w
  obtain ⟨L9, hL9⟩ : ∃ L, eight n ++ [1#8] = L := ⟨_, rfl⟩
  obtain ⟨u, hu⟩ : ∃ u, key.absorb L9 = u := ⟨_, rfl⟩
  obtain ⟨X, hX⟩ : ∃ X, u.squeeze m = X := ⟨_, rfl⟩
  have hS : key.stream n m = X := by rw [← hX, ← hu, ← hL9]; rfl
  have g1 := fun w a c hR => head_calls n a 1 c [1#8] w hR (by omega)
  have g2 := fun w a c hR hT => absorb1_calls key a 9 c L9 w hR hT (by omega)
  have g3 := fun w hT => squeeze_calls u m (by omega) w hT
  rw [hL9] at g1
  rw [hu] at g2
  unfold SqRet at g3
  rw [hX] at g3
  rw [hS]
  have G1 := Lib.hid g1
  have G2 := Lib.hid g2
  have G3 := Lib.hid g3
  have HT := Lib.hid hT
  have d1 : decide ((65536 : Int) < (m : Int)) = false := by simp; omega
  clear hT g1 g2 g3 hL9 hu hX hS
  generalize hW : w = wn at hO HT ⊢
  clear hW w
  go_enter Tryd.func48, Tryd.ntmps48
  go_wp2_with (first | ((with_reducible refine gBox ?_); first | (refine bxA hO rfl ?_; clear hO; intro b ww hO) | (refine bx1 hO rfl rfl ?_; clear hO; intro b ww hO)))
  replace hO : Own wn _ [.blk b (.cells key.C 24 (0,0))] := hO
  refine wp_region_float (fun w' => Own wn w' [.blk b (.cells key.C 24 (0,0))]) (fun op => match op with | .load _ _ => true | _ => false) [.n, .n, .b, .b, .b, .m, .n, .n, .z, .n, .n] (by kernel_rfl) (by kernel_rfl) hO.drew ?_
  dsimp only [zipF, zOf]
  replace hO := hO.drew
  generalize World.drew _ = wd at hO ⊢
  go_wp2_with (first
    | (((with_reducible refine gIL ?_); first | refine wpI_ldS (fun w' hS => hS.blk 0 rfl) rfl rfl (tA rfl) (tS rfl) ?_); first | (refine wpI_act (by simp only [Act.put, List.setIfInBounds_toArray, List.set_cons_succ, List.set_cons_zero]; rfl) ?_) | skip)
    | ((with_reducible refine gLoad ?_); first | refine ldX hO 0 rfl rfl (tA rfl) (tS rfl) ?_ | refine ldC hO 0 rfl rfl (tA rfl) rfl ?_ | refine ldX hO 1 rfl rfl (tA rfl) (tS rfl) ?_ | refine ldC hO 1 rfl rfl (tA rfl) rfl ?_ | refine ldX hO 2 rfl rfl (tA rfl) (tS rfl) ?_ | refine ldC hO 2 rfl rfl (tA rfl) rfl ?_ | refine ldX hO 3 rfl rfl (tA rfl) (tS rfl) ?_ | refine ldC hO 3 rfl rfl (tA rfl) rfl ?_ | refine ldX hO 4 rfl rfl (tA rfl) (tS rfl) ?_ | refine ldC hO 4 rfl rfl (tA rfl) rfl ?_)
    | ((with_reducible refine gStore ?_); first | (refine stX hO 0 rfl rfl rfl rfl rfl (tS rfl) ?_; clear hO; intro ww hO) | (refine stC hO 0 rfl rfl rfl (ltb rfl) rfl (tS rfl) ?_; clear hO; intro ww hO) | (refine stX hO 1 rfl rfl rfl rfl rfl (tS rfl) ?_; clear hO; intro ww hO) | (refine stC hO 1 rfl rfl rfl (ltb rfl) rfl (tS rfl) ?_; clear hO; intro ww hO) | (refine stX hO 2 rfl rfl rfl rfl rfl (tS rfl) ?_; clear hO; intro ww hO) | (refine stC hO 2 rfl rfl rfl (ltb rfl) rfl (tS rfl) ?_; clear hO; intro ww hO) | (refine stX hO 3 rfl rfl rfl rfl rfl (tS rfl) ?_; clear hO; intro ww hO) | (refine stC hO 3 rfl rfl rfl (ltb rfl) rfl (tS rfl) ?_; clear hO; intro ww hO))
    | ((with_reducible refine gAlloc ?_); refine own_alloc hO _ _ iwz ?_; clear hO; intro bb ww hO)
    | ((with_reducible refine gBuild ?_); refine own_build hO 28 1 _ eu8_8 (u8s [1#8]).toArray (by omega) (by omega) (by simp [go_sem, Instr.fill, u8s]) rfl ?_; clear hO; intro g ww hO)
    | (go_at_call 29; (first | refine (G1.out _ _ _ (hO.rdAt 0 rfl)).mono ?_ | refine (G1.out _ _ _ (hO.rdAt 1 rfl)).mono ?_); rintro e ww ⟨a2, c2, rfl, hb, hr⟩; replace hO := hO.addRow hb hr; clear hb hr)
    | (go_at_call 49; (first | refine (G2.out _ _ _ (hO.rdAt 0 rfl) (HT.out.own hO)).mono ?_ | refine (G2.out _ _ _ (hO.rdAt 1 rfl) (HT.out.own hO)).mono ?_); rintro e ww ⟨rfl, hb⟩; replace hO := hO.call hb; clear hb)
    | (go_at_call 62; refine (G3.out _ (HT.out.own hO)).mono ?_; rintro e ww ⟨g, C, rfl, hb, hh, hC⟩; have HH := Lib.hid (hh.mono hO.size); replace hO := hO.call hb; clear hb hh)
    | ((with_reducible refine wpF_n ?_ ?_); exact hO.sub (by repeat first | exact List.Sublist.refl _ | apply List.Sublist.cons)) | ((with_reducible refine wpF_b ?_ ?_ ?_); exact hO.sub (by repeat first | exact List.Sublist.refl _ | apply List.Sublist.cons); dsimp only [List.map]) | ((with_reducible refine wpF_m ?_); dsimp only [List.map]) | ((with_reducible refine wpI_nilS ?_ ?_); exact hO.sub (by repeat first | exact List.Sublist.refl _ | apply List.Sublist.cons))
    | ((with_reducible refine gI ?_); refine wpI_step rfl rfl (by kernel_rfl) ?_; intro K hK; have HK := Lib.hid hK; clear hK) | ((with_reducible refine gI ?_); first | refine wpI_skip rfl ?_ | refine wpI_want rfl ?_) | ((with_reducible refine gOnlyK HK.out ?_ ?_); exact hO.sub (by repeat first | exact List.Sublist.refl _ | apply List.Sublist.cons); clear HK K; first | (refine wpI_act (by simp only [Act.put, List.setIfInBounds_toArray, List.set_cons_succ, List.set_cons_zero]; rfl) ?_) | skip) | (with_reducible refine wpI_nil ?_))
  all_goals
    go_ret2
    exact ⟨g, C, rfl, hO.below, HH.out, hC⟩

set_option maxHeartbeats 4000000 in
set_option maxRecDepth 100000 in
theorem tag_ok (key : St) (n : BitVec 64) (a : Option Addr) (len cap : Nat) (t : List (BitVec 8)) (w : World) (hR : Rd w 1 a len cap (u8s t)) (hl : len ≤ 65536) (hT : Turns w) :
    Calls Tryd.prog 28 #[.agg key.C, .int .u64 (n.toNat : Int), .slice a len cap] w fun e w' => e = .returned (.tuple #[.agg (key.tag n t).C, .int .i64 0]) ∧ Below w.heap.size w w' := by
  have hO := Own.start w
  obtain ⟨L9, hL9⟩ : ∃ L, eight n ++ [2#8] = L := ⟨_, rfl⟩
  obtain ⟨L, hL⟩ : ∃ L, L9 ++ t = L := ⟨_, rfl⟩
  obtain ⟨u, hu⟩ : ∃ u, key.absorb L = u := ⟨_, rfl⟩
  have hS : key.tag n t = u := by rw [← hu, ← hL, ← hL9]; rfl
  have g1 := fun w a c hR => head_calls n a 1 c [2#8] w hR (by omega)
  have g2 := fun w a c hR hT => absorb1_calls key a (9 + len) c L w hR hT (by omega)
  rw [hL9] at g1
  rw [hu] at g2
  rw [hS]
  have HL : Hid (u8s L = u8s L9 ++ u8s t) := by show _ = _; rw [← hL, u8s_append]
  have G1 := Lib.hid g1
  have G2 := Lib.hid g2
  have HT := Lib.hid hT
  have HR := Lib.hid hR
  have d1 : decide ((65536 : Int) < (len : Int)) = false := by simp; omega
  clear hT hR g1 g2 hL9 hL hu hS
  generalize hW : w = wn at hO HT HR ⊢
  clear hW w
  go_enter Tryd.func28, Tryd.ntmps28
  go_wp2_with (first | ((with_reducible refine gBox ?_); first | (refine bxA hO rfl ?_; clear hO; intro b ww hO) | (refine bx1 hO rfl rfl ?_; clear hO; intro b ww hO)) | ((with_reducible refine gAlloc ?_); refine own_alloc hO _ _ iwz ?_; clear hO; intro rr ww hO))
  replace hO : Own wn _ [.blk rr (.cells St.zero.C 24 (0,0)), .blk b (.cells key.C 24 (0,0))] := hO
  refine wp_region_textS (fun w' => Own wn w' [.blk b (.cells key.C 24 (0,0))]) (fun op => match op with | .load _ _ => true | _ => false) (by kernel_rfl) (by kernel_rfl) (hO.drew.sub (by repeat first | exact List.Sublist.refl _ | apply List.Sublist.cons)) ?_
  replace hO := hO.drew
  generalize World.drew _ = wd at hO ⊢
  go_wp2_with (first
    | (((with_reducible refine gIL ?_); first | refine wpI_ldS (fun w' hS => hS.blk 0 rfl) rfl rfl (tA rfl) (tS rfl) ?_); first | (refine wpI_act (by simp only [Act.put, List.setIfInBounds_toArray, List.set_cons_succ, List.set_cons_zero]; rfl) ?_) | skip)
    | ((with_reducible refine gStore ?_); refine stX hO 2 rfl rfl rfl rfl rfl (tS rfl) ?_; clear hO; intro ww hO)
    | ((with_reducible refine gBuild ?_); refine own_build hO 28 1 _ eu8_8 (u8s [2#8]).toArray (by omega) (by omega) (by simp [go_sem, Instr.fill, u8s]) rfl ?_; clear hO; intro g ww hO)
    | (go_at_call 29; refine (G1.out _ _ _ (hO.rdAt 0 rfl)).mono ?_; rintro e ww ⟨a2, c2, rfl, hb, hr⟩; replace hO := hO.addRow hb hr; clear hb hr)
    | ((with_reducible refine gAppend ?_); refine own_append hO 0 _ _ 28 eu8_8 rfl rfl rfl (hO.rd HR.out) (u8s_one _) (9 + len) rfl (by simp [maxLen]; omega) (by omega) ?_; clear hO; intro a3 c3 ww hO)
    | (go_at_call 49; refine (G2.out _ _ _ (by rw [HL.out]; exact hO.rdAt 0 rfl) (HT.out.own hO)).mono ?_; rintro e ww ⟨rfl, hb⟩; replace hO := hO.call hb; clear hb)
    | ((with_reducible refine gI ?_); refine wpI_step rfl rfl (by kernel_rfl) ?_; intro K hK; have HK := Lib.hid hK; clear hK) | ((with_reducible refine gI ?_); first | refine wpI_skip rfl ?_ | refine wpI_want rfl ?_) | ((with_reducible refine gOnlyK HK.out ?_ ?_); exact hO.sub (by repeat first | exact List.Sublist.refl _ | apply List.Sublist.cons); clear HK K; first | (refine wpI_act (by simp only [Act.put, List.setIfInBounds_toArray, List.set_cons_succ, List.set_cons_zero]; rfl) ?_) | skip) | (with_reducible refine wpI_nil ?_))
  refine bodyPost_ret (res_ct rfl _ _ rr 24 u.C (0,0) _ rfl (hO.blk 2 rfl) Tryd.underlying24 rfl (iws' _)) rfl ⟨rfl, hO.below⟩
set_option maxHeartbeats 1000000 in
theorem tag_no (key : St) (n : BitVec 64) (a : Option Addr) (len cap : Nat) (w : World) (hl : 65536 < len) :
    Calls Tryd.prog 28 #[.agg key.C, .int .u64 (n.toNat : Int), .slice a len cap] w fun e w' => e = .returned (.tuple #[.agg St.zero.C, .int .i64 3]) ∧ Below w.heap.size w w' := by
  have hO := Own.start w
  have d1 : decide ((65536 : Int) < (len : Int)) = true := by simp; omega
  generalize hW : w = wn at hO ⊢
  clear hW w
  go_enter Tryd.func28, Tryd.ntmps28
  go_wp2_with (first | ((with_reducible refine gBox ?_); first | (refine bxA hO rfl ?_; clear hO; intro b ww hO) | (refine bx1 hO rfl rfl ?_; clear hO; intro b ww hO)) | ((with_reducible refine gAlloc ?_); refine own_alloc hO _ _ iwz ?_; clear hO; intro rr ww hO) | ((with_reducible refine gStore ?_); first | (refine stX hO 0 rfl rfl rfl rfl rfl (tS rfl) ?_; clear hO; intro ww hO) | (refine stC hO 0 rfl rfl rfl (ltb rfl) rfl (tS rfl) ?_; clear hO; intro ww hO)))
  refine bodyPost_ret (res_ct rfl _ _ rr 24 St.zero.C (0,0) _ rfl (hO.blk 0 rfl) Tryd.underlying24 rfl (iws' _)) rfl ⟨rfl, hO.below⟩
end Go.Proofs.YtniibdglodnhoaaDoor

/- Walks: envelope's hide, Seal, Open. -/
namespace Go.Proofs.YtniibdglodnhoaaDoor
open Go.RowKit Go.Own Go.Bv Go.Ord Go.Eq

theorem wrap_u64' (n : Int) : IntKind.u64.wrap n = n % 18446744073709551616 := by simp [IntKind.wrap, IntKind.bits, IntKind.signed]
theorem ibz : (Tryd.prog.info? 51).bind (·.zero) = some (.agg (boxC 0#64 (.slice none 0 0) St.zero)) := by kernel_rfl
theorem irz : (Tryd.prog.info? 27).bind (·.zero) = some (.agg (ringC St.zero 0#64)) := by kernel_rfl
theorem ibs (n : BitVec 64) (v : Value) (s : St) : (Tryd.prog.info? 51).map (·.size) = some (boxC n v s).size := (by kernel_rfl : (Tryd.prog.info? 51).map (·.size) = some 6)
theorem irs (s : St) (n : BitVec 64) : (Tryd.prog.info? 27).map (·.size) = some (ringC s n).size := (by kernel_rfl : (Tryd.prog.info? 27).map (·.size) = some 5)

def hidK (b s : List (BitVec 8)) (k : Nat) : List (BitVec 8) := St.xors (b.take k) s ++ s.drop k
theorem hidK_zero (b s : List (BitVec 8)) : hidK b s 0 = s := by simp [hidK, St.xors]
theorem hidK_all (b s : List (BitVec 8)) (h : s.length = b.length) : hidK b s b.length = St.xors b s := by
  unfold hidK
  rw [List.take_length, List.drop_of_length_le (by omega), List.append_nil]
theorem hidK_length (b s : List (BitVec 8)) (k : Nat) (h : s.length = b.length) (hk : k ≤ b.length) : (hidK b s k).length = b.length := by
  unfold hidK St.xors
  simp; omega
theorem hidK_get (b s : List (BitVec 8)) (k : Nat) (h : s.length = b.length) (hk : k < b.length) : (hidK b s k)[k]? = some (s[k]'(by omega)) := by
  unfold hidK St.xors
  rw [List.getElem?_append_right (by simp; omega)]
  simp only [List.length_zipWith, List.length_take]
  rw [List.getElem?_drop, show k + (k - min (min k b.length) s.length) = k by omega]
  exact List.getElem?_eq_getElem _
theorem hidK_next (b s : List (BitVec 8)) (k : Nat) (h : s.length = b.length) (hk : k < b.length) : hidK b s (k + 1) = (hidK b s k).set k (s[k]'(by omega) ^^^ b[k]) := by
  apply List.ext_getElem?
  intro i
  rw [List.getElem?_set]
  unfold hidK St.xors
  have hl : ∀ k, k ≤ b.length → (List.zipWith (· ^^^ ·) (b.take k) s).length = k := fun k hk => by simp; omega
  by_cases hik : k = i
  · subst hik
    rw [if_pos rfl, if_pos (by rw [List.length_append, hl k (by omega)]; simp; omega)]
    rw [List.getElem?_append_left (by rw [hl (k + 1) (by omega)]; omega), List.getElem?_zipWith, List.getElem?_take_of_lt (by omega), List.getElem?_eq_getElem hk, List.getElem?_eq_getElem (show k < s.length by omega)]
    simp [BitVec.xor_comm]
  · rw [if_neg hik]
    by_cases hlt : i < k
    · rw [List.getElem?_append_left (by rw [hl (k + 1) (by omega)]; omega), List.getElem?_append_left (by rw [hl k (by omega)]; omega), List.getElem?_zipWith, List.getElem?_zipWith, List.getElem?_take_of_lt (by omega), List.getElem?_take_of_lt (by omega)]
    · rw [List.getElem?_append_right (by rw [hl (k + 1) (by omega)]; omega), List.getElem?_append_right (by rw [hl k (by omega)]; omega), hl (k + 1) (by omega), hl k (by omega), List.getElem?_drop, List.getElem?_drop]
      congr 1
      omega
theorem u8s_set (l : List (BitVec 8)) (k : Nat) (x : BitVec 8) : u8s (l.set k x) = (u8s l).set k (.int .u8 (x.toNat : Int)) := by simp [u8s, List.map_set]

set_option maxHeartbeats 2000000 in
set_option maxRecDepth 100000 in
theorem hide_ok (key : St) (n : BitVec 64) (a : Option Addr) (len cap : Nat) (b : List (BitVec 8)) (w : World) (hR : Rd w 1 a len cap (u8s b)) (hl : len ≤ 65536) (hT : Turns w) :
    Calls Tryd.prog 27 #[.agg key.C, .int .u64 (n.toNat : Int), .slice a len cap] w (BkRet w (key.hide n b) len) := by
  have hO := Own.start w
  have hbl : b.length = len := by have := hR.len; rw [u8s_length] at this; omega
  obtain ⟨s, hs⟩ : ∃ s, key.stream n len = s := ⟨_, rfl⟩
  have hsl : s.length = b.length := by rw [← hs, St.stream_length, hbl]
  have hX : key.hide n b = hidK b s len := by rw [← hbl, hidK_all b s hsl, ← hs, ← hbl]; rfl
  have g1 := fun w hT => stream_ok key n len hl w hT
  rw [hs] at g1
  unfold BkRet at g1
  rw [hX]
  have G1 := Lib.hid g1
  have HR := Lib.hid hR
  have HT := Lib.hid hT
  have HBL := Lib.hid hbl
  have HSL := Lib.hid hsl
  clear hT hR g1 hs hX hbl hsl
  generalize hW : w = wn at hO HT HR ⊢
  clear hW w
  go_enter Tryd.func27, Tryd.ntmps27
  go_wp2_with (first
    | ((with_reducible refine gBox ?_); first | (refine bxA hO rfl ?_; clear hO; intro bk ww hO) | (refine bx1 hO rfl rfl ?_; clear hO; intro bk ww hO))
    | ((with_reducible refine gLoad ?_); first | refine ldX hO 0 rfl rfl (tA rfl) (tS rfl) ?_ | refine ldC hO 0 rfl rfl (tA rfl) rfl ?_)
    | (go_at_call 48; refine (G1.out _ (HT.out.own hO)).mono ?_; rintro e ww ⟨g, C, rfl, hb, hh, hC⟩; replace hO := hO.add hb hh; clear hb hh))
  replace hO : Own wn _ [.blk g (.cells C 5 (0,0)), .blk bk (.cells key.C 24 (0,0))] := hO
  go_loopg [10, 11, 25] len (fun m s10 s11 c wr => ∃ (k : Nat) (D : Array Value), m = len - k ∧ k ≤ len ∧ c = .int .i64 k ∧ D.toList.take len = u8s (hidK b s k) ∧ Own wn wr [.blk g (.cells D 5 (0,0)), .blk bk (.cells key.C 24 (0,0))])
  case atStart => exact ⟨0, C, rfl, by omega, rfl, by rw [hidK_zero]; exact hC, hO⟩
  case round =>
    obtain ⟨k, D, rfl, hk, rfl, hD, hO1⟩ := hrel
    clear hO hC
    have hO := hO1
    clear hO1
    by_cases hlt : k < len
    · have hb0 : decide ((k : Int) < (len : Int)) = true := by simp; omega
      have hkb : k < b.length := by rw [HBL.out]; exact hlt
      have HN := Lib.hid (hidK_next b s k HSL.out hkb)
      have hg := congrArg (fun l => (u8s l)[k]?) (hidK_next b s k HSL.out hkb)
      clear hg
      have hv : D.toList[k]? = some (.int .u8 ((s[k]'(by rw [HSL.out]; exact hkb)).toNat : Int)) := by
        have h1 := congrArg (·[k]?) hD
        simp only [List.getElem?_take_of_lt hlt] at h1
        rw [h1]
        unfold u8s
        rw [List.getElem?_map, hidK_get b s k HSL.out hkb]; rfl
      have HV := Lib.hid hv
      have hsz : k < D.size := by
        have := (List.getElem?_eq_some_iff.1 hv).1
        simpa using this
      have HB := Lib.hid (u8s_get b k hkb)
      obtain ⟨b0, off, rfl⟩ := HR.out.place (by omega)
      have HD := Lib.hid hD
      generalize s[k]'(by rw [HSL.out]; exact hkb) = x at *
      generalize b[k] = y at *
      have e := xor8 x y
      generalize x ^^^ y = z at *
      clear hv hD
      go_wp2_with (first
        | ((with_reducible refine gLoad ?_); first | refine ldC hO 0 rfl rfl (tA rfl) HV.out ?_ | refine ld_rd (hO.rd HR.out) rfl (HB.out) (tA rfl) ?_)
        | ((with_reducible refine gStore ?_); refine stC hO 0 rfl rfl rfl hsz rfl (tS rfl) ?_; clear hO; intro ww hO))
      go_roundg (len - (k + 1))
      case measure => omega
      case rel =>
        refine ⟨k + 1, _, rfl, by omega, by go_num, ?_, hO⟩
        rw [HN.out, u8s_set, ← HD.out, Array.toList_setIfInBounds, List.take_set]
    · have hb0 : decide ((k : Int) < (len : Int)) = false := by simp; omega
      obtain rfl : k = len := by omega
      have HD := Lib.hid hD
      clear hD
      go_wp2
      go_ret2
      exact ⟨g, D, rfl, hO.below, hO.at 0 rfl, HD.out⟩

set_option maxHeartbeats 2000000 in
set_option maxRecDepth 100000 in
theorem seal_ok (key : St) (n : BitVec 64) (a : Option Addr) (len cap : Nat) (b : List (BitVec 8)) (w : World) (hR : Rd w 1 a len cap (u8s b)) (hl : len ≤ 65536) (hn : n ≠ 18446744073709551615#64) (hT : Turns w) :
    Calls Tryd.prog 17 #[.agg (ringC key n), .slice a len cap] w fun e w' => ∃ g C, e = .returned (.tuple #[.agg (boxC n (.slice (some ⟨g, 0, none⟩) len len) (key.tag n (key.hide n b))), .agg (ringC key (n + 1#64)), .int .i64 0]) ∧ Below w.heap.size w w' ∧ Res.holds w.heap.size w' (.blk g (.cells C 5 (0,0))) ∧ C.toList.take len = u8s (key.hide n b) := by
  have hO := Own.start w
  have hbl : b.length = len := by have := hR.len; rw [u8s_length] at this; omega
  obtain ⟨t, ht⟩ : ∃ t, key.hide n b = t := ⟨_, rfl⟩
  have htl : t.length = len := by rw [← ht, St.hide_length, hbl]
  obtain ⟨u, hu⟩ : ∃ u, key.tag n t = u := ⟨_, rfl⟩
  have g1 := fun w hR hT => hide_ok key n a len cap b w hR hl hT
  have g2 := fun w a c hR hT => tag_ok key n a len c t w hR hl hT
  rw [ht] at g1
  rw [hu] at g2
  unfold BkRet at g1
  rw [ht, hu]
  have nlt := n.isLt
  have hne : n.toNat ≠ 18446744073709551615 := fun h => hn (BitVec.eq_of_toNat_eq h)
  have d1 : ((n.toNat : Int) == 18446744073709551615) = false := by simp; omega
  obtain ⟨n1, hn1⟩ : ∃ n1, n + 1#64 = n1 := ⟨_, rfl⟩
  have e1 : IntKind.u64.wrap ((n.toNat : Int) + 1) = (n1.toNat : Int) := by rw [wrap_u64', ← hn1, BitVec.toNat_add]; simp
  rw [hn1]
  have G1 := Lib.hid g1
  have G2 := Lib.hid g2
  have HR := Lib.hid hR
  have HT := Lib.hid hT
  have n0 := nn n
  have nL : (n.toNat : Int) < 18446744073709551616 := by omega
  have HTL := Lib.hid htl
  clear hT hR g1 g2 ht hu hbl htl hn hne nlt hn1
  generalize hW : w = wn at hO HT HR ⊢
  clear hW w
  go_enter Tryd.func17, Tryd.ntmps17
  go_wp2_with (first
    | ((with_reducible refine gBox ?_); first | (refine bxA hO rfl ?_; clear hO; intro br ww hO) | (refine bx1 hO rfl rfl ?_; clear hO; intro br ww hO))
    | ((with_reducible refine gG ?_); refine wpList_want rfl ?_)
    | ((with_reducible refine gAlloc (T := 51) ?_); refine own_alloc hO _ _ ibz ?_; clear hO; intro bx ww hO)
    | ((with_reducible refine gAlloc (T := 27) ?_); refine own_alloc hO _ _ irz ?_; clear hO; intro bn ww hO)
    | ((with_reducible refine gLoad (T := 24) ?_); first | refine ldA hO 2 key.C rfl rfl (tA rfl) (tS rfl) rfl ?_ | refine ldA hO 3 key.C rfl rfl (tA rfl) (tS rfl) rfl ?_)
    | ((with_reducible refine gLoad (T := 25) ?_); first | refine ldC hO 3 rfl rfl (tA rfl) rfl ?_ | refine ldC hO 2 rfl rfl (tA rfl) rfl ?_)
    | ((with_reducible refine gLoad (T := 28) ?_); refine ldC hO 2 rfl rfl (tA rfl) rfl ?_)
    | (go_at_call 27; refine (G1.out _ (hO.rd HR.out) (HT.out.own hO)).mono ?_; rintro e ww ⟨g, C, rfl, hb, hh, hC⟩; replace hO := hO.add hb hh; clear hb hh)
    | ((with_reducible refine gStore (T := 28) ?_); refine stC hO 2 rfl rfl rfl (ltb rfl) rfl (tS rfl) ?_; clear hO; intro ww hO)
    | ((with_reducible refine gStore (T := 25) ?_); first | (refine stC hO 2 rfl rfl rfl (ltb rfl) rfl (tS rfl) ?_; clear hO; intro ww hO) | (refine stC hO 3 rfl rfl rfl (ltb rfl) rfl (tS rfl) ?_; clear hO; intro ww hO; replace hO : Own wn ww [.blk g (.cells C 5 (0,0)), .blk bn (.cells (ringC St.zero 0#64) 27 (0,0)), .blk bx (.cells (boxC n (.slice (some ⟨g, 0, none⟩) len len) u) 51 (0,0)), .blk br (.cells (ringC key n1) 27 (0,0))] := hO))
    | (go_at_call 28; refine (G2.out _ _ _ (rd_blk_off (hO.blk 0 rfl) 0 (by rw [List.drop_zero]; exact hC) (by rw [u8s_length]; exact HTL.out) (Nat.le_refl _) (by simp [maxLen]; omega)) (HT.out.own hO)).mono ?_; rintro e ww ⟨rfl, hb⟩; replace hO := hO.call hb; clear hb)
    | ((with_reducible refine gStore (T := 24) ?_); refine stP hO 2 rfl rfl rfl rfl rfl (tS rfl) rfl ?_; clear hO; intro ww hO))
  refine wp_region_textS (fun w' => Own wn w' [.blk bx (.cells (boxC n (.slice (some ⟨g, 0, none⟩) len len) u) 51 (0,0)), .blk br (.cells (ringC key n1) 27 (0,0))]) (fun op => match op with | .load _ _ => true | _ => false) (by kernel_rfl) (by kernel_rfl) (hO.drew.sub (by repeat first | exact List.Sublist.refl _ | apply List.Sublist.cons)) ?_
  replace hO := hO.drew
  generalize World.drew _ = wd at hO ⊢
  go_wp2_with (first
    | (((with_reducible refine gIL ?_); first | refine wpI_ldS (fun w' hS => hS.blk 0 rfl) rfl rfl (tA rfl) (tS rfl) ?_ | refine wpI_ldS (fun w' hS => hS.blk 1 rfl) rfl rfl (tA rfl) (tS rfl) ?_); first | (refine wpI_act (by simp only [Act.put, List.setIfInBounds_toArray, List.set_cons_succ, List.set_cons_zero]; rfl) ?_) | skip)
    | ((with_reducible refine gStore (T := 51) ?_); refine stX hO 2 rfl rfl rfl rfl rfl (tS rfl) ?_; clear hO; intro ww hO)
    | ((with_reducible refine gStore (T := 27) ?_); refine stX hO 1 rfl rfl rfl rfl rfl (tS rfl) ?_; clear hO; intro ww hO)
    | ((with_reducible refine gI ?_); refine wpI_step rfl rfl (by kernel_rfl) ?_; intro K hK; have HK := Lib.hid hK; clear hK) | ((with_reducible refine gI ?_); first | refine wpI_skip rfl ?_ | refine wpI_want rfl ?_) | ((with_reducible refine gOnlyK HK.out ?_ ?_); exact hO.sub (by repeat first | exact List.Sublist.refl _ | apply List.Sublist.cons); clear HK K; first | (refine wpI_act (by simp only [Act.put, List.setIfInBounds_toArray, List.set_cons_succ, List.set_cons_zero]; rfl) ?_) | skip) | (with_reducible refine wpI_nil ?_))
  refine bodyPost_ret (res_cct rfl _ _ bx bn 51 27 (boxC n (.slice (some ⟨g, 0, none⟩) len len) u) (ringC key n1) (0,0) (0,0) _ _ rfl (hO.blk 2 rfl) Tryd.underlying51 rfl (ibs _ _ _) rfl (hO.blk 1 rfl) Tryd.underlying27 rfl (irs _ _)) rfl ⟨g, C, rfl, hO.below, hO.at 0 rfl, hC⟩
end Go.Proofs.YtniibdglodnhoaaDoor

/- Walks: envelope's Open, Seal of a full ring, the law's live. -/
namespace Go.Proofs.YtniibdglodnhoaaDoor
open Go.RowKit Go.Own Go.Bv Go.Ord Go.Eq

theorem v_egW : Tryd.prog.eqGuardType Tryd.prog.depth 24 = false := by kernel_rfl
theorem v_flW : flat Tryd.prog 24 = false := by kernel_rfl
theorem neW (s t : St) (w : World) : (binOp .neq 24 (.agg s.C) (.agg t.C)).run Tryd.prog w = .ok (.bool (!decide (s = t))) w := by
  have := run_neq_u32 (P := Tryd.prog) w Tryd.underlying24 Tryd.underlying22 iu32s s.l t.l rfl rfl
  rw [decide_eq_decide.2 St.l_inj] at this
  exact this

set_option maxHeartbeats 2000000 in
set_option maxRecDepth 100000 in
theorem seal_full (key : St) (n : BitVec 64) (a : Option Addr) (len cap : Nat) (b : List (BitVec 8)) (w : World) (hR : Rd w 1 a len cap (u8s b)) (hl : len ≤ 65536) (hn : n = 18446744073709551615#64) (hT : Turns w) :
    Calls Tryd.prog 17 #[.agg (ringC key n), .slice a len cap] w fun e w' => e = .returned (.tuple #[.agg (boxC 0#64 (.slice none 0 0) St.zero), .agg (ringC St.zero 0#64), .int .i64 6]) ∧ Below w.heap.size w w' := by
  have hO := Own.start w
  obtain ⟨t, ht⟩ : ∃ t, key.hide n b = t := ⟨_, rfl⟩
  have g1 := fun w hR hT => hide_ok key n a len cap b w hR hl hT
  rw [ht] at g1
  unfold BkRet at g1
  have d1 : ((n.toNat : Int) == 18446744073709551615) = true := by rw [hn]; rfl
  have G1 := Lib.hid g1
  have HR := Lib.hid hR
  have HT := Lib.hid hT
  clear hT hR g1 ht hn
  generalize hW : w = wn at hO HT HR ⊢
  clear hW w
  go_enter Tryd.func17, Tryd.ntmps17
  go_wp2_with (first
    | ((with_reducible refine gBox ?_); first | (refine bxA hO rfl ?_; clear hO; intro br ww hO) | (refine bx1 hO rfl rfl ?_; clear hO; intro br ww hO))
    | ((with_reducible refine gG ?_); refine wpList_want rfl ?_)
    | ((with_reducible refine gAlloc (T := 51) ?_); refine own_alloc hO _ _ ibz ?_; clear hO; intro bx ww hO)
    | ((with_reducible refine gAlloc (T := 27) ?_); refine own_alloc hO _ _ irz ?_; clear hO; intro bn ww hO)
    | ((with_reducible refine gLoad (T := 24) ?_); refine ldA hO 2 key.C rfl rfl (tA rfl) (tS rfl) rfl ?_)
    | ((with_reducible refine gLoad (T := 25) ?_); first | refine ldC hO 3 rfl rfl (tA rfl) rfl ?_ | refine ldC hO 2 rfl rfl (tA rfl) rfl ?_)
    | (go_at_call 27; refine (G1.out _ (hO.rd HR.out) (HT.out.own hO)).mono ?_; rintro e ww ⟨g, C, rfl, hb, hh, hC⟩; replace hO := hO.add hb hh; clear hb hh hC)
    | ((with_reducible refine gStore (T := 28) ?_); refine stC hO 2 rfl rfl rfl (ltb rfl) rfl (tS rfl) ?_; clear hO; intro ww hO)
    | ((with_reducible refine gStore (T := 51) ?_); refine stX hO 2 rfl rfl rfl rfl rfl (tS rfl) ?_; clear hO; intro ww hO)
    | ((with_reducible refine gStore (T := 27) ?_); refine stX hO 1 rfl rfl rfl rfl rfl (tS rfl) ?_; clear hO; intro ww hO))
  refine bodyPost_ret (res_cct rfl _ _ bx bn 51 27 (boxC 0#64 (.slice none 0 0) St.zero) (ringC St.zero 0#64) (0,0) (0,0) _ _ rfl (hO.blk 2 rfl) Tryd.underlying51 rfl (ibs _ _ _) rfl (hO.blk 1 rfl) Tryd.underlying27 rfl (irs _ _)) rfl ⟨rfl, hO.below⟩

set_option maxHeartbeats 2000000 in
set_option maxRecDepth 100000 in
theorem open_ok (key : St) (n : BitVec 64) (a : Option Addr) (len cap : Nat) (t : List (BitVec 8)) (w : World) (hR : Rd w 1 a len cap (u8s t)) (hl : len ≤ 65536) (hT : Turns w) :
    Calls Tryd.prog 35 #[.agg key.C, .agg (boxC n (.slice a len cap) (key.tag n t))] w (BkRet w (key.hide n t) len) := by
  have hO := Own.start w
  obtain ⟨u, hu⟩ : ∃ u, key.tag n t = u := ⟨_, rfl⟩
  obtain ⟨X, hX⟩ : ∃ X, key.hide n t = X := ⟨_, rfl⟩
  have g1 := fun w hR hT => tag_ok key n a len cap t w hR hl hT
  have g2 := fun w hR hT => hide_ok key n a len cap t w hR hl hT
  rw [hu] at g1
  rw [hX] at g2
  unfold BkRet at g2
  rw [hu, hX]
  have HQ : Hid (∀ w, (binOp .neq 24 (.agg u.C) (.agg u.C)).run Tryd.prog w = .ok (.bool false) w) := fun w => by rw [neW, decide_eq_true rfl]; rfl
  have G1 := Lib.hid g1
  have G2 := Lib.hid g2
  have HR := Lib.hid hR
  have HT := Lib.hid hT
  clear hT hR g1 g2 hu hX
  generalize hW : w = wn at hO HT HR ⊢
  clear hW w
  go_enter Tryd.func35, Tryd.ntmps35
  go_wp2_with (first
    | ((with_reducible refine gBox ?_); first | (refine bxA hO rfl ?_; clear hO; intro bx ww hO) | (refine bx1 hO rfl rfl ?_; clear hO; intro bx ww hO))
    | ((with_reducible refine gAlloc ?_); refine own_alloc hO _ _ iwz ?_; clear hO; intro bt ww hO)
    | ((with_reducible refine gLoad (T := 24) ?_); first | refine ldX hO 1 rfl rfl (tA rfl) (tS rfl) ?_ | refine ldX hO 0 rfl rfl (tA rfl) (tS rfl) ?_ | refine ldA hO 1 u.C rfl rfl (tA rfl) (tS rfl) rfl ?_ | refine ldX hO 2 rfl rfl (tA rfl) (tS rfl) ?_)
    | ((with_reducible refine gLoad (T := 25) ?_); first | refine ldC hO 0 rfl rfl (tA rfl) rfl ?_ | refine ldC hO 1 rfl rfl (tA rfl) rfl ?_)
    | ((with_reducible refine gLoad (T := 28) ?_); first | refine ldC hO 0 rfl rfl (tA rfl) rfl ?_ | refine ldC hO 1 rfl rfl (tA rfl) rfl ?_)
    | ((with_reducible refine gStore (T := 24) ?_); refine stX hO 0 rfl rfl rfl rfl rfl (tS rfl) ?_; clear hO; intro ww hO)
    | (go_at_call 28; refine (G1.out _ (hO.rd HR.out) (HT.out.own hO)).mono ?_; rintro e ww ⟨rfl, hb⟩; replace hO := hO.call hb; clear hb)
    | ((with_reducible refine gNeq (t := 24) ?_); refine neD v_egW rfl rfl ?_; (with_reducible refine ⟨_, HQ.out, ?_⟩))
    | (go_at_call 27; refine (G2.out _ (hO.rd HR.out) (HT.out.own hO)).mono ?_; rintro e ww ⟨g, C, rfl, hb, hh, hC⟩; replace hO := hO.add hb hh; clear hb hh))
  go_ret2
  exact ⟨g, C, rfl, hO.below, hO.at 0 rfl, hC⟩

set_option maxHeartbeats 2000000 in
set_option maxRecDepth 100000 in
theorem open_bad (key : St) (n : BitVec 64) (a : Option Addr) (len cap : Nat) (t : List (BitVec 8)) (v : St) (w : World) (hR : Rd w 1 a len cap (u8s t)) (hl : len ≤ 65536) (hv : v ≠ key.tag n t) (hT : Turns w) :
    Calls Tryd.prog 35 #[.agg key.C, .agg (boxC n (.slice a len cap) v)] w fun e w' => e = .returned (.tuple #[.slice none 0 0, .int .i64 8]) ∧ Below w.heap.size w w' := by
  have hO := Own.start w
  obtain ⟨u, hu⟩ : ∃ u, key.tag n t = u := ⟨_, rfl⟩
  have g1 := fun w hR hT => tag_ok key n a len cap t w hR hl hT
  rw [hu] at g1 hv
  have HQ : Hid (∀ w, (binOp .neq 24 (.agg u.C) (.agg v.C)).run Tryd.prog w = .ok (.bool true) w) := fun w => by rw [neW, decide_eq_false (Ne.symm hv)]; rfl
  have G1 := Lib.hid g1
  have HR := Lib.hid hR
  have HT := Lib.hid hT
  clear hT hR g1 hu hv
  generalize hW : w = wn at hO HT HR ⊢
  clear hW w
  go_enter Tryd.func35, Tryd.ntmps35
  go_wp2_with (first
    | ((with_reducible refine gBox ?_); first | (refine bxA hO rfl ?_; clear hO; intro bx ww hO) | (refine bx1 hO rfl rfl ?_; clear hO; intro bx ww hO))
    | ((with_reducible refine gAlloc ?_); refine own_alloc hO _ _ iwz ?_; clear hO; intro bt ww hO)
    | ((with_reducible refine gLoad (T := 24) ?_); first | refine ldX hO 1 rfl rfl (tA rfl) (tS rfl) ?_ | refine ldX hO 0 rfl rfl (tA rfl) (tS rfl) ?_ | refine ldA hO 1 v.C rfl rfl (tA rfl) (tS rfl) rfl ?_ | refine ldX hO 2 rfl rfl (tA rfl) (tS rfl) ?_)
    | ((with_reducible refine gLoad (T := 25) ?_); first | refine ldC hO 0 rfl rfl (tA rfl) rfl ?_ | refine ldC hO 1 rfl rfl (tA rfl) rfl ?_)
    | ((with_reducible refine gLoad (T := 28) ?_); first | refine ldC hO 0 rfl rfl (tA rfl) rfl ?_ | refine ldC hO 1 rfl rfl (tA rfl) rfl ?_)
    | ((with_reducible refine gStore (T := 24) ?_); refine stX hO 0 rfl rfl rfl rfl rfl (tS rfl) ?_; clear hO; intro ww hO)
    | (go_at_call 28; refine (G1.out _ (hO.rd HR.out) (HT.out.own hO)).mono ?_; rintro e ww ⟨rfl, hb⟩; replace hO := hO.call hb; clear hb)
    | ((with_reducible refine gNeq (t := 24) ?_); refine neD v_egW rfl rfl ?_; (with_reducible refine ⟨_, HQ.out, ?_⟩)))
  go_ret2
  exact ⟨rfl, hO.below⟩

theorem live_ne (u : St) : (⟨u.a, u.b, u.c, Go.Bva.bxor u.d (Go.Bva.bk 1)⟩ : St) ≠ u := by
  intro h
  have h1 : Go.Bva.bxor u.d (Go.Bva.bk 1) = u.d := congrArg St.d h
  have h2 := congrArg (u.d ^^^ ·) h1
  unfold Go.Bva.bxor Go.Bva.bk at h2
  simp only [← BitVec.xor_assoc, BitVec.xor_self, BitVec.zero_xor] at h2
  exact absurd h2 (by decide)

end Go.Proofs.YtniibdglodnhoaaDoor

/- Walks: slices.Grow of nothing, slices.Concat of three, slices.Clone. -/
namespace Go.Proofs.YtniibdglodnhoaaDoor
open Go.RowKit Go.Own Go.Bv Go.Ord Go.Eq

section
variable {P : Program} {ops : Array Oper} {Q : Exit → Act → World → Prop} {a : Act} {w0 w : World} {L : List Res} {rest : List Oper}
variable {d : Option Tmp} {ty : TypeId} {pos : String} {aft : Array Edge}
/-- 'append([]T(nil), make([]T, n)...)', of which nothing will be read: kept as a row of no element -/
theorem own_appZ (hO : Own w0 w L) (s x : Operand) (t tn : TypeId) {e : TypeId} {z : Value} {bytes : Nat} (hE : Elem P t e z 1 bytes) {kn kq : IntKind} (htn : P.underlying tn = some (.int kn))
    {N : Int} (n : Nat) (hs : a.eval s = .slice none 0 0) (hx : a.eval x = .int kq N) (hN : N = (n : Int)) (h0 : 0 < n) (h63 : n ≤ maxLen) (hb : n * bytes ≤ 281474976710656)
    (h : ∀ g c w', Own w0 w' (.sl e 1 (.slice (some ⟨g, 0, none⟩) 0 c) 0 [] :: L) → wpList P ops Q rest (a.put d (.slice (some ⟨g, 0, none⟩) n c)) w') :
    wpList P ops Q ({ dst := d, op := .call { callee := .builtin .append, args := #[s, x], argTypes := #[t, tn] }, type := ty, pos := pos, after := aft, guard := none } :: rest) a w := by
  obtain ⟨inf, hinf, hz, hsz, hby⟩ := info_parts hE.info
  have hm : (n : Int) ≤ 9223372036854775807 := by have := h63; simp [maxLen] at this; omega
  have hr := Lib.run_append_nil_zeros (P := P) w t tn ty e inf z kq kn hE.slice htn hinf hz n h0 (by omega) hm (by rw [hby]; exact hb)
  refine Lib.wpList_append_run w rfl s x t tn rfl _ _ hs (hx.trans (by rw [hN])) _ _ hr (h _ _ _ ?_)
  have hc := hE.cells
  have hrow := World.ownsRow_made (e := e) (size := 1) (base := w.drew.heap.size) w.drew (Builtin.zeroCells z.cells n ++ Builtin.zeroCells z.cells (grownCap w n 0 e - n)) (grownCap w n 0 e) (Nat.le_refl _) (grownCap_le_maxLen w n 0 e h63)
    (by
      have hg := grownCap_ge w n 0 e
      simp [Builtin.zeroCells, hc]
      omega)
  exact hO.drew.add ((Below.refl _ _).alloc (Nat.le_refl _) _) hrow
end

set_option maxHeartbeats 2000000 in
set_option maxRecDepth 100000 in
theorem grow_calls (n : Nat) (hn : n ≤ 1000000000) (w : World) :
    Calls Tryd.prog 31 #[.slice none 0 0, .int .i64 (n : Int)] w fun e w' => ∃ a' c', e = .returned (.slice a' 0 c') ∧ Below w.heap.size w w' ∧ w'.ownsRow w.heap.size 5 1 (.slice a' 0 c') 0 [] := by
  have hO := Own.start w
  generalize hW : w = wn at hO ⊢
  clear hW w
  have d0 : decide ((n : Int) < 0) = false := by simp
  by_cases h0 : n = 0
  · subst h0
    go_enter Tryd.func31, Tryd.ntmps31
    go_wp2
    go_ret
    exact ⟨_, _, rfl, hO.below, World.ownsRow_nil _ _ _ _⟩
  · have d1 : decide (0 < n) = true := by simp; omega
    have e1 : wrap64 (n : Int) = (n : Int) := by unfold wrap64; omega
    have HZ := Lib.hid h0
    clear h0
    go_enter Tryd.func31, Tryd.ntmps31
    go_wp2_with (first
      | ((with_reducible refine gAppend ?_); refine own_appZ hO _ _ 28 3 eu8_8 Tryd.underlying3 n rfl rfl rfl (by have := HZ.out; omega) (by simp [maxLen]; omega) (by omega) ?_; clear hO; intro g c ww hO))
    go_ret
    exact ⟨_, _, rfl, hO.below, hO.row 0 rfl⟩

set_option maxHeartbeats 2000000 in
set_option maxRecDepth 100000 in
theorem clone_calls (a : Option Addr) (n c : Nat) (bs : List (BitVec 8)) (w : World) (hR : Rd w 1 a n c (u8s bs)) (hn : n ≤ 1000000) :
    Calls Tryd.prog 22 #[.slice a n c] w fun e w' => ∃ a' c', e = .returned (.slice a' n c') ∧ Below w.heap.size w w' ∧ w'.ownsRow w.heap.size 5 1 (.slice a' n c') n (u8s bs) := by
  have hO := Own.start w
  cases a with
  | none =>
    obtain ⟨rfl, rfl⟩ := hR.nil rfl
    have hb : u8s bs = [] := List.eq_nil_of_length_eq_zero (by rw [hR.len])
    rw [hb]
    have hnil : ∀ W, (binOp .eql 28 (.slice none 0 0) (.slice none 0 0)).run Tryd.prog W = .ok (.bool true) W := fun W => Go.run_eql_slice_nil W _ _ none 0 0 Tryd.underlying28
    clear hR hb
    generalize hW : w = wn at hO ⊢
    clear hW w
    go_enter Tryd.func22, Tryd.ntmps22
    go_wp2
    go_ret
    exact ⟨_, _, rfl, hO.below, World.ownsRow_nil _ _ _ _⟩
  | some ad =>
    have HR := Lib.hid hR
    have hnil : ∀ W, (binOp .eql 28 (.slice (some ad) n c) (.slice none 0 0)).run Tryd.prog W = .ok (.bool false) W := fun W => Go.run_eql_slice_nil W _ _ (some ad) n c Tryd.underlying28
    clear hR
    generalize hW : w = wn at hO HR ⊢
    clear hW w
    go_enter Tryd.func22, Tryd.ntmps22
    go_wp2_with (first
      | ((with_reducible refine gBuild ?_); refine own_build0 hO 28 eu8_8 ?_; clear hO; intro g ww hO)
      | ((with_reducible refine gAppend ?_); refine own_append hO 0 _ _ 28 eu8_8 rfl rfl rfl (hO.rd HR.out) (u8s_one _) n (by omega) (by simp [maxLen]; omega) (by omega) ?_; clear hO; intro a2 c2 ww hO))
    go_ret
    exact ⟨_, _, rfl, hO.below, hO.row 0 rfl⟩

/-- what is there ahead of the k-th of three -/
def sumK (n1 n2 n3 : Nat) : Nat → Nat
  | 0 => 0
  | 1 => n1
  | 2 => n1 + n2
  | _ => n1 + n2 + n3
def catK (b1 b2 b3 : List (BitVec 8)) : Nat → List (BitVec 8)
  | 0 => []
  | 1 => b1
  | 2 => b1 ++ b2
  | _ => b1 ++ b2 ++ b3
theorem u8s_append' (a b : List (BitVec 8)) : u8s a ++ u8s b = u8s (a ++ b) := by unfold u8s; rw [List.map_append]

set_option maxHeartbeats 4000000 in
set_option maxRecDepth 100000 in
theorem concat3_calls (a0 : Option Addr) (c0 : Nat) (a1 a2 a3 : Option Addr) (n1 c1 n2 c2 n3 c3 : Nat) (b1 b2 b3 : List (BitVec 8)) (w : World)
    (hR : Rd w 1 a0 3 c0 [.slice a1 n1 c1, .slice a2 n2 c2, .slice a3 n3 c3]) (h1 : Rd w 1 a1 n1 c1 (u8s b1)) (h2 : Rd w 1 a2 n2 c2 (u8s b2)) (h3 : Rd w 1 a3 n3 c3 (u8s b3)) (m1 : n1 ≤ 1000000) (m2 : n2 ≤ 1000000) (m3 : n3 ≤ 1000000) :
    Calls Tryd.prog 19 #[.slice a0 3 c0] w fun e w' => ∃ a' c', e = .returned (.slice a' (n1 + n2 + n3) c') ∧ Below w.heap.size w w' ∧ w'.ownsRow w.heap.size 5 1 (.slice a' (n1 + n2 + n3) c') (n1 + n2 + n3) (u8s (b1 ++ b2 ++ b3)) := by
  have hO := Own.start w
  obtain ⟨g0, off, rfl⟩ := hR.place (by omega)
  have HR := Lib.hid hR
  have H1 := Lib.hid h1
  have H2 := Lib.hid h2
  have H3 := Lib.hid h3
  clear hR h1 h2 h3
  generalize hW : w = wn at hO HR H1 H2 H3 ⊢
  clear hW w
  go_enter Tryd.func19, Tryd.ntmps19
  go_wp2
  go_loopg [3, 5, 11] 3 (fun m s3 s5 c wr => ∃ k : Nat, m = 3 - k ∧ k ≤ 3 ∧ c = .int .i64 k ∧ s3 = .int .i64 (sumK n1 n2 n3 k : Nat) ∧ Own wn wr [])
  case atStart => exact ⟨0, rfl, by omega, rfl, rfl, hO⟩
  case round =>
    obtain ⟨k, rfl, hk, rfl, rfl, hO1⟩ := hrel
    clear hO
    have hO := hO1
    clear hO1
    obtain rfl | rfl | rfl | rfl : k = 0 ∨ k = 1 ∨ k = 2 ∨ k = 3 := by omega
    · simp only [sumK]
      have dz : decide ((n1 : Int) < 0) = false := by simp
      have ez : wrap64 (n1 : Int) = (n1 : Int) := by unfold wrap64; omega
      go_wp2_with ((with_reducible refine gLoad ?_); refine ld_rd (hO.rd HR.out) rfl (show ([.slice a1 n1 c1, .slice a2 n2 c2, .slice a3 n3 c3] : List Value)[0]? = some (.slice a1 n1 c1) from rfl) (tA rfl) ?_)
      go_roundg 2
      case measure => omega
      case rel => exact ⟨1, rfl, by omega, by go_num, by simp [sumK], hO⟩
    · simp only [sumK]
      have dz : decide ((n1 : Int) + (n2 : Int) < 0) = false := by simp; omega
      have ez : wrap64 ((n1 : Int) + (n2 : Int)) = (n1 : Int) + (n2 : Int) := by unfold wrap64; omega
      go_wp2_with ((with_reducible refine gLoad ?_); refine ld_rd (hO.rd HR.out) rfl (show ([.slice a1 n1 c1, .slice a2 n2 c2, .slice a3 n3 c3] : List Value)[1]? = some (.slice a2 n2 c2) from rfl) (tA rfl) ?_)
      go_roundg 1
      case measure => omega
      case rel => exact ⟨2, rfl, by omega, by go_num, by simp [sumK], hO⟩
    · simp only [sumK]
      have dz : decide ((n1 : Int) + (n2 : Int) + (n3 : Int) < 0) = false := by simp; omega
      have ez : wrap64 ((n1 : Int) + (n2 : Int) + (n3 : Int)) = (n1 : Int) + (n2 : Int) + (n3 : Int) := by unfold wrap64; omega
      go_wp2_with ((with_reducible refine gLoad ?_); refine ld_rd (hO.rd HR.out) rfl (show ([.slice a1 n1 c1, .slice a2 n2 c2, .slice a3 n3 c3] : List Value)[2]? = some (.slice a3 n3 c3) from rfl) (tA rfl) ?_)
      go_roundg 0
      case measure => omega
      case rel => exact ⟨3, rfl, by omega, by go_num, by simp [sumK], hO⟩
    · simp only [sumK]
      have hg := grow_calls (n1 + n2 + n3) (by omega)
      rw [show ((n1 + n2 + n3 : Nat) : Int) = (n1 : Int) + (n2 : Int) + (n3 : Int) by omega] at hg
      have HG := Lib.hid hg
      clear hg
      go_wp2_with (go_at_call 31; refine (HG.out _).mono ?_; rintro e ww ⟨aG, cG, rfl, hb, hr⟩; replace hO := hO.addRow hb hr; clear hb hr)
      go_loopg [6, 8, 27] 3 (fun m s6 s8 c wr => ∃ (k : Nat) (aK : Option Addr) (cK : Nat), m = 3 - k ∧ k ≤ 3 ∧ c = .int .i64 k ∧ s6 = .slice aK (sumK n1 n2 n3 k) cK ∧ Own wn wr [.sl 5 1 (.slice aK (sumK n1 n2 n3 k) cK) (sumK n1 n2 n3 k) (u8s (catK b1 b2 b3 k))])
      case atStart => exact ⟨0, _, _, rfl, by omega, rfl, rfl, hO⟩
      case round =>
        obtain ⟨k, aK, cK, rfl, hk, rfl, rfl, hO1⟩ := hrel
        clear hO
        have hO := hO1
        clear hO1
        obtain rfl | rfl | rfl | rfl : k = 0 ∨ k = 1 ∨ k = 2 ∨ k = 3 := by omega
        · simp only [sumK, catK] at hO ⊢
          go_wp2_with (first
            | ((with_reducible refine gLoad ?_); refine ld_rd (hO.rd HR.out) rfl (show ([.slice a1 n1 c1, .slice a2 n2 c2, .slice a3 n3 c3] : List Value)[0]? = some (.slice a1 n1 c1) from rfl) (tA rfl) ?_)
            | ((with_reducible refine gAppend ?_); refine own_append hO 0 _ _ 28 eu8_8 rfl rfl rfl (hO.rd H1.out) (u8s_one _) n1 (by omega) (by simp [maxLen]; omega) (by omega) ?_; clear hO; intro a2 c2 ww hO))
          go_roundg 2
          case measure => omega
          case rel => exact ⟨1, _, _, rfl, by omega, by go_num, rfl, hO⟩
        · simp only [sumK, catK] at hO ⊢
          go_wp2_with (first
            | ((with_reducible refine gLoad ?_); refine ld_rd (hO.rd HR.out) rfl (show ([.slice a1 n1 c1, .slice a2 n2 c2, .slice a3 n3 c3] : List Value)[1]? = some (.slice a2 n2 c2) from rfl) (tA rfl) ?_)
            | ((with_reducible refine gAppend ?_); refine own_append hO 0 _ _ 28 eu8_8 rfl rfl rfl (hO.rd H2.out) (u8s_one _) (n1 + n2) rfl (by simp [maxLen]; omega) (by omega) ?_; clear hO; intro a2 c2 ww hO))
          go_roundg 1
          case measure => omega
          case rel => exact ⟨2, _, _, rfl, by omega, by go_num, rfl, by simp only [catK]; rw [← u8s_append']; exact hO⟩
        · simp only [sumK, catK] at hO ⊢
          go_wp2_with (first
            | ((with_reducible refine gLoad ?_); refine ld_rd (hO.rd HR.out) rfl (show ([.slice a1 n1 c1, .slice a2 n2 c2, .slice a3 n3 c3] : List Value)[2]? = some (.slice a3 n3 c3) from rfl) (tA rfl) ?_)
            | ((with_reducible refine gAppend ?_); refine own_append hO 0 _ _ 28 eu8_8 rfl rfl rfl (hO.rd H3.out) (u8s_one _) (n1 + n2 + n3) rfl (by simp [maxLen]; omega) (by omega) ?_; clear hO; intro a2 c2 ww hO))
          go_roundg 0
          case measure => omega
          case rel => exact ⟨3, _, _, rfl, by omega, by go_num, rfl, by simp only [catK]; rw [← u8s_append']; exact hO⟩
        · simp only [sumK, catK] at hO ⊢
          go_wp2
          go_ret
          exact ⟨_, _, rfl, hO.below, hO.row 0 rfl⟩
end Go.Proofs.YtniibdglodnhoaaDoor

/- Walks: envelope.Bytes, envelope.From. -/
namespace Go.Proofs.YtniibdglodnhoaaDoor
open Go.RowKit Go.Own Go.Bv Go.Ord Go.Eq

theorem ebb : Elem Tryd.prog 36 28 (.slice none 0 0) 1 24 := ⟨Tryd.underlying36, by kernel_rfl, rfl, by decide⟩
theorem rd_nil (w : World) : Rd w 1 none 0 0 (u8s []) := ⟨rfl, Nat.le_refl _, by simp [maxLen], fun _ => ⟨rfl, rfl⟩, fun h => absurd rfl h⟩

set_option maxHeartbeats 4000000 in
set_option maxRecDepth 100000 in
theorem bytes_ok (n : BitVec 64) (u : St) (a : Option Addr) (len cap : Nat) (t : List (BitVec 8)) (w : World) (hR : Rd w 1 a len cap (u8s t)) (hl : len ≤ 65536) :
    Calls Tryd.prog 18 #[.agg (boxC n (.slice a len cap) u)] w fun e w' => ∃ a' c', e = .returned (.tuple #[.slice a' (8 + 16 + len) c', .int .i64 0]) ∧ Below w.heap.size w w' ∧ w'.ownsRow w.heap.size 5 1 (.slice a' (8 + 16 + len) c') (8 + 16 + len) (u8s (eight n ++ u.octs ++ t)) := by
  have hO := Own.start w
  have HR := Lib.hid hR
  have d1 : decide ((65536 : Int) < (len : Int)) = false := by simp; omega
  have g1 := fun w => head_calls n none 0 0 [] w (rd_nil w) (by omega)
  rw [List.append_nil] at g1
  have G1 := Lib.hid g1
  have G2 := Lib.hid (octets_calls u)
  have e8 := eight_length n
  obtain ⟨E8, hE8⟩ : ∃ E8, eight n = E8 := ⟨_, rfl⟩
  obtain ⟨UO, hUO⟩ : ∃ UO, u.octs = UO := ⟨_, rfl⟩
  rw [hE8] at G1 ⊢
  rw [hUO] at G2 ⊢
  clear hR g1 e8 hE8 hUO
  generalize hW : w = wn at hO HR ⊢
  clear hW w
  go_enter Tryd.func18, Tryd.ntmps18
  go_wp2_with (first
    | ((with_reducible refine gBox ?_); first | (refine bxA hO rfl ?_; clear hO; intro b ww hO) | (refine bx1 hO rfl rfl ?_; clear hO; intro b ww hO))
    | ((with_reducible refine gLoad (T := 28) ?_); refine ldC hO 0 rfl rfl (tA rfl) rfl ?_))
  refine wp_region_textS (fun w' => Own wn w' [.blk b (.cells (boxC n (.slice a len cap) u) 51 (0,0))]) (fun op => match op with | .load _ _ => true | _ => false) (by kernel_rfl) (by kernel_rfl) hO.drew ?_
  replace hO := hO.drew
  generalize World.drew _ = wd at hO ⊢
  go_wp2_with (first
    | (((with_reducible refine gIL ?_); first | refine wpI_ldcS (fun w' hS => hS.blk 0 rfl) rfl rfl (tA rfl) rfl ?_); first | (refine wpI_act (by simp only [Act.put, List.setIfInBounds_toArray, List.set_cons_succ, List.set_cons_zero]; rfl) ?_) | skip)
    | ((with_reducible refine gIL ?_); refine wpI_ldpS u.C.toList (fun w' hS => hS.blk 0 rfl) rfl rfl (tA rfl) (tS rfl) rfl ?_; first | (refine wpI_act (by simp only [Act.put, List.setIfInBounds_toArray, List.set_cons_succ, List.set_cons_zero]; rfl) ?_) | skip)
    | (go_at_call 29; refine (G1.out _).mono ?_; rintro e ww ⟨a1, c1, rfl, hb, hr⟩; replace hO := hO.addRow hb hr; clear hb hr)
    | (go_at_call 30; refine (G2.out _).mono ?_; rintro e ww ⟨g2, rfl, hb, hr⟩; replace hO := hO.addRow hb hr; clear hb hr)
    | ((with_reducible refine gBuild ?_); refine own_build hO 36 3 _ ebb #[.slice a1 8 c1, .slice (some ⟨g2, 0, none⟩) 16 16, .slice a len cap] (by omega) (by omega) (by simp [go_sem, Instr.fill]) rfl ?_; clear hO; intro g3 ww hO)
    | (go_at_call 19; refine (concat3_calls _ _ _ _ _ _ _ _ _ _ _ E8 UO t _ (hO.rdAt 0 rfl) (hO.rdAt 2 rfl) (hO.rdAt 1 rfl) (hO.rd HR.out) (by omega) (by omega) (by omega)).mono ?_; rintro e ww ⟨a4, c4, rfl, hb, hr⟩; replace hO := hO.addRow hb hr; clear hb hr)
    | ((with_reducible refine gI ?_); refine wpI_step rfl rfl (by kernel_rfl) ?_; intro K hK; have HK := Lib.hid hK; clear hK) | ((with_reducible refine gI ?_); first | refine wpI_skip rfl ?_ | refine wpI_want rfl ?_) | ((with_reducible refine gOnlyK HK.out ?_ ?_); exact hO.sub (by repeat first | exact List.Sublist.refl _ | apply List.Sublist.cons); clear HK K; first | (refine wpI_act (by simp only [Act.put, List.setIfInBounds_toArray, List.set_cons_succ, List.set_cons_zero]; rfl) ?_) | skip) | (with_reducible refine wpI_nil ?_))
  go_ret2
  exact ⟨_, _, rfl, hO.below, hO.row 0 rfl⟩

set_option maxHeartbeats 4000000 in
set_option maxRecDepth 100000 in
theorem from_no (a : Option Addr) (len cap : Nat) (w : World) (hl : len < 24) :
    Calls Tryd.prog 34 #[.slice a len cap] w fun e w' => e = .returned (.tuple #[.agg (boxC 0#64 (.slice none 0 0) St.zero), .int .i64 2]) ∧ Below w.heap.size w w' := by
  have hO := Own.start w
  have d1 : decide ((len : Int) < 24) = true := by simp; omega
  generalize hW : w = wn at hO ⊢
  clear hW w
  go_enter Tryd.func34, Tryd.ntmps34
  go_wp2_with (first
    | ((with_reducible refine gAlloc (T := 51) ?_); refine own_alloc hO _ _ ibz ?_; clear hO; intro bx ww hO)
    | ((with_reducible refine gLoad (T := 51) ?_); refine ldX hO 0 rfl rfl (tA rfl) (tS rfl) ?_)
    | ((with_reducible refine gStore (T := 51) ?_); refine stX hO 0 rfl rfl rfl rfl rfl (tS rfl) ?_; clear hO; intro ww hO))
  refine bodyPost_ret (res_ct rfl _ _ bx 51 (boxC 0#64 (.slice none 0 0) St.zero) (0,0) _ rfl (hO.blk 0 rfl) Tryd.underlying51 rfl (ibs _ _ _)) rfl ⟨rfl, hO.below⟩

set_option maxHeartbeats 8000000 in
set_option maxRecDepth 100000 in
theorem from_ok (a : Option Addr) (len cap : Nat) (bs : List (BitVec 8)) (w : World) (hR : Rd w 1 a len cap (u8s bs)) (h1 : 24 ≤ len) (h2 : len ≤ 65560) :
    Calls Tryd.prog 34 #[.slice a len cap] w fun e w' => ∃ a' c', e = .returned (.tuple #[.agg (boxC (num bs 8) (.slice a' (len - 24) c') (St.of ((bs.drop 8).take 16))), .int .i64 0]) ∧ Below w.heap.size w w' ∧ w'.ownsRow w.heap.size 5 1 (.slice a' (len - 24) c') (len - 24) (u8s (bs.drop 24)) := by
  have hO := Own.start w
  have hlen : bs.length = len := by have := hR.len; rw [u8s_length] at this; omega
  obtain ⟨g0, off, rfl⟩ := hR.place (by omega)
  have d1 : decide ((len : Int) < 24) = false := by simp; omega
  have d2 : decide ((65560 : Int) < (len : Int)) = false := by simp; omega
  have hle := hR.le
  have hmx := hR.max
  unfold maxLen at hmx
  have dc8 : ¬ (cap < 8) := by omega
  have dc24 : ¬ (cap < 24) := by omega
  have r2 := hR.cut 8 16 (by omega)
  have r3 := hR.cut 24 (len - 24) (by omega)
  have eb2 : ((u8s bs).drop 8).take 16 = u8s ((bs.drop 8).take 16) := by unfold u8s; rw [List.map_take, List.map_drop]
  have eb3 : ((u8s bs).drop 24).take (len - 24) = u8s (bs.drop 24) := by rw [List.take_of_length_le (by rw [List.length_drop, u8s_length]; omega)]; unfold u8s; rw [List.map_drop]
  rw [eb2] at r2
  rw [eb3] at r3
  have x2 : ofT ((bs.drop 8).take 16) = St.of ((bs.drop 8).take 16) := by unfold ofT; rw [if_pos (by simp; omega)]
  have y2 : ofE ((bs.drop 8).take 16) = 0 := by unfold ofE; rw [if_pos (by simp; omega)]
  have g2 := fun w h => of_calls (some ⟨g0, off + 8, none⟩) 16 (cap - 8) ((bs.drop 8).take 16) w h
  rw [x2, y2] at g2
  have g3 := fun w h => clone_calls (some ⟨g0, off + 24, none⟩) (len - 24) (cap - 24) (bs.drop 24) w h (by omega)
  have r4 : cap = 24 → ∀ w, Rd w 1 (some ⟨g0, off, none⟩) (len - 24) 0 (u8s (bs.drop 24)) := fun hc w =>
    ⟨by rw [u8s_length, List.length_drop, hlen, Nat.mul_one], by omega, by simp [maxLen], (fun h => by cases h), fun hne => absurd (by omega) hne⟩
  have g4 := fun w h => clone_calls (some ⟨g0, off, none⟩) (len - 24) 0 (bs.drop 24) w h (by omega)
  have R4 := Lib.hid r4
  have G4 := Lib.hid g4
  have HG : ∀ k (h : k < 8), Hid (∃ c : BitVec 8, (u8s bs)[k]? = some (.int .u8 (c.toNat : Int)) ∧ ∀ u, u = num bs k → num bs (k + 1) = Go.Bva.bor64 u (Go.Bva.bshl64 (Go.Bva.bw64 c) (8 * k))) := fun k h => by
    refine ⟨bs[k]'(by omega), u8s_get bs k (by omega), ?_⟩
    rintro u rfl
    show num bs k ||| ((bs.getD k 0#8).setWidth 64 <<< (8 * k)) = _
    rw [List.getD_eq_getElem?_getD, List.getElem?_eq_getElem (by omega)]
    rfl
  obtain ⟨u, hu⟩ : ∃ u, St.of ((bs.drop 8).take 16) = u := ⟨_, rfl⟩
  rw [hu] at g2 ⊢
  obtain ⟨nn8, h8⟩ : ∃ x, num bs 8 = x := ⟨_, rfl⟩
  rw [h8]
  have H8 := Lib.hid h8
  have G2 := Lib.hid g2
  have G3 := Lib.hid g3
  have HR := Lib.hid hR
  have R2 := Lib.hid r2
  have R3 := Lib.hid r3
  clear hR r2 r3 r4 g2 g3 g4 x2 y2 eb2 eb3 hu hlen h8
  generalize hW : w = wn at hO HR R2 R3 ⊢
  clear hW w
  go_enter Tryd.func34, Tryd.ntmps34
  go_wp2_with (first
    | ((with_reducible refine gAlloc (T := 51) ?_); refine own_alloc hO _ _ ibz ?_; clear hO; intro bx ww hO))
  replace hO : Own wn ww [.blk bx (.cells (boxC (num bs 0) (.slice none 0 0) St.zero) 51 (0,0))] := hO
  go_loopg [4, 5, 19] 8 (fun m s4 s5 c wr => ∃ k : Nat, m = 8 - k ∧ k ≤ 8 ∧ c = .int .i64 k ∧ Own wn wr [.blk bx (.cells (boxC (num bs k) (.slice none 0 0) St.zero) 51 (0,0))])
  case atStart => exact ⟨0, rfl, by omega, rfl, hO⟩
  case round =>
    obtain ⟨k, rfl, hk, rfl, hO1⟩ := hrel
    clear hO
    have hO := hO1
    clear hO1
    by_cases hlt : k < 8
    · have hb0 : decide ((k : Int) < 8) = true := by simp; omega
      obtain ⟨c, hc, hn⟩ := (HG k hlt).out
      have HV := Lib.hid hc
      obtain ⟨v, hv⟩ : ∃ v, num bs k = v := ⟨_, rfl⟩
      have HN := Lib.hid (hn v hv.symm)
      rw [hv] at hO
      clear hc hn hv
      obtain ⟨q, hq⟩ : ∃ q, q = k := ⟨k, rfl⟩
      have HQ := Lib.hid hq
      clear hq hb0
      obtain rfl | rfl | rfl | rfl | rfl | rfl | rfl | rfl : k = 0 ∨ k = 1 ∨ k = 2 ∨ k = 3 ∨ k = 4 ∨ k = 5 ∨ k = 6 ∨ k = 7 := by omega
      all_goals
        go_wp2_with ((with_reducible refine gLoad (T := 5) ?_); refine ld_rd (hO.rd HR.out) rfl (HV.out) (tA rfl) ?_)
        refine wp_region_text (by kernel_rfl) (by kernel_rfl) ?_
        replace hO := hO.drew
        generalize World.drew _ = wd at hO ⊢
        go_wp2_with (first
          | ((with_reducible refine gLoad (T := 25) ?_); refine ldC hO 0 rfl rfl (tA rfl) rfl ?_)
          | ((with_reducible refine Go.Bva.gCnv ?_); refine Go.Bva.cnv_8_64 Tryd.underlying5 Tryd.underlying25 rfl ?_)
          | ((with_reducible refine Go.Bva.gBin (op := .shl) ?_); refine Go.Bva.shl_u64 rfl rfl (by decide) ?_)
          | ((with_reducible refine Go.Bva.gBin (op := .or) ?_); refine Go.Bva.or_u64 rfl rfl ?_)
          | ((with_reducible refine gStore (T := 25) ?_); refine stC hO 0 rfl rfl rfl (ltb rfl) rfl (tS rfl) ?_; clear hO; intro ww hO)
          | ((with_reducible refine gI ?_); refine wpI_step rfl rfl (by kernel_rfl) ?_; intro K hK; have HK := Lib.hid hK; clear hK) | ((with_reducible refine gI ?_); first | refine wpI_skip rfl ?_ | refine wpI_want rfl ?_) | ((with_reducible refine gOnlyK0 HK.out ?_); clear HK K; first | (refine wpI_act (by simp only [Act.put, List.setIfInBounds_toArray, List.set_cons_succ, List.set_cons_zero]; rfl) ?_) | skip) | (with_reducible refine wpI_nil ?_))
        go_roundg (8 - (q + 1))
        case measure => rw [HQ.out]; omega
        case rel =>
          refine ⟨q + 1, rfl, by rw [HQ.out]; omega, by rw [HQ.out]; go_num, ?_⟩
          rw [HQ.out, HN.out]
          exact hO
    · obtain rfl : k = 8 := by omega
      rw [H8.out] at hO
      go_wp2_with (first
        | (go_at_call 51; refine (G2.out _ (hO.rd R2.out)).mono ?_; rintro e ww ⟨rfl, hb⟩; replace hO := hO.call hb; clear hb)
        | ((with_reducible refine gStore (T := 24) ?_); refine stP hO 0 rfl rfl rfl rfl rfl (tS rfl) rfl ?_; clear hO; intro ww hO)
        | (go_at_call 22; (with_reducible refine gCall #[.slice _ _ 0] ?_); refine (G4.out _ (R4.out (by omega) _)).mono ?_; rintro e ww ⟨a4, c4, rfl, hb, hr⟩; replace hO := hO.addRow hb hr; clear hb hr)
        | (go_at_call 22; refine (G3.out _ (hO.rd R3.out)).mono ?_; rintro e ww ⟨a4, c4, rfl, hb, hr⟩; replace hO := hO.addRow hb hr; clear hb hr)
        | ((with_reducible refine gStore (T := 28) ?_); refine stC hO 1 rfl rfl rfl (ltb rfl) rfl (tS rfl) ?_; clear hO; intro ww hO)
        | ((with_reducible refine gLoad (T := 51) ?_); refine ldX hO 1 rfl rfl (tA rfl) (tS rfl) ?_)
        | ((with_reducible refine gStore (T := 51) ?_); refine stX hO 1 rfl rfl rfl rfl rfl (tS rfl) ?_; clear hO; intro ww hO))
      all_goals refine bodyPost_ret (res_ct rfl _ _ bx 51 (boxC nn8 (.slice a4 (len - 24) c4) u) (0,0) _ rfl (hO.blk 1 rfl) Tryd.underlying51 rfl (ibs _ _ _)) rfl ⟨_, _, rfl, hO.below, hO.row 0 rfl⟩
end Go.Proofs.YtniibdglodnhoaaDoor

/- Walks: press.number, Bits. -/
namespace Go.Own
open Go.RowKit
/-- of what a call has made, one thing -/
theorem Own.only' {w0 w : World} {L : List Res} (h : Own w0 w L) {r : Res} (hr : r ∈ L) : Own w0 w [r] :=
  ⟨h.below, fun q hq => by rw [List.mem_singleton] at hq; rw [hq]; exact h.mem r hr, List.pairwise_singleton _ _⟩
end Go.Own
namespace Go.Proofs.YtniibdglodnhoaaDoor
open Go.RowKit Go.Own Go.Bv Go.Ord Go.Eq Go.Opn Go.Pb Go.Mt

theorem pw4 {x : Int} (h : x < 16) : x < 2 ^ 4 := h
theorem pw8 {x : Int} (h : x < 256) : x < 2 ^ 8 := h
theorem ebtz : Elem Tryd.prog 64 87 (.agg zB.C) 2 16 := ⟨Tryd.underlying64, by kernel_rfl, rfl, by decide⟩

set_option maxHeartbeats 2000000 in
set_option maxRecDepth 100000 in
theorem number_calls {w0 w : World} {L : List Res} {a : Option Addr} {m c : Nat} (q : List Bt) (n wide tree : Nat) (hn : n < 2 ^ wide) (hw : wide ≤ 8) (ht : tree ≤ 300) (hm : m ≤ 10000000)
    (hO : Own w0 w (.sl 87 2 (.slice a m c) m (bts q) :: L)) :
    Calls Tryd.prog 42 #[.slice a m c, .int .i64 (n : Int), .int .i64 (wide : Int), .int .i64 (tree : Int)] w fun e w' => ∃ a' c', e = .returned (.slice a' (m + wide) c') ∧
      Own w0 w' (.sl 87 2 (.slice a' (m + wide) c') (m + wide) (bts (q ++ Go.Pz.numT (2 ^ wide + n) tree wide)) :: L) := by
  obtain ⟨N, hN⟩ : ∃ N, 2 ^ wide + n = N := ⟨_, rfl⟩
  have HN := Lib.hid hN
  have HNN := Lib.hid hn
  rw [hN]
  clear hN hn
  have i0 : IntKind.i64.wrap ((wide : Int) - 1) = (wide : Int) - 1 := by rw [IntKind.wrap_i64]; omega
  go_enter Tryd.func42, Tryd.ntmps42
  go_wp2
  go_loopg [0, 9, 10] wide (fun mm s0 s9 s10 wr => ∃ (r : Nat) (z : Int) (v : Nat) (D : List Bt) (aJ : Option Addr) (cJ M : Nat), mm = r ∧ r ≤ wide ∧ s10 = .int .i64 z ∧ z = (r : Int) - 1 ∧ s9 = .int .i64 (v : Int) ∧ Hid (v = N / 2 ^ r) ∧ s0 = .slice aJ M cJ ∧ M + r = m + wide ∧ Hid (D ++ Go.Pz.numT N tree r = Go.Pz.numT N tree wide) ∧
    Own w0 wr (.sl 87 2 (.slice aJ M cJ) M (bts (q ++ D)) :: L))
  case atStart => exact ⟨wide, (wide : Int) - 1, 1, [], a, c, m, rfl, by omega, rfl, rfl, rfl, by
    show _ = _
    rw [← HN.out, Nat.add_comm, Nat.add_div_right _ (Nat.pow_pos (by decide)), Nat.div_eq_of_lt HNN.out], rfl, rfl, rfl, by rw [List.append_nil]; exact hO⟩
  case round =>
    obtain ⟨r, z, v, D, aJ, cJ, M, hmm, hr, rfl, hz, rfl, HV, rfl, hM, HD, hO1⟩ := hrel
    clear hO i0
    have hO := hO1
    clear hO1
    by_cases hr0 : 0 < r
    · obtain ⟨k, rfl⟩ : ∃ k, r = k + 1 := ⟨r - 1, by omega⟩
      obtain rfl : z = (k : Int) := by omega
      clear hz
      obtain ⟨bt, hbt⟩ : ∃ bt, N / 2 ^ k % 2 = bt := ⟨_, rfl⟩
      have hb2 : bt < 2 := by rw [← hbt]; exact Nat.mod_lt _ (by decide)
      have hnk : n / 2 ^ k < 256 := Nat.lt_of_le_of_lt (Nat.div_le_self _ _) (Nat.lt_of_lt_of_le HNN.out (Nat.le_trans (Nat.pow_le_pow_right (by decide) hw) (by decide)))
      have hN2 : N < 512 := by
        rw [← HN.out]
        have h1 := HNN.out
        have h2 : 2 ^ wide ≤ 256 := Nat.le_trans (Nat.pow_le_pow_right (by decide) hw) (by decide)
        omega
      have hv : v ≤ 512 := by rw [HV.out]; exact Nat.le_trans (Nat.div_le_self _ _) (by omega)
      have e1 : bits .and .i64 ((n : Int) / 2 ^ k) 1 = (bt : Int) := by
        have h := Go.Pz.and1_i64 (n / 2 ^ k) (by omega)
        rw [Go.Pz.bit_same HN.out (by omega), hbt] at h
        rw [← h]; push_cast; rfl
      have e4 : bits .or .i64 ((v : Int) * 2) (bt : Int) = ((v * 2 + bt : Nat) : Int) := Go.Pz.or1_i64 v bt (by omega) hb2
      have HV2 : Hid (v * 2 + bt = N / 2 ^ k) := by show _ = _; rw [HV.out, ← hbt]; exact Go.Pz.node_next N k
      have HD2 : Hid ((D ++ [(⟨(tree : Int) + (v : Int), decide (bt = 1)⟩ : Bt)]) ++ Go.Pz.numT N tree k = Go.Pz.numT N tree wide) := by
        show _ = _
        rw [← HD.out, List.append_assoc, ← Int.natCast_add, HV.out, ← hbt]; rfl
      have e3 : ((bt : Int) == 1) = decide (bt = 1) := by
        rw [Bool.eq_iff_iff]; simp; omega
      have HQ : Hid (bts (q ++ (D ++ [(⟨(tree : Int) + (v : Int), decide (bt = 1)⟩ : Bt)])) = bts (q ++ D) ++ bts [(⟨(tree : Int) + (v : Int), decide (bt = 1)⟩ : Bt)]) := by
        show _ = _
        rw [← List.append_assoc, bts_append]
      clear hbt hnk hN2
      obtain ⟨B, hB⟩ : ∃ B, decide (bt = 1) = B := ⟨_, rfl⟩
      rw [hB] at e3 HD2 HQ
      clear hB
      have i3 : IntKind.i64.wrap ((k : Int) - 1) = (k : Int) - 1 := by rw [IntKind.wrap_i64]; omega
      have hMb : M ≤ 10000100 := by omega
      go_wp2_with (first
        | ((with_reducible refine gBuild (T := 64) ?_); refine own_build hO 64 1 _ ebtz (bts [(⟨(tree : Int) + (v : Int), B⟩ : Bt)]).toArray (by omega) (by omega) (by kernel_rfl) rfl ?_; clear hO; intro g ww hO)
        | ((with_reducible refine gAppend ?_); refine own_append hO 1 _ _ 64 ebtz rfl rfl rfl (hO.rdAt 0 rfl) (bts_one _) (M + 1) rfl (by simp [maxLen]; omega) (by omega) ?_; clear hO; intro a2 c2 ww hO))
      go_roundg k
      case measure => omega
      case rel => exact ⟨k, (k : Int) - 1, v * 2 + bt, D ++ [(⟨(tree : Int) + (v : Int), B⟩ : Bt)], a2, c2, M + 1, rfl, by omega, by go_num, rfl, rfl, HV2.out, rfl, by omega, HD2.out, by rw [HQ.out]; exact hO.tail⟩
    · obtain rfl : r = 0 := by omega
      have d2 : decide (0 ≤ z) = false := decide_eq_false (by omega)
      obtain rfl : M = m + wide := by omega
      have HDD : Hid (D = Go.Pz.numT N tree wide) := by
        have h := HD.out
        show _ = _
        rw [← h]; simp [Go.Pz.numT]
      rw [HDD.out] at hO
      go_wp2
      go_ret
      exact ⟨aJ, cJ, rfl, hO⟩

/-- the three calls as they stand -/
theorem number_lit {w0 w : World} {L : List Res} {a : Option Addr} {m c : Nat} (q : List Bt) (x : BitVec 8) (hm : m ≤ 10000000) (hO : Own w0 w (.sl 87 2 (.slice a m c) m (bts q) :: L)) :
    Calls Tryd.prog 42 #[.slice a m c, .int .i64 (x.toNat : Int), .int .i64 8, .int .i64 0] w fun e w' => ∃ a' c', e = .returned (.slice a' (m + 8) c') ∧
      Own w0 w' (.sl 87 2 (.slice a' (m + 8) c') (m + 8) (bts (q ++ Go.Pz.numT (256 + x.toNat) 0 8)) :: L) :=
  number_calls q x.toNat 8 0 x.isLt (by omega) (by omega) hm hO
theorem number_int {w0 w : World} {L : List Res} {a : Option Addr} {m c : Nat} (q : List Bt) (x : Int) (wide tree : Nat) (h0 : 0 ≤ x) (h1 : x < 2 ^ wide) (hw : wide ≤ 8) (ht : tree ≤ 300) (hm : m ≤ 10000000) (hO : Own w0 w (.sl 87 2 (.slice a m c) m (bts q) :: L)) :
    Calls Tryd.prog 42 #[.slice a m c, .int .i64 x, .int .i64 (wide : Int), .int .i64 (tree : Int)] w fun e w' => ∃ a' c', e = .returned (.slice a' (m + wide) c') ∧
      Own w0 w' (.sl 87 2 (.slice a' (m + wide) c') (m + wide) (bts (q ++ Go.Pz.numT (2 ^ wide + x.toNat) tree wide)) :: L) := by
  obtain ⟨n, rfl⟩ : ∃ n : Nat, x = (n : Int) := ⟨x.toNat, by omega⟩
  rw [Int.toNat_natCast]
  exact number_calls q n wide tree (by exact_mod_cast h1) hw ht hm hO

set_option maxHeartbeats 8000000 in
set_option maxRecDepth 100000 in
theorem bits_ok (a : Option Addr) (n c : Nat) (l : List Tok) (w : World) (hR : Rd w 3 a n c (tks l)) (hn : n ≤ 65536) (hk : okFrom 0 l) (B : List Bt) (hB : Go.Pz.bitsAll l = B) (K : Nat) (hK : B.length = K) :
    Calls Tryd.prog 25 #[.slice a n c] w fun e w' => ∃ a' c', e = .returned (.tuple #[.slice a' K c', .int .i64 0]) ∧ Below w.heap.size w w' ∧ w'.ownsRow w.heap.size 87 2 (.slice a' K c') K (bts B) := by
  have hO := Own.start w
  have hlen : l.length = n := by have := hR.len; rw [tks_length] at this; omega
  have HC := Lib.hid (fun w h => check_calls a n c l w h 0 (fun _ _ => rfl) (fun h1 => by rcases h1 with h1 | h1; omega; exact absurd hk h1))
  have HR := Lib.hid hR
  have HL := Lib.hid hlen
  have HK := Lib.hid hk
  have HB := Lib.hid hB
  have HKK := Lib.hid hK
  clear hR hlen hk hB hK
  generalize hW : w = wn at hO HR ⊢
  clear hW w
  go_enter Tryd.func25, Tryd.ntmps25
  go_wp2_with (first
    | (go_at_call 41; refine (HC.out _ (hO.rd HR.out)).mono ?_; rintro e ww ⟨rfl, hb⟩; replace hO := hO.call hb; clear hb))
  replace hO : Own wn _ [.sl 87 2 (.slice none 0 0) 0 (bts (Go.Pz.bitsAll (l.take 0)))] := hO.addRow (Below.refl _ _) (World.ownsRow_nil _ _ _ _)
  go_loopg [2, 15] n (fun mm s2 cc wr => ∃ (k M : Nat) (aO : Option Addr) (cO : Nat), mm = n - k ∧ k ≤ n ∧ cc = .int .i64 (k : Int) ∧ s2 = .slice aO M cO ∧ Hid ((Go.Pz.bitsAll (l.take k)).length = M) ∧ Own wn wr [.sl 87 2 (.slice aO M cO) M (bts (Go.Pz.bitsAll (l.take k)))])
  case atStart => exact ⟨0, 0, none, 0, rfl, by omega, rfl, rfl, rfl, hO⟩
  case round =>
    obtain ⟨k, M, aO, cO, rfl, hkn, rfl, rfl, HM, hO1⟩ := hrel
    clear hO
    have hO := hO1
    clear hO1
    by_cases c1 : k < n
    · have d1 : decide ((k : Int) < (n : Int)) = true := decide_eq_true (by omega)
      have hkl : k < l.length := by rw [HL.out]; exact c1
      have ht := List.getElem?_eq_getElem (l := l) (i := k) hkl
      have hbn := Go.Pz.bitsAll_next hkl
      have hokk := ((okFrom_next hkl).1 (okFrom_take (k + 1) HK.out)).2
      generalize l[k] = t at ht hbn hokk
      have hMb : M ≤ 1000000 := by
        have := Go.Pz.bitsAll_length_le (l.take k)
        rw [HM.out, List.length_take] at this
        omega
      have HT := Lib.hid ht
      obtain ⟨b0, off, rfl⟩ := HR.out.place (by omega)
      obtain ⟨Q, hQ⟩ : ∃ Q, Go.Pz.bitsAll (l.take k) = Q := ⟨_, rfl⟩
      rw [hQ] at hO hbn HM
      obtain ⟨lit, len, dist⟩ := t
      have HBN := Lib.hid hbn
      clear ht hkl hbn hQ
      by_cases h0 : len = 0
      · subst h0
        have HN : Hid (Go.Pz.bitsAll (l.take (k + 1)) = (Q ++ [⟨0, false⟩]) ++ Go.Pz.numT (256 + lit.toNat) 0 8) := by
          show _ = _
          rw [HBN.out, List.append_assoc]; rfl
        have HA : Hid (bts (Q ++ [⟨0, false⟩]) = bts Q ++ bts [⟨0, false⟩]) := by show _ = _; rw [bts_append]
        have HNC := Lib.hid (fun (w : World) (L : List Res) (a : Option Addr) (c : Nat) hO => number_lit (w0 := wn) (w := w) (L := L) (a := a) (c := c) (m := M + 1) (Q ++ [⟨0, false⟩]) lit (by omega) hO)
        have HLN : Hid ((Go.Pz.bitsAll (l.take (k + 1))).length = M + 1 + 8) := by
          show _ = _
          rw [HN.out, List.length_append, List.length_append, HM.out, Go.Pz.numT_length]; rfl
        clear hokk
        go_wp2_with (first
          | ((with_reducible refine gAlloc (T := 81) ?_); refine own_alloc hO _ _ itz ?_; clear hO; intro bx ww hO)
          | ((with_reducible refine gLoad (T := 81) ?_); refine ld_tok (hO.rd HR.out) HT.out rfl (by omega) (tA rfl) (tS rfl) ?_)
          | ((with_reducible refine gLoad ?_); first | refine ldX hO 0 rfl rfl (tA rfl) (tS rfl) ?_ | refine ldC hO 0 rfl rfl (tA rfl) rfl ?_ | refine ldX hO 1 rfl rfl (tA rfl) (tS rfl) ?_ | refine ldC hO 1 rfl rfl (tA rfl) rfl ?_)
          | ((with_reducible refine gStore ?_); first | (refine stX hO 0 rfl rfl rfl rfl rfl (tS rfl) ?_; clear hO; intro ww hO) | (refine stC hO 0 rfl rfl rfl (ltb rfl) rfl (tS rfl) ?_; clear hO; intro ww hO))
          | ((with_reducible refine gBuild (T := 64) ?_); refine own_build hO 64 1 _ ebtz (bts [⟨0, false⟩]).toArray (by omega) (by omega) (by kernel_rfl) rfl ?_; clear hO; intro g ww hO)
          | ((with_reducible refine gAppend ?_); refine own_append hO 2 _ _ 64 ebtz rfl rfl rfl (hO.rdAt 0 rfl) (bts_one _) (M + 1) rfl (by simp [maxLen]; omega) (by omega) ?_; clear hO; intro a2 c2 ww hO; replace hO := hO.tail.swap)
          | (go_at_call 42; refine (HNC.out _ _ _ _ (by rw [HA.out]; exact hO)).mono ?_; rintro e ww ⟨a3, c3, rfl, hO2⟩; clear hO; have hO := hO2; clear hO2))
        go_roundg (n - (k + 1))
        case measure => omega
        case rel => exact ⟨k + 1, M + 1 + 8, a3, c3, rfl, by omega, by go_num, rfl, HLN.out, by rw [HN.out]; exact hO.only' (by simp)⟩
      · have hk2 : 3 ≤ len ∧ len ≤ 18 ∧ 1 ≤ dist ∧ dist ≤ 256 := by
          unfold Tok.ok at hokk
          dsimp only at hokk
          omega
        obtain ⟨k3, k4, k5, k6⟩ := hk2
        have HN : Hid (Go.Pz.bitsAll (l.take (k + 1)) = ((Q ++ [⟨0, true⟩]) ++ Go.Pz.numT (16 + (len - 3).toNat) 256 4) ++ Go.Pz.numT (256 + (dist - 1).toNat) 272 8) := by
          show _ = _
          rw [HBN.out]
          unfold Go.Pz.bitsOf
          rw [if_neg h0]
          simp only [List.append_assoc, List.singleton_append, List.cons_append, List.nil_append]
        have HA : Hid (bts (Q ++ [⟨0, true⟩]) = bts Q ++ bts [⟨0, true⟩]) := by show _ = _; rw [bts_append]
        have HNC := Lib.hid (fun (w : World) (L : List Res) (a : Option Addr) (c : Nat) hO => number_int (w0 := wn) (w := w) (L := L) (a := a) (c := c) (m := M + 1) (Q ++ [⟨0, true⟩]) (len - 3) 4 256 (by omega) (pw4 (by omega)) (by omega) (by omega) (by omega) hO)
        have HNC2 := Lib.hid (fun (w : World) (L : List Res) (a : Option Addr) (c : Nat) hO => number_int (w0 := wn) (w := w) (L := L) (a := a) (c := c) (m := M + 1 + 4) ((Q ++ [⟨0, true⟩]) ++ Go.Pz.numT (16 + (len - 3).toNat) 256 4) (dist - 1) 8 272 (by omega) (pw8 (by omega)) (by omega) (by omega) (by omega) hO)
        have HLN : Hid ((Go.Pz.bitsAll (l.take (k + 1))).length = M + 1 + 4 + 8) := by
          show _ = _
          rw [HN.out, List.length_append, List.length_append, List.length_append, HM.out, Go.Pz.numT_length, Go.Pz.numT_length]; rfl
        have d2 : decide ((0 : Int) < len) = true := decide_eq_true (by omega)
        clear hokk h0
        go_wp2_with (first
          | ((with_reducible refine gAlloc (T := 81) ?_); refine own_alloc hO _ _ itz ?_; clear hO; intro bx ww hO)
          | ((with_reducible refine gLoad (T := 81) ?_); refine ld_tok (hO.rd HR.out) HT.out rfl (by omega) (tA rfl) (tS rfl) ?_)
          | ((with_reducible refine gLoad ?_); first | refine ldX hO 0 rfl rfl (tA rfl) (tS rfl) ?_ | refine ldC hO 0 rfl rfl (tA rfl) rfl ?_ | refine ldX hO 1 rfl rfl (tA rfl) (tS rfl) ?_ | refine ldC hO 1 rfl rfl (tA rfl) rfl ?_)
          | ((with_reducible refine gStore ?_); first | (refine stX hO 0 rfl rfl rfl rfl rfl (tS rfl) ?_; clear hO; intro ww hO) | (refine stC hO 0 rfl rfl rfl (ltb rfl) rfl (tS rfl) ?_; clear hO; intro ww hO))
          | ((with_reducible refine gBuild (T := 64) ?_); refine own_build hO 64 1 _ ebtz (bts [⟨0, true⟩]).toArray (by omega) (by omega) (by kernel_rfl) rfl ?_; clear hO; intro g ww hO)
          | ((with_reducible refine gAppend ?_); refine own_append hO 2 _ _ 64 ebtz rfl rfl rfl (hO.rdAt 0 rfl) (bts_one _) (M + 1) rfl (by simp [maxLen]; omega) (by omega) ?_; clear hO; intro a2 c2 ww hO; replace hO := hO.tail.swap)
          | (go_at_call 42; (with_reducible refine gCall #[_, _, .int .i64 4, _] ?_); refine (HNC.out _ _ _ _ (by rw [HA.out]; exact hO)).mono ?_; rintro e ww ⟨a3, c3, rfl, hO2⟩; clear hO; have hO := hO2; clear hO2)
          | (go_at_call 42; (with_reducible refine gCall #[_, _, .int .i64 8, _] ?_); refine (HNC2.out _ _ _ _ hO).mono ?_; rintro e ww ⟨a4, c4, rfl, hO2⟩; clear hO; have hO := hO2; clear hO2))
        go_roundg (n - (k + 1))
        case measure => omega
        case rel => exact ⟨k + 1, M + 1 + 4 + 8, a4, c4, rfl, by omega, by go_num, rfl, HLN.out, by rw [HN.out]; exact hO.only' (by simp)⟩
    · obtain rfl : k = n := by omega
      have HA : Hid (Go.Pz.bitsAll (l.take k) = B) := by show _ = _; rw [List.take_of_length_le (by rw [HL.out]; exact Nat.le_refl _), HB.out]
      rw [HA.out] at hO HM
      obtain rfl : K = M := by rw [← HKK.out, HM.out]
      go_wp2
      go_ret2
      exact ⟨aO, cO, rfl, hO.below, hO.row 0 rfl⟩

set_option maxHeartbeats 1000000 in
theorem bits_bad (a : Option Addr) (n c : Nat) (l : List Tok) (w : World) (hR : Rd w 3 a n c (tks l)) (h : 65536 < n ∨ ¬ okFrom 0 l) :
    Calls Tryd.prog 25 #[.slice a n c] w fun e w' => e = .returned (.tuple #[.slice none 0 0, .int .i64 1]) ∧ Below w.heap.size w w' := by
  have hO := Own.start w
  have HC := Lib.hid (fun w h' => check_calls a n c l w h' 1 (fun h1 h2 => by rcases h with h | h; omega; exact absurd h2 h) (fun _ => rfl))
  have HR := Lib.hid hR
  clear hR h
  generalize hW : w = wn at hO HR ⊢
  clear hW w
  go_enter Tryd.func25, Tryd.ntmps25
  go_wp2_with (first
    | (go_at_call 41; refine (HC.out _ (hO.rd HR.out)).mono ?_; rintro e ww ⟨rfl, hb⟩; replace hO := hO.call hb; clear hb))
  go_ret2
  exact ⟨rfl, hO.below⟩
end Go.Proofs.YtniibdglodnhoaaDoor

/- Walks: press.Pack, Long; live. -/
namespace Go.Proofs.YtniibdglodnhoaaDoor
open Go.RowKit Go.Own Go.Bv Go.Ord Go.Eq Go.Opn Go.Pb Go.Mt

theorem iu8z : (Tryd.prog.info? 5).map (·.size) = some 1 := by kernel_rfl
theorem bits_all {b : List (BitVec 8)} {m : Nat} {l : List Tok} (h : okFrom m l) : (Go.Pz.bitsAll l).all (okI (528 : Nat)) = true := by
  rw [List.all_eq_true]
  intro x hx
  have := Go.Pz.bits_within h x hx
  simp only [okI, Bool.and_eq_true, decide_eq_true_eq]
  omega

set_option maxHeartbeats 1000000 in
theorem tokens_long (a : Option Addr) (n cap : Nat) (w : World) (hn : 65536 < n) :
    Calls Tryd.prog 24 #[.slice a n cap] w fun e w' => e = .returned (.tuple #[.slice none 0 0, .int .i64 3]) ∧ w = w' := by
  have d1 : decide ((65536 : Int) < (n : Int)) = true := by simp; omega
  go_enter Tryd.func24, Tryd.ntmps24
  go_wp2
  refine wp_scope_ghost 0 (fun _ _ _ => False) rfl ?_ ?_
  · intro K hX
    clear hX
    go_wp2
    simp only [Exit.jump]
    go_ret2
    exact ⟨rfl, rfl⟩
  · intro m a' w' h
    exact h.elim

set_option maxHeartbeats 1000000 in
theorem pack_long (a : Option Addr) (n cap : Nat) (w : World) (hn : 65536 < n) :
    Calls Tryd.prog 16 #[.slice a n cap] w fun e w' => e = .returned (.tuple #[.slice none 0 0, .int .i64 3]) ∧ Below w.heap.size w w' := by
  have hO := Own.start w
  have HT := Lib.hid (fun w => tokens_long a n cap w hn)
  clear hn
  generalize hW : w = wn at hO ⊢
  clear hW w
  go_enter Tryd.func16, Tryd.ntmps16
  go_wp2_with (first
    | (go_at_call 24; refine (HT.out _).mono ?_; rintro e ww ⟨rfl, rfl⟩))
  go_ret2
  exact ⟨rfl, hO.below⟩

set_option maxHeartbeats 4000000 in
set_option maxRecDepth 100000 in
theorem pack_ok (a : Option Addr) (n cap : Nat) (bs : List (BitVec 8)) (w : World) (hR : Rd w 1 a n cap (u8s bs)) (hn : n ≤ 65536) (T : List (BitVec 8)) (hT : Go.Pz.packT bs = T) (M : Nat) (hM : T.length = M) :
    Calls Tryd.prog 16 #[.slice a n cap] w fun e w' => ∃ a' c', e = .returned (.tuple #[.slice a' M c', .int .i64 0]) ∧ Below w.heap.size w w' ∧ w'.ownsRow w.heap.size 5 1 (.slice a' M c') M (u8s T) := by
  have hO := Own.start w
  have hlen : bs.length = n := by have := hR.len; rw [u8s_length] at this; omega
  obtain ⟨s1, s2, s3⟩ := tokens_spec bs
  have hbd := told_bounds 0 _ s1
  rw [hlen] at s2
  rw [s2] at hbd
  obtain ⟨L, hL⟩ : ∃ L, tokens bs = L := ⟨_, rfl⟩
  obtain ⟨TN, hTN⟩ : ∃ T, L.length = T := ⟨_, rfl⟩
  obtain ⟨B, hB⟩ : ∃ B, Go.Pz.bitsAll L = B := ⟨_, rfl⟩
  obtain ⟨K, hK⟩ : ∃ K, B.length = K := ⟨_, rfl⟩
  obtain ⟨X, hX⟩ : ∃ X, Go.Kc.encT 528 (Go.Kc.prs B) = X := ⟨_, rfl⟩
  obtain ⟨Y, hY⟩ : ∃ Y, X.length = Y := ⟨_, rfl⟩
  rw [hL] at s1 hbd
  rw [hTN] at hbd
  have hall := bits_all (b := bs) s1
  have hKb : K ≤ 1048576 := by
    have := Go.Pz.bitsAll_length_le L
    rw [hB, hK, hTN] at this
    omega
  have hYb : Y ≤ 10000000 := by
    rw [hB] at hall
    obtain ⟨_, _, _, h4⟩ := Go.Kc.enc_facts (within_ok hall)
    rw [Go.Kc.prs_length, hK] at h4
    rw [← hY, ← hX, Go.Kc.encT_length]
    omega
  have h1 := fun w h => tokens_callsN a n cap bs TN (by rw [hL, hTN]) w h hn
  rw [hL] at h1
  have H1 := Lib.hid h1
  have H2 := Lib.hid (fun (a : Option Addr) (c : Nat) w h => bits_ok a TN c L w h (by omega) s1 B hB K hK)
  have H3 := Lib.hid (fun (a : Option Addr) (c : Nat) w h => encode_ok 528 (by omega) a K c B w h hKb (by rw [← hB]; exact hall) Y X hX hY)
  have HT : Hid (T = Go.Pz.le4 n ++ X) := by
    show _ = _
    rw [← hT]; unfold Go.Pz.packT
    rw [hL, hB, hX, hlen]
  have HM : Hid (M = 4 + Y) := by show _ = _; rw [← hM, HT.out, List.length_append, hY]; rfl
  have HR := Lib.hid hR
  obtain ⟨b0, hb0⟩ : ∃ x, BitVec.ofNat 8 n = x := ⟨_, rfl⟩
  obtain ⟨b1, hb1⟩ : ∃ x, BitVec.ofNat 8 (n / 256) = x := ⟨_, rfl⟩
  obtain ⟨b2, hb2⟩ : ∃ x, BitVec.ofNat 8 (n / 65536) = x := ⟨_, rfl⟩
  obtain ⟨b3, hb3⟩ : ∃ x, BitVec.ofNat 8 (n / 16777216) = x := ⟨_, rfl⟩
  have e0 : IntKind.u8.wrap (n : Int) = (b0.toNat : Int) := by rw [← hb0, BitVec.toNat_ofNat, IntKind.wrap_u8']; omega
  have e1 : IntKind.u8.wrap ((n : Int) / 256) = (b1.toNat : Int) := by rw [← hb1, BitVec.toNat_ofNat, IntKind.wrap_u8']; omega
  have e2 : IntKind.u8.wrap ((n : Int) / 65536) = (b2.toNat : Int) := by rw [← hb2, BitVec.toNat_ofNat, IntKind.wrap_u8']; omega
  have e3 : IntKind.u8.wrap ((n : Int) / 16777216) = (b3.toNat : Int) := by rw [← hb3, BitVec.toNat_ofNat, IntKind.wrap_u8']; omega
  have HLE : Hid (Go.Pz.le4 n = [b0, b1, b2, b3]) := by show _ = _; unfold Go.Pz.le4; rw [hb0, hb1, hb2, hb3]
  clear hR hlen s1 s2 s3 hbd hL hTN hB hK hX hY hall hKb h1 hb0 hb1 hb2 hb3 hT hM
  generalize hW : w = wn at hO HR ⊢
  clear hW w
  go_enter Tryd.func16, Tryd.ntmps16
  go_wp2_with (first
    | (go_at_call 24; refine (H1.out _ (hO.rd HR.out)).mono ?_; rintro e ww ⟨a1, c1, rfl, hb, hr⟩; replace hO := hO.addRow hb hr; clear hb hr)
    | (go_at_call 25; refine (H2.out _ _ _ (rd_clip (hO.rdAt 0 rfl))).mono ?_; rintro e ww ⟨a2, c2, rfl, hb, hr⟩; replace hO := hO.addRow hb hr; clear hb hr)
    | (go_at_call 26; refine (H3.out _ _ _ (hO.rdAt 0 rfl)).mono ?_; rintro e ww ⟨a3, c3, rfl, hb, hr⟩; replace hO := hO.addRow hb hr; clear hb hr)
    | ((with_reducible refine gMake ?_); refine own_makeC hO _ _ 28 eu8 4 (4 + Y) rfl rfl rfl (by go_num) (by omega) (by omega) (by simp [maxLen]; omega) ?_; clear hO; intro g ww hO))
  replace hO : Own wn ww [.sl 5 1 (.slice (some ⟨g, 0, none⟩) 4 (4 + Y)) 4 (u8s [0#8, 0#8, 0#8, 0#8]), .sl 5 1 (.slice a3 Y c3) Y (u8s X)] := by
    have h := hO.take2
    have e : (madeCells (Value.int .u8 0).cells (4 + Y)).toList.take 4 = u8s [0#8, 0#8, 0#8, 0#8] := by
      rw [show (Value.int .u8 0).cells = #[Value.int .u8 0] from rfl, toList_madeCells_one, List.take_replicate]
      rw [show min 4 (4 + Y) = 4 by omega]; rfl
    rw [e] at h
    exact h
  go_loopg [40] 4 (fun mm cc wr => ∃ (k : Nat) (x0 x1 x2 x3 : BitVec 8), mm = 4 - k ∧ k ≤ 4 ∧ cc = .int .i64 (k : Int) ∧ Hid (0 < k → x0 = b0) ∧ Hid (1 < k → x1 = b1) ∧ Hid (2 < k → x2 = b2) ∧ Hid (3 < k → x3 = b3) ∧
    Own wn wr [.sl 5 1 (.slice (some ⟨g, 0, none⟩) 4 (4 + Y)) 4 (u8s [x0, x1, x2, x3]), .sl 5 1 (.slice a3 Y c3) Y (u8s X)])
  case atStart => exact ⟨0, 0#8, 0#8, 0#8, 0#8, rfl, by omega, rfl, fun h => by omega, fun h => by omega, fun h => by omega, fun h => by omega, hO⟩
  case round =>
    obtain ⟨k, x0, x1, x2, x3, rfl, hk, rfl, h0, h1, h2, h3, hO1⟩ := hrel
    clear hO
    have hO := hO1
    clear hO1
    obtain rfl | rfl | rfl | rfl | rfl : k = 0 ∨ k = 1 ∨ k = 2 ∨ k = 3 ∨ k = 4 := by omega
    · clear h0 h1 h2 h3
      go_wp2_with (first
        | ((with_reducible refine gStore (T := 5) ?_); refine own_setElem hO 0 5 _ _ _ rfl rfl rfl (by omega) iu8z rfl ?_; clear hO; intro ww hO))
      go_roundg 3
      case measure => omega
      case rel => exact ⟨1, b0, x1, x2, x3, rfl, by omega, rfl, fun _ => rfl, fun h => by omega, fun h => by omega, fun h => by omega, hO⟩
    · have HH := Lib.hid (h0.out (by omega))
      clear h0 h1 h2 h3
      go_wp2_with (first
        | ((with_reducible refine gStore (T := 5) ?_); refine own_setElem hO 0 5 _ _ _ rfl rfl rfl (by omega) iu8z rfl ?_; clear hO; intro ww hO))
      go_roundg 2
      case measure => omega
      case rel => exact ⟨2, x0, b1, x2, x3, rfl, by omega, rfl, fun _ => HH.out, fun _ => rfl, fun h => by omega, fun h => by omega, hO⟩
    · have HH := Lib.hid (h0.out (by omega))
      have HH1 := Lib.hid (h1.out (by omega))
      clear h0 h1 h2 h3
      go_wp2_with (first
        | ((with_reducible refine gStore (T := 5) ?_); refine own_setElem hO 0 5 _ _ _ rfl rfl rfl (by omega) iu8z rfl ?_; clear hO; intro ww hO))
      go_roundg 1
      case measure => omega
      case rel => exact ⟨3, x0, x1, b2, x3, rfl, by omega, rfl, fun _ => HH.out, fun _ => HH1.out, fun _ => rfl, fun h => by omega, hO⟩
    · have HH := Lib.hid (h0.out (by omega))
      have HH1 := Lib.hid (h1.out (by omega))
      have HH2 := Lib.hid (h2.out (by omega))
      clear h0 h1 h2 h3
      go_wp2_with (first
        | ((with_reducible refine gStore (T := 5) ?_); refine own_setElem hO 0 5 _ _ _ rfl rfl rfl (by omega) iu8z rfl ?_; clear hO; intro ww hO))
      go_roundg 0
      case measure => omega
      case rel => exact ⟨4, x0, x1, x2, b3, rfl, by omega, rfl, fun _ => HH.out, fun _ => HH1.out, fun _ => HH2.out, fun _ => rfl, hO⟩
    · obtain rfl := h0.out (by omega)
      obtain rfl := h1.out (by omega)
      obtain rfl := h2.out (by omega)
      obtain rfl := h3.out (by omega)
      have HF : Hid (u8s [x0, x1, x2, x3] ++ u8s X = u8s T) := by
        show _ = _
        rw [HT.out, HLE.out]; unfold u8s; rw [List.map_append]
      obtain rfl : M = 4 + Y := HM.out
      clear h0 h1 h2 h3 H1 H2 H3
      go_wp2_with (first
        | ((with_reducible refine gAppend ?_); refine own_append hO 0 _ _ 28 eu8 rfl rfl rfl (hO.rdAt 1 rfl) (u8s_one _) (4 + Y) rfl (by simp [maxLen]; omega) (by omega) ?_; clear hO; intro a5 c5 ww hO))
      go_ret2
      rw [HF.out] at hO
      exact ⟨a5, c5, rfl, hO.below, hO.row 0 rfl⟩

set_option maxHeartbeats 4000000 in
set_option maxRecDepth 100000 in
theorem plong_calls (a : Option Addr) (n cap : Nat) (b : List (BitVec 8)) (w : World) (hR : Rd w 1 a n cap (u8s b)) (V : Nat) (E : Int) (hV : Go.Pz.longV b = V) (hE : Go.Pz.longE b = E) :
    Calls Tryd.prog 52 #[.slice a n cap] w fun e w' => e = .returned (.tuple #[.int .i64 (V : Int), .int .i64 E]) ∧ w = w' := by
  have hlen : b.length = n := by have := hR.len; rw [u8s_length] at this; omega
  by_cases h9 : n < 9
  · have d1 : decide ((n : Int) < 9) = true := decide_eq_true (by omega)
    have e1 : V = 0 := by rw [← hV]; unfold Go.Pz.longV; rw [if_pos (by omega)]
    have e2 : E = 2 := by rw [← hE]; unfold Go.Pz.longE; rw [if_pos (by omega)]
    subst e1 e2
    clear hR hV hE hlen h9
    go_enter Tryd.func52, Tryd.ntmps52
    go_wp2
    go_ret2
    exact ⟨rfl, rfl⟩
  · have d1 : decide ((n : Int) < 9) = false := decide_eq_false (by omega)
    obtain ⟨ba, off, rfl⟩ := hR.place (by omega)
    have hG : ∀ j (hj : j < 4), (u8s b)[j]? = some (.int .u8 ((b.getD j 0).toNat : Int)) := fun j hj => by
      have : j < b.length := by omega
      rw [u8s_get b j this]; simp [this]
    have hg0 := hG 0 (by omega)
    have hg1 := hG 1 (by omega)
    have hg2 := hG 2 (by omega)
    have hg3 := hG 3 (by omega)
    have hV' : V = if 65536 < Go.Pz.lg4 b then 0 else Go.Pz.lg4 b := by rw [← hV]; unfold Go.Pz.longV; rw [if_neg (by omega)]
    have hE' : E = if 65536 < Go.Pz.lg4 b then 2 else 0 := by rw [← hE]; unfold Go.Pz.longE; rw [if_neg (by omega)]
    unfold Go.Pz.lg4 at hV' hE'
    have x0l := (b.getD 0 0).isLt
    have x1l := (b.getD 1 0).isLt
    have x2l := (b.getD 2 0).isLt
    have x3l := (b.getD 3 0).isLt
    generalize b.getD 0 0 = x0 at *
    generalize b.getD 1 0 = x1 at *
    generalize b.getD 2 0 = x2 at *
    generalize b.getD 3 0 = x3 at *
    have f0 := Go.Pz.or_i64 0 x0.toNat 0 (by decide) (by omega) x0l
    have f1 := Go.Pz.or_i64 x0.toNat x1.toNat 8 (by omega) (by omega) x1l
    have f2 := Go.Pz.or_i64 (x0.toNat + x1.toNat * 2 ^ 8) x2.toNat 16 (by omega) (by omega) x2l
    have f3 := Go.Pz.or_i64 (x0.toNat + x1.toNat * 2 ^ 8 + x2.toNat * 2 ^ 16) x3.toNat 24 (by omega) (by omega) x3l
    obtain ⟨v1, hv1⟩ : ∃ v, x0.toNat + x1.toNat * 2 ^ 8 = v := ⟨_, rfl⟩
    rw [hv1] at f1 f2 f3
    obtain ⟨v2, hv2⟩ : ∃ v, v1 + x2.toNat * 2 ^ 16 = v := ⟨_, rfl⟩
    rw [hv2] at f2 f3
    obtain ⟨v3, hv3⟩ : ∃ v, v2 + x3.toNat * 2 ^ 24 = v := ⟨_, rfl⟩
    rw [hv3] at f3
    have g0 : bits .or .i64 0 (x0.toNat : Int) = (x0.toNat : Int) := by simpa using f0
    have g1 : bits .or .i64 (x0.toNat : Int) ((x1.toNat : Int) * 256) = (v1 : Int) := by rw [← f1, Int.natCast_mul]; rfl
    have g2 : bits .or .i64 (v1 : Int) ((x2.toNat : Int) * 65536) = (v2 : Int) := by rw [← f2, Int.natCast_mul]; rfl
    have g3 : bits .or .i64 (v2 : Int) ((x3.toNat : Int) * 16777216) = (v3 : Int) := by rw [← f3, Int.natCast_mul]; rfl
    have hv : x0.toNat + 256 * x1.toNat + 65536 * x2.toNat + 16777216 * x3.toNat = v3 := by omega
    rw [hv] at hV' hE'
    have HV := Lib.hid hV'
    have HE := Lib.hid hE'
    have HG0 := Lib.hid hg0
    have HG1 := Lib.hid hg1
    have HG2 := Lib.hid hg2
    have HG3 := Lib.hid hg3
    have HR := Lib.hid hR
    have hmc : n ≤ cap := hR.le
    have hn4 : 4 ≤ n := by omega
    have hmm := Nat.le_trans hR.le hR.max
    unfold maxLen at hmm
    have HO := Own.start w
    clear hR hV hE hlen h9 hG hg0 hg1 hg2 hg3 hV' hE' f0 f1 f2 f3 hv1 hv2 hv3 hv
    go_enter Tryd.func52, Tryd.ntmps52
    go_wp2
    clear d1
    go_loopg [2, 12] 4 (fun mm s2 cc wr => ∃ (k v : Nat), mm = 4 - k ∧ k ≤ 4 ∧ cc = .int .i64 (k : Int) ∧ s2 = .int .i64 (v : Int) ∧ Hid (k = 0 → v = 0) ∧ Hid (k = 1 → v = x0.toNat) ∧ Hid (k = 2 → v = v1) ∧ Hid (k = 3 → v = v2) ∧ Hid (k = 4 → v = v3) ∧ w = wr)
    case atStart => exact ⟨0, 0, rfl, by omega, rfl, rfl, fun _ => rfl, fun h => by omega, fun h => by omega, fun h => by omega, fun h => by omega, rfl⟩
    case round =>
      obtain ⟨k, v, rfl, hk, rfl, rfl, h0, h1, h2, h3, h4, rfl⟩ := hrel
      obtain rfl | rfl | rfl | rfl | rfl : k = 0 ∨ k = 1 ∨ k = 2 ∨ k = 3 ∨ k = 4 := by omega
      · obtain rfl := h0.out rfl
        clear h0 h1 h2 h3 h4
        go_wp2_with (first
          | ((with_reducible refine gLoad (T := 5) ?_); refine ld_rd HR.out rfl HG0.out (tA rfl) ?_))
        go_roundg 3
        case measure => omega
        case rel => exact ⟨1, x0.toNat, rfl, by omega, rfl, rfl, fun h => by omega, fun _ => rfl, fun h => by omega, fun h => by omega, fun h => by omega, rfl⟩
      · obtain rfl := h1.out rfl
        clear h0 h1 h2 h3 h4
        go_wp2_with (first
          | ((with_reducible refine gLoad (T := 5) ?_); refine ld_rd HR.out rfl HG1.out (tA rfl) ?_))
        go_roundg 2
        case measure => omega
        case rel => exact ⟨2, v1, rfl, by omega, rfl, rfl, fun h => by omega, fun h => by omega, fun _ => rfl, fun h => by omega, fun h => by omega, rfl⟩
      · obtain rfl := h2.out rfl
        clear h0 h1 h2 h3 h4
        go_wp2_with (first
          | ((with_reducible refine gLoad (T := 5) ?_); refine ld_rd HR.out rfl HG2.out (tA rfl) ?_))
        go_roundg 1
        case measure => omega
        case rel => exact ⟨3, v2, rfl, by omega, rfl, rfl, fun h => by omega, fun h => by omega, fun h => by omega, fun _ => rfl, fun h => by omega, rfl⟩
      · obtain rfl := h3.out rfl
        clear h0 h1 h2 h3 h4
        go_wp2_with (first
          | ((with_reducible refine gLoad (T := 5) ?_); refine ld_rd HR.out rfl HG3.out (tA rfl) ?_))
        go_roundg 0
        case measure => omega
        case rel => exact ⟨4, v3, rfl, by omega, rfl, rfl, fun h => by omega, fun h => by omega, fun h => by omega, fun h => by omega, fun _ => rfl, rfl⟩
      · obtain rfl := h4.out rfl
        clear h0 h1 h2 h3 h4
        by_cases hb : 65536 < v
        · have d5 : decide ((65536 : Int) < (v : Int)) = true := decide_eq_true (by omega)
          have e1 : V = 0 := by rw [HV.out, if_pos hb]
          have e2 : E = 2 := by rw [HE.out, if_pos hb]
          subst e1 e2
          clear hb HV HE
          go_wp2
          go_ret2
          exact ⟨rfl, rfl⟩
        · have d5 : decide ((65536 : Int) < (v : Int)) = false := decide_eq_false (by omega)
          have e1 : V = v := by rw [HV.out, if_neg hb]
          have e2 : E = 0 := by rw [HE.out, if_neg hb]
          subst e1 e2
          clear hb HV HE
          go_wp2
          go_ret2
          exact ⟨rfl, rfl⟩

theorem pack_nil : Go.Pz.packT [] = [0, 0, 0, 0, 0, 0, 0, 0, 0] := by decide +kernel
end Go.Proofs.YtniibdglodnhoaaDoor
