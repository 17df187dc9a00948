/- Walks: perm.Octets, perm.Of, SameBytes. -/
import Derived.Test.YtniibdglodnhoaaGreatDoorRows
import Derived.Test.YtniibdglodnhoaaGreatDoorPm
namespace Go.Proofs.YtniibdglodnhoaaGreatDoor
open Go.RowKit Go.Own Go.Bv Go.Ord Go.Eq

theorem eu8_8 : Elem Tryz.prog 29 5 (.int .u8 0) 1 1 := ⟨Tryz.underlying29, by kernel_rfl, rfl, by decide⟩
theorem iu8s_8 : (Tryz.prog.info? 5).map (·.size) = some 1 := by kernel_rfl
theorem iu32s : (Tryz.prog.info? 22).map (·.size) = some 1 := by kernel_rfl
theorem iwz : (Tryz.prog.info? 24).bind (·.zero) = some (.agg St.zero.C) := by kernel_rfl
theorem iws : (Tryz.prog.info? 24).map (·.size) = some 4 := by kernel_rfl
theorem iws' (s : St) : (Tryz.prog.info? 24).map (·.size) = some s.C.size := iws
theorem iwu : (Tryz.prog.underlying 24).map (fun d => match d with | .struct _ | .array _ _ => true | _ => false) = some true := by kernel_rfl

theorem shr_oct (x : BitVec 32) (n : Nat) : ((x >>> n).setWidth 8).toNat = x.toNat / 2 ^ n % 256 := by
  simp [Nat.shiftRight_eq_div_pow]
theorem oct_get (s : St) (k : Nat) (hk : k < 16) : (u8s s.octs)[k]? = some (.int .u8 (((s.w (k / 4)).toNat : Int) / ((2 ^ (k % 4 * 8) : Nat) : Int) % 256)) := by
  have h0 : ∀ x : BitVec 32, (x.setWidth 8).toNat = x.toNat / 2 ^ 0 % 256 := by intro x; simp
  obtain rfl | rfl | rfl | rfl | rfl | rfl | rfl | rfl | rfl | rfl | rfl | rfl | rfl | rfl | rfl | rfl : k = 0 ∨ k = 1 ∨ k = 2 ∨ k = 3 ∨ k = 4 ∨ k = 5 ∨ k = 6 ∨ k = 7 ∨ k = 8 ∨ k = 9 ∨ k = 10 ∨ k = 11 ∨ k = 12 ∨ k = 13 ∨ k = 14 ∨ k = 15 := by omega
  all_goals simp [u8s, St.octs, octs4, St.w, St.l, Nat.shiftRight_eq_div_pow]

theorem hi24 (x : BitVec 32) : (x.toNat : Int) / 16777216 % 256 = (x.toNat : Int) / 16777216 := by have := x.isLt; omega

set_option maxHeartbeats 4000000 in
set_option maxRecDepth 100000 in
theorem octets_calls (s : St) (w : World) :
    Calls Tryz.prog 58 #[.agg s.C] w fun e w' => ∃ g, e = .returned (.slice (some ⟨g, 0, none⟩) 16 16) ∧ Below w.heap.size w w' ∧ w'.ownsRow w.heap.size 5 1 (.slice (some ⟨g, 0, none⟩) 16 16) 16 (u8s s.octs) := by
  have hO := Own.start w
  generalize hW : w = wn at hO ⊢
  clear hW w
  go_enter Tryz.func58, Tryz.ntmps58
  go_wp2_with (first
    | ((with_reducible refine gBox ?_); refine own_box hO 24 _ _ rfl ?_; clear hO; intro b w1 hO; replace hO : Own wn w1 [.blk b (.cells s.C 24 (0,0))] := hO)
    | ((with_reducible refine gMake ?_); refine own_make hO _ _ 29 eu8_8 16 rfl rfl rfl rfl (by omega) (by simp [maxLen]) ?_; clear hO; intro g w2 hO))
  go_loopg [8] 16 (fun m c wr => ∃ k : Nat, m = 16 - k ∧ k ≤ 16 ∧ c = .int .i64 k ∧ Own wn wr [.sl 5 1 (.slice (some ⟨g, 0, none⟩) 16 16) 16 (fillK (u8s s.octs) (.int .u8 0) k), .blk b (.cells s.C 24 (0,0))])
  case atStart => exact ⟨0, rfl, by omega, rfl, by rw [fillK_zero, u8s_length, St.octs_length, ← made_u8]; exact hO⟩
  case round =>
    obtain ⟨k, rfl, hk, rfl, hO1⟩ := hrel
    clear hO
    by_cases hlt : k < 16
    · have hg := oct_get s k hlt
      obtain ⟨q, hq⟩ : ∃ q, q = k := ⟨k, rfl⟩
      have c0 : wr.cell? ⟨b, 0, none⟩ = some (.int .u32 (s.a.toNat : Int)) := cell_of_row wr b _ _ _ _ (hO1.blk 1 rfl)
      have c1 : wr.cell? ⟨b, 1, none⟩ = some (.int .u32 (s.b.toNat : Int)) := cell_of_row wr b _ _ _ _ (hO1.blk 1 rfl)
      have c2 : wr.cell? ⟨b, 2, none⟩ = some (.int .u32 (s.c.toNat : Int)) := cell_of_row wr b _ _ _ _ (hO1.blk 1 rfl)
      have c3 : wr.cell? ⟨b, 3, none⟩ = some (.int .u32 (s.d.toNat : Int)) := cell_of_row wr b _ _ _ _ (hO1.blk 1 rfl)
      obtain rfl | rfl | rfl | rfl | rfl | rfl | rfl | rfl | rfl | rfl | rfl | rfl | rfl | rfl | rfl | rfl : k = 0 ∨ k = 1 ∨ k = 2 ∨ k = 3 ∨ k = 4 ∨ k = 5 ∨ k = 6 ∨ k = 7 ∨ k = 8 ∨ k = 9 ∨ k = 10 ∨ k = 11 ∨ k = 12 ∨ k = 13 ∨ k = 14 ∨ k = 15 := by omega
      all_goals
        simp [St.w, St.l, hi24] at hg
        have HG := Lib.hid hg
        clear hg
        go_wp2_with ((with_reducible refine gStore ?_); refine own_setElem hO1 0 5 _ _ _ rfl rfl rfl (by omega) iu8s_8 rfl ?_; clear hO1 c0 c1 c2 c3; intro w3 hO1)
        go_roundg (16 - (q + 1))
        case measure => omega
        case rel =>
          refine ⟨q + 1, rfl, by omega, by subst hq; go_num, ?_⟩
          subst hq
          rw [← fillK_set _ _ _ _ HG.out]
          exact hO1
    · obtain rfl : k = 16 := by omega
      have hall := fillK_all (u8s s.octs) (.int .u8 0)
      rw [u8s_length, St.octs_length] at hall
      rw [hall] at hO1
      clear hall
      go_wp2
      go_ret
      exact ⟨g, rfl, hO1.below, hO1.row 0 rfl⟩

theorem put_fact (s : St) (c : BitVec 8) (k : Nat) (hk : k < 16) : ∃ Y : BitVec 32, Go.bits .or .u32 ((s.w (k / 4)).toNat : Int) ((c.toNat : Int) * ((2 ^ (k % 4 * 8) : Nat) : Int)) = (Y.toNat : Int) ∧ (s.put k (c.setWidth 32)).C = s.C.setIfInBounds (k / 4) (.int .u32 (Y.toNat : Int)) := by
  refine ⟨s.w (k / 4) ||| c.setWidth 32 <<< (k % 4 * 8), ?_, ?_⟩
  · have hs : ((c.setWidth 32 <<< (k % 4 * 8)).toNat : Int) = (c.toNat : Int) * ((2 ^ (k % 4 * 8) : Nat) : Int) := by
      rw [BitVec.toNat_shiftLeft, Nat.shiftLeft_eq, BitVec.toNat_setWidth, Nat.mod_eq_of_lt (a := c.toNat) (by have := c.isLt; omega), Nat.mod_eq_of_lt]
      · norm_cast
      · have h1 : 2 ^ (k % 4 * 8) ≤ 2 ^ 24 := Nat.pow_le_pow_right (by omega) (by omega)
        have h2 := c.isLt
        calc c.toNat * 2 ^ (k % 4 * 8) ≤ 255 * 2 ^ 24 := Nat.mul_le_mul (by omega) h1
          _ < 2 ^ 32 := by decide
    rw [← hs, or32]
  · obtain h | h | h | h : k / 4 = 0 ∨ k / 4 = 1 ∨ k / 4 = 2 ∨ k / 4 = 3 := by omega
    all_goals simp [St.put, h, St.C, St.w, St.l]

set_option maxHeartbeats 4000000 in
set_option maxRecDepth 100000 in
theorem of16_calls (a : Option Addr) (cap : Nat) (bs : List (BitVec 8)) (w : World) (hR : Rd w 1 a 16 cap (u8s bs)) :
    Calls Tryz.prog 68 #[.slice a 16 cap] w fun e w' => e = .returned (.tuple #[.agg (St.of bs).C, .int .i64 0]) ∧ Below w.heap.size w w' := by
  have hO := Own.start w
  have hlen : bs.length = 16 := by have := hR.len; rw [u8s_length] at this; omega
  have HR := Lib.hid hR
  have HL := Lib.hid hlen
  clear hR hlen
  generalize hW : w = wn at hO HR ⊢
  clear hW w
  go_enter Tryz.func68, Tryz.ntmps68
  go_wp2_with ((with_reducible refine gAlloc ?_); refine own_alloc hO 24 _ iwz ?_; clear hO; intro b w1 hO)
  go_loopg [12] 16 (fun m c wr => ∃ k : Nat, m = 16 - k ∧ k ≤ 16 ∧ c = .int .i64 k ∧ Own wn wr [.blk b (.cells (St.part bs k).C 24 (0,0))])
  case atStart => exact ⟨0, rfl, by omega, rfl, hO⟩
  case round =>
    obtain ⟨k, rfl, hk, rfl, hO1⟩ := hrel
    clear hO
    by_cases hlt : k < 16
    · have hb0 : decide ((k : Int) < 16) = true := by simp; omega
      have hkb : k < bs.length := by rw [HL.out]; exact hlt
      obtain ⟨ba, off, ea, _, fa⟩ := HR.out.at' (by omega)
      subst ea
      have hcell : wr.cell? ⟨ba, off + k, none⟩ = some (.int .u8 (bs[k].toNat : Int)) := hO1.oldcell ((fa k (by omega)).trans (u8s_get bs k hkb))
      clear fa
      have HP : Hid (St.part bs (k + 1) = (St.part bs k).put k ((bs[k]).setWidth 32)) := by
        show _ = _
        simp [St.part, List.getD_eq_getElem?_getD, hkb]
      generalize bs[k] = c at *
      generalize St.part bs k = s at *
      obtain ⟨Y, hY, hC⟩ := put_fact s c k hlt
      have HC := Lib.hid hC
      clear hC
      have c8 := lt8 c
      have cn := nn c
      go_wp2
      obtain ⟨q, hq⟩ : ∃ q, q = k := ⟨k, rfl⟩
      clear hcell
      refine wp_region_text (by kernel_rfl) (by kernel_rfl) ?_
      replace hO1 := hO1.drew
      generalize wr.drew = wd at hO1 ⊢
      have c0 : wd.cell? ⟨b, 0, none⟩ = some (.int .u32 (s.a.toNat : Int)) := cell_of_row wd b _ _ _ _ (hO1.blk 0 rfl)
      have c1 : wd.cell? ⟨b, 1, none⟩ = some (.int .u32 (s.b.toNat : Int)) := cell_of_row wd b _ _ _ _ (hO1.blk 0 rfl)
      have c2 : wd.cell? ⟨b, 2, none⟩ = some (.int .u32 (s.c.toNat : Int)) := cell_of_row wd b _ _ _ _ (hO1.blk 0 rfl)
      have c3 : wd.cell? ⟨b, 3, none⟩ = some (.int .u32 (s.d.toNat : Int)) := cell_of_row wd b _ _ _ _ (hO1.blk 0 rfl)
      obtain rfl | rfl | rfl | rfl | rfl | rfl | rfl | rfl | rfl | rfl | rfl | rfl | rfl | rfl | rfl | rfl : k = 0 ∨ k = 1 ∨ k = 2 ∨ k = 3 ∨ k = 4 ∨ k = 5 ∨ k = 6 ∨ k = 7 ∨ k = 8 ∨ k = 9 ∨ k = 10 ∨ k = 11 ∨ k = 12 ∨ k = 13 ∨ k = 14 ∨ k = 15 := by omega
      all_goals
        simp [St.w, St.l] at hY
        go_wp2_with (first
          | ((with_reducible refine gI ?_); refine wpI_step rfl rfl (by first | exact ok_int rfl rfl | exact ok_bool rfl rfl | exact ok_str rfl rfl | exact ok_conv rfl | rfl) ?_; intro _ _) | ((with_reducible refine gI ?_); first | refine wpI_skip rfl ?_ | refine wpI_want rfl ?_) | (with_reducible refine gOnly0 ?_) | (with_reducible refine wpI_nil ?_)
          | ((with_reducible refine gStore ?_); refine own_store hO1 0 22 _ _ b _ s.C 24 (.int .u32 (Y.toNat : Int)) rfl rfl rfl (by show _ < 4; omega) iu32s rfl ?_; clear hO1 c0 c1 c2 c3; intro w2 hO1))
        go_roundg (16 - (q + 1))
        case measure => omega
        case rel =>
          refine ⟨q + 1, rfl, by omega, by subst hq; go_num, ?_⟩
          subst hq
          rw [HP.out, HC.out]
          exact hO1
    · obtain rfl : k = 16 := by omega
      rw [St.part_all] at hO1
      go_wp2_with (first
        | ((with_reducible refine gLoad ?_); refine own_loadAll 24 _ b (St.of bs).C 24 (0,0) (hO1.blk 0 rfl) rfl iwu (iws' _) ?_)
        | ((with_reducible refine gStore ?_); refine own_storeAll hO1 0 24 _ _ b (St.of bs).C (St.of bs).C 24 _ rfl rfl rfl rfl (iws' _) rfl rfl ?_; clear hO1; intro w2 hO1))
      refine bodyPost_ret (res_ct rfl _ _ b 24 (St.of bs).C (0,0) _ rfl (hO1.blk 0 rfl) Tryz.underlying24 rfl (iws' _)) rfl ⟨rfl, hO1.below⟩

set_option maxHeartbeats 1000000 in
set_option maxRecDepth 100000 in
theorem ofno_calls (a : Option Addr) (n cap : Nat) (h16 : n ≠ 16) (w : World) :
    Calls Tryz.prog 68 #[.slice a n cap] w fun e w' => e = .returned (.tuple #[.agg St.zero.C, .int .i64 2]) ∧ Below w.heap.size w w' := by
  have hO := Own.start w
  have b0 : ((n : Int) != 16) = true := by simp; omega
  generalize hW : w = wn at hO ⊢
  clear hW w
  go_enter Tryz.func68, Tryz.ntmps68
  go_wp2_with (first
    | ((with_reducible refine gAlloc ?_); refine own_alloc hO 24 _ iwz ?_; clear hO; intro b w1 hO)
    | ((with_reducible refine gLoad ?_); refine own_loadAll 24 _ b St.zero.C 24 (0,0) (hO.blk 0 rfl) rfl iwu (iws' _) ?_)
    | ((with_reducible refine gStore ?_); refine own_storeAll hO 0 24 _ _ b St.zero.C St.zero.C 24 _ rfl rfl rfl rfl (iws' _) rfl rfl ?_; clear hO; intro w2 hO))
  refine bodyPost_ret (res_ct rfl _ _ b 24 St.zero.C (0,0) _ rfl (hO.blk 0 rfl) Tryz.underlying24 rfl (iws' _)) rfl ⟨rfl, hO.below⟩

def ofT (bs : List (BitVec 8)) : St := if bs.length = 16 then St.of bs else St.zero
def ofE (bs : List (BitVec 8)) : Int := if bs.length = 16 then 0 else 2
theorem of_calls (a : Option Addr) (n cap : Nat) (bs : List (BitVec 8)) (w : World) (hR : Rd w 1 a n cap (u8s bs)) :
    Calls Tryz.prog 68 #[.slice a n cap] w fun e w' => e = .returned (.tuple #[.agg (ofT bs).C, .int .i64 (ofE bs)]) ∧ Below w.heap.size w w' := by
  have hlen : bs.length = n := by have := hR.len; rw [u8s_length] at this; omega
  unfold ofT ofE
  by_cases h : n = 16
  · subst h
    rw [if_pos hlen, if_pos hlen]
    exact of16_calls a cap bs w hR
  · rw [if_neg (by omega), if_neg (by omega)]
    exact ofno_calls a n cap h w

set_option maxHeartbeats 1000000 in
theorem same8_calls (a1 a2 : Option Addr) (n1 c1 n2 c2 : Nat) (b1 b2 : List (BitVec 8)) (w : World) (h1 : Rd w 1 a1 n1 c1 (u8s b1)) (h2 : Rd w 1 a2 n2 c2 (u8s b2)) :
    Calls Tryz.prog 11 #[.slice a1 n1 c1, .slice a2 n2 c2] w fun e w' => e = .returned (.bool (decide (b1 = b2))) ∧ w = w' := by
  have r1 := run_bytes_string (P := Tryz.prog) w Tryz.underlying29 Tryz.underlying5 Tryz.underlying9 h1
  have r2 := run_bytes_string (P := Tryz.prog) w Tryz.underlying29 Tryz.underlying5 Tryz.underlying9 h2
  clear h1 h2
  go_enter Tryz.func11, Tryz.ntmps11
  go_wp2
  go_ret
  exact ⟨by rw [strB_beq]; rfl, rfl⟩

end Go.Proofs.YtniibdglodnhoaaGreatDoor
