/- Walks: the matrix of the check sum's Join. -/
import Derived.Test.YtocanpehkmcndaaL
import Derived.Test.YtocanpehkmcndaaCj
import Derived.Lib.RabinKarpLaws
namespace Go.Proofs.Ytocanpehkmcndaa
open Go.RowKit Go.Own Go.Bv Go.Ord Go.Eq

/-- the first k of 32 numbers are M's, the others N's -/
def mC (M : Nat → BitVec 32) (N : Nat → BitVec 32) (k : Nat) : Array Value := ((List.range 32).map fun i => .int .u32 (((if i < k then M i else N i).toNat : Nat) : Int)).toArray
theorem mC_size (M N : Nat → BitVec 32) (k : Nat) : (mC M N k).size = 32 := by simp [mC]
theorem mC_get (M N : Nat → BitVec 32) (i : Nat) (h : i < 32) : (mC M N 32)[i]? = some (.int .u32 ((M i).toNat : Int)) := by simp [mC, h]
theorem mC_one (M N : Nat → BitVec 32) (k : Nat) : (mC M N k).toList.all (·.oneCell') = true := by
  rw [List.all_eq_true]
  intro u hu
  simp [mC] at hu
  obtain ⟨i, _, rfl⟩ := hu
  rfl
theorem mC_step (M N : Nat → BitVec 32) (k : Nat) (hk : k < 32) : (mC M N k).setIfInBounds k (.int .u32 ((M k).toNat : Int)) = mC M N (k+1) := by
  unfold mC
  apply Array.ext
  · simp
  · intro i h1 h2
    simp at h1 h2
    simp only [List.setIfInBounds_toArray, List.getElem_toArray, List.getElem_set, List.getElem_map, List.getElem_range]
    by_cases hik : k = i
    · subst hik; simp
    · have : i < k + 1 ↔ i < k := by omega
      simp [hik, this]
theorem mC_all (M N N' : Nat → BitVec 32) : mC M N 32 = mC M N' 32 := by
  unfold mC
  rfl
theorem mC_zero : ((List.range 32).map fun _ => Value.int .u32 0).toArray = mC (fun _ => 0#32) (fun _ => 0#32) 0 := by simp [mC]
attribute [irreducible] mC
def Z0 : Nat → BitVec 32 := fun _ => 0#32
theorem imz0 : (Try.prog.info? 48).bind (·.zero) = some (.agg ((List.range 32).map fun _ => Value.int .u32 0).toArray) := by kernel_rfl
theorem imz (M : Nat → BitVec 32) : (Try.prog.info? 48).bind (·.zero) = some (.agg (mC M Z0 0)) := by
  have h : mC M Z0 0 = mC (fun _ => 0#32) (fun _ => 0#32) 0 := by unfold mC; simp [Z0]
  rw [h, ← mC_zero]
  exact imz0
theorem ims : (Try.prog.info? 48).map (·.size) = some 32 := by kernel_rfl

def acc (M : Nat → BitVec 32) (r : BitVec 32) : Nat → BitVec 32
  | 0 => 0#32
  | k + 1 => acc M r k ^^^ (M k &&& -(r >>> k &&& 1#32))

theorem acc_lin (f : BitVec 32 → BitVec 32) (hf : ∀ x y, f (x ^^^ y) = f x ^^^ f y) (r : BitVec 32) : ∀ k, k ≤ 32 → acc (fun i => f (1#32 <<< i)) r k = f (Crc.low k r)
  | 0, _ => by
    have h0 : f 0#32 = 0#32 := by
      have := hf 0#32 0#32
      simp at this
      exact this
    rw [Crc.low_zero, h0]; rfl
  | k + 1, hk => by
    have h0 : f 0#32 = 0#32 := by
      have := hf 0#32 0#32
      simp at this
      exact this
    rw [Crc.low_succ k (by omega), hf, ← acc_lin f hf r k (by omega)]
    show _ ^^^ _ = _
    congr 1
    have hn : r >>> k &&& 1#32 = if (r >>> k).getLsbD 0 then 1#32 else 0#32 := by
      apply BitVec.eq_of_getLsbD_eq
      intro i hi
      rw [BitVec.getLsbD_and]
      by_cases hi0 : i = 0
      · subst hi0; cases (r >>> k).getLsbD 0 <;> simp
      · have h1 : (1#32).getLsbD i = false := by simp [hi0]
        rw [h1]
        cases (r >>> k).getLsbD 0 <;> simp [hi0]
    rw [hn]
    have e : (-1#32 : BitVec 32) = BitVec.allOnes 32 := rfl
    cases (r >>> k).getLsbD 0
    · simp [h0]
    · simp only [if_true, e, BitVec.and_allOnes]
theorem acc_full (f : BitVec 32 → BitVec 32) (hf : ∀ x y, f (x ^^^ y) = f x ^^^ f y) (r : BitVec 32) : acc (fun i => f (1#32 <<< i)) r 32 = f r := by
  rw [acc_lin f hf r 32 (Nat.le_refl _), Crc.low_all]

theorem of_fact (x y r : BitVec 32) (k : Nat) : Go.bits .xor .u32 (x.toNat : Int) (Go.bits .and .u32 (y.toNat : Int) (-Go.bits .and .u32 ((r.toNat : Int) / 2 ^ k) 1 % 4294967296)) = ((x ^^^ (y &&& -(r >>> k &&& 1#32))).toNat : Int) := by
  have h := shr32 r k
  rw [Int.natCast_pow] at h
  have h2 : (1 : Int) = ((1#32).toNat : Int) := rfl
  rw [show ((2 : Int) ^ k) = (((2 : Nat) : Int) ^ k) from rfl, h, h2, and32, neg32, and32, xor32]

set_option maxHeartbeats 1000000 in
set_option maxRecDepth 100000 in
theorem of_calls (b : Nat) (M : Nat → BitVec 32) (r : BitVec 32) (w : World) (hb : w.heap[b]? = some (.cells (mC M Z0 32) 48 (0,0))) :
    Calls Try.prog 23 #[.pointer (some ⟨b, 0, none⟩), .int .u32 (r.toNat : Int)] w fun e w' => e = .returned (.int .u32 ((acc M r 32).toNat : Int)) ∧ Below w.heap.size w w' := by
  have hO := Own.start w
  have HB := Lib.hid hb
  clear hb
  generalize hW : w = wn at hO HB ⊢
  clear hW w
  go_enter Try.func23, Try.ntmps23
  go_wp2
  go_loopg [4, 8] 32 (fun m v c wr => ∃ k : Nat, m = 32 - k ∧ k ≤ 32 ∧ c = .int .i64 k ∧ v = .int .u32 ((acc M r k).toNat : Int) ∧ Own wn wr [])
  case atStart => exact ⟨0, rfl, by omega, rfl, rfl, hO⟩
  case round =>
    obtain ⟨k, rfl, hk, rfl, rfl, hO1⟩ := hrel
    clear hO
    by_cases hlt : k < 32
    · have hb0 : decide ((k : Int) < 32) = true := by simp; omega
      have HS : Hid (acc M r (k + 1) = acc M r k ^^^ (M k &&& -(r >>> k &&& 1#32))) := rfl
      have HG := Lib.hid (mC_get M Z0 k hlt)
      generalize acc M r k = x at *
      generalize M k = y at *
      have HF := Lib.hid (of_fact x y r k)
      go_wp2
      refine wp_region_text (by kernel_rfl) (by kernel_rfl) ?_
      replace hO1 := hO1.drew
      generalize wr.drew = wd at hO1 ⊢
      have hcell : wd.cell? ⟨b, k, none⟩ = some (.int .u32 (y.toNat : Int)) := by
        rw [cell_of_row wd b _ _ _ _ (hO1.old HB.out)]; exact HG.out
      go_wp2_with (first
        | ((with_reducible refine gI ?_); refine wpI_step rfl rfl (by first | exact ok_int rfl rfl | exact ok_bool rfl rfl | exact ok_str rfl rfl | exact ok_conv rfl | rfl) ?_; intro _ _) | ((with_reducible refine gI ?_); first | refine wpI_skip rfl ?_ | refine wpI_want rfl ?_) | (with_reducible refine gOnly0 ?_) | (with_reducible refine wpI_nil ?_))
      go_roundg (32 - (k + 1))
      case measure => omega
      case rel => exact ⟨k + 1, rfl, by omega, by go_num, by rw [HS.out, ← HF.out], hO1⟩
    · obtain rfl : k = 32 := by omega
      go_wp2
      go_ret
      exact ⟨rfl, hO1.below⟩

def sq (M : Nat → BitVec 32) : Nat → BitVec 32 := fun i => acc M (M i) 32

/-- what comes back: a new matrix -/
def RetM (w : World) (M : Nat → BitVec 32) (e : Ending) (w' : World) : Prop :=
  ∃ g, e = .returned (.pointer (some ⟨g, 0, none⟩)) ∧ Below w.heap.size w w' ∧ w.heap.size ≤ g ∧ w'.heap[g]? = some (.cells (mC M Z0 32) 48 (0,0))

set_option maxHeartbeats 1000000 in
set_option maxRecDepth 100000 in
theorem twice_calls (b : Nat) (M : Nat → BitVec 32) (w : World) (hb : w.heap[b]? = some (.cells (mC M Z0 32) 48 (0,0))) :
    Calls Try.prog 24 #[.pointer (some ⟨b, 0, none⟩)] w (RetM w (sq M)) := by
  have hO := Own.start w
  have HB := Lib.hid hb
  clear hb
  generalize hW : w = wn at hO HB ⊢
  clear hW w
  go_enter Try.func24, Try.ntmps24
  go_wp2_with ((with_reducible refine gAlloc ?_); refine own_alloc hO 48 _ (imz (sq M)) ?_; clear hO; intro g w1 hO)
  go_loopg [7] 32 (fun m c wr => ∃ k : Nat, m = 32 - k ∧ k ≤ 32 ∧ c = .int .i64 k ∧ Own wn wr [.blk g (.cells (mC (sq M) Z0 k) 48 (0,0))])
  case atStart => exact ⟨0, rfl, by omega, rfl, hO⟩
  case round =>
    obtain ⟨k, rfl, hk, rfl, hO1⟩ := hrel
    clear hO
    by_cases hlt : k < 32
    · have hb0 : decide ((k : Int) < 32) = true := by simp; omega
      have HS : Hid (sq M k = acc M (M k) 32) := rfl
      have HG := Lib.hid (mC_get M Z0 k hlt)
      have HC := Lib.hid (mC_step (sq M) Z0 k hlt)
      generalize M k = y at *
      go_wp2
      refine wp_region_text (by kernel_rfl) (by kernel_rfl) ?_
      replace hO1 := hO1.drew
      generalize wr.drew = wd at hO1 ⊢
      have hcell : wd.cell? ⟨b, k, none⟩ = some (.int .u32 (y.toNat : Int)) := by
        rw [cell_of_row wd b _ _ _ _ (hO1.old HB.out)]; exact HG.out
      go_wp2_with (first
        | ((with_reducible refine gI ?_); refine wpI_step rfl rfl (by first | exact ok_int rfl rfl | exact ok_bool rfl rfl | exact ok_str rfl rfl | exact ok_conv rfl | rfl) ?_; intro _ _) | ((with_reducible refine gI ?_); first | refine wpI_skip rfl ?_ | refine wpI_want rfl ?_) | (with_reducible refine gOnly0 ?_) | (with_reducible refine wpI_nil ?_)
        | (go_at_call 23; refine (of_calls b M y _ (hO1.old HB.out)).mono ?_; rw [← HS.out]; rintro e w2 ⟨rfl, hb⟩; replace hO1 := hO1.call hb; clear hb hcell)
        | ((with_reducible refine gStore ?_); refine own_store hO1 0 24 _ _ g k (mC (sq M) Z0 k) 48 _ rfl rfl rfl (by rw [mC_size]; exact hlt) iu32s rfl ?_; clear hO1; intro w3 hO1))
      go_roundg (32 - (k + 1))
      case measure => omega
      case rel => exact ⟨k + 1, rfl, by omega, by go_num, by rw [← HC.out]; exact hO1⟩
    · obtain rfl : k = 32 := by omega
      go_wp2
      go_ret
      exact ⟨g, rfl, hO1.below, (hO1.at 0 rfl).1, hO1.blk 0 rfl⟩

/-- the matrix of so many zeros -/
def ZM (c : Nat) : Nat → BitVec 32 := fun i => Crc.zp c (1#32 <<< i)
theorem sq_ZM (c : Nat) : sq (ZM c) = ZM (c + c) := by
  funext i
  show acc (fun i => Crc.zp c (1#32 <<< i)) (Crc.zp c (1#32 <<< i)) 32 = _
  rw [acc_full (Crc.zp c) (Crc.zp_xor c), ← Crc.zp_add]
  rfl
theorem acc_ZM (c : Nat) (r : BitVec 32) : acc (ZM c) r 32 = Crc.zp c r := acc_full (Crc.zp c) (Crc.zp_xor c) r

theorem half_even {e c m n : Nat} (h : e + c * m = n) (h1 : m % 2 = 0) : e + (c + c) * (m / 2) = n := by
  obtain ⟨q, rfl⟩ : ∃ q, m = 2 * q := ⟨m / 2, by omega⟩
  rw [show 2 * q / 2 = q by omega, Nat.add_mul]
  rw [Nat.mul_left_comm] at h
  omega
theorem half_odd {e c m n : Nat} (h : e + c * m = n) (h1 : m % 2 = 1) : e + c + (c + c) * (m / 2) = n := by
  obtain ⟨q, rfl⟩ : ∃ q, m = 2 * q + 1 := ⟨m / 2, by omega⟩
  rw [show (2 * q + 1) / 2 = q by omega, Nat.add_mul]
  rw [Nat.mul_add, Nat.mul_left_comm] at h
  omega
theorem one_shl (k : Nat) (hk : k < 32) : ∃ R : BitVec 32, (2 : Int) ^ k % 4294967296 = (R.toNat : Int) ∧ R = 1#32 <<< k := by
  refine ⟨_, ?_, rfl⟩
  rw [BitVec.toNat_shiftLeft, Nat.shiftLeft_eq]
  simp

set_option maxHeartbeats 1000000 in
set_option maxRecDepth 100000 in
theorem join_calls (x y : BitVec 32) (n : Nat) (hn : n ≤ 65536) (w : World) :
    Calls Try.prog 18 #[.int .u32 (x.toNat : Int), .int .u32 (y.toNat : Int), .int .i64 (n : Int)] w fun e w' => e = .returned (.tuple #[.int .u32 ((Crc.zp n x ^^^ y).toNat : Int), .int .i64 0]) ∧ Below w.heap.size w w' := by
  have hO := Own.start w
  obtain ⟨V, hV⟩ : ∃ V, Crc.zp n x ^^^ y = V := ⟨_, rfl⟩
  rw [hV]
  have HV := Lib.hid hV
  clear hV
  have b0 : decide ((n : Int) < 0) = false := by simp
  have b1 : decide ((65536 : Int) < (n : Int)) = false := by simp; omega
  generalize hW : w = wn at hO ⊢
  clear hW w
  go_enter Try.func18, Try.ntmps18
  go_wp2_with ((with_reducible refine gAlloc ?_); refine own_alloc hO 48 _ (imz (ZM 1)) ?_; clear hO; intro g w1 hO)
  go_loopg [17] 32 (fun m c wr => ∃ k : Nat, m = 32 - k ∧ k ≤ 32 ∧ c = .int .i64 k ∧ Own wn wr [.blk g (.cells (mC (ZM 1) Z0 k) 48 (0,0))])
  case atStart => exact ⟨0, rfl, by omega, rfl, hO⟩
  case round =>
    obtain ⟨k, rfl, hk, rfl, hO1⟩ := hrel
    clear hO
    by_cases hlt : k < 32
    · have hb0 : decide ((k : Int) < 32) = true := by simp; omega
      have HC := Lib.hid (mC_step (ZM 1) Z0 k hlt)
      have HZ : Hid (ZM 1 k = Crc.step (1#32 <<< k) [0#8]) := rfl
      obtain ⟨R, hp2, hR⟩ := one_shl k hlt
      rw [← hR] at HZ
      clear hR
      go_wp2
      refine wp_region_text (by kernel_rfl) (by kernel_rfl) ?_
      replace hO1 := hO1.drew
      generalize wr.drew = wd at hO1 ⊢
      go_wp2_with (first
        | ((with_reducible refine gI ?_); refine wpI_step rfl rfl (by first | exact ok_int rfl rfl | exact ok_bool rfl rfl | exact ok_str rfl rfl | exact ok_conv rfl | rfl) ?_; intro _ _) | ((with_reducible refine gI ?_); first | refine wpI_skip rfl ?_ | refine wpI_want rfl ?_) | (with_reducible refine gOnly0 ?_) | (with_reducible refine wpI_nil ?_)
        | ((with_reducible refine gBuild ?_); refine own_build hO1 22 1 _ eu8 #[.int .u8 0] (by omega) (by omega) (by simp [go_sem, Instr.fill]) rfl ?_; clear hO1; intro g2 w2 hO1)
        | (go_at_call 13; refine (step_calls R _ _ _ [0#8] _ (hO1.rdAt 0 rfl)).mono ?_; rw [← HZ.out]; rintro e w3 ⟨rfl, hb⟩; replace hO1 := hO1.call hb; clear hb)
        | ((with_reducible refine gStore ?_); refine own_store hO1 1 24 _ _ g k (mC (ZM 1) Z0 k) 48 _ rfl rfl rfl (by rw [mC_size]; exact hlt) iu32s rfl ?_; clear hO1; intro w4 hO1))
      go_roundg (32 - (k + 1))
      case measure => omega
      case rel => exact ⟨k + 1, rfl, by omega, by go_num, by rw [← HC.out]; exact hO1.tail⟩
    · obtain rfl : k = 32 := by omega
      go_wp2
      go_loopg [0, 2, 8] n (fun m v0 v2 v8 wr => ∃ (e c g' : Nat), v0 = .int .u32 ((Crc.zp e x).toNat : Int) ∧ v2 = .int .i64 (m : Int) ∧ v8 = .pointer (some ⟨g', 0, none⟩) ∧ Hid (e + c * m = n) ∧ m ≤ n ∧ Own wn wr [.blk g' (.cells (mC (ZM c) Z0 32) 48 (0,0))])
      case atStart => exact ⟨0, 1, g, rfl, rfl, rfl, by show 0 + 1 * n = n; omega, Nat.le_refl _, hO1⟩
      case round =>
        obtain ⟨e, c, g', rfl, rfl, rfl, HE, hmn, hO2⟩ := hrel
        obtain ⟨m, hm⟩ : ∃ m, m = gk := ⟨_, rfl⟩
        subst hm
        clear hO1
        by_cases h0 : m = 0
        · subst h0
          have he : e = n := by have := HE.out; omega
          subst he
          have hx := xor32 (Crc.zp e x) y
          rw [HV.out] at hx
          generalize Crc.zp e x = z at *
          go_wp2
          go_ret2
          exact ⟨rfl, hO2.below⟩
        · have hb0 : decide ((0 : Int) < (m : Int)) = true := by simp; omega
          have hand := Go.Proofs.and_one m (by omega)
          have HA := Lib.hid (acc_ZM c (Crc.zp e x))
          rw [← Crc.zp_add] at HA
          rcases Nat.mod_two_eq_zero_or_one m with h1 | h1
          all_goals
            rw [h1] at hand
            generalize hz : Crc.zp e x = z at HA ⊢
            have HZ := Lib.hid hz
            clear hz
            go_wp2_with (first
              | (go_at_call 23; refine (of_calls g' (ZM c) z _ (hO2.blk 0 rfl)).mono ?_; rw [HA.out]; rintro e w2 ⟨rfl, hb⟩; replace hO2 := hO2.call hb; clear hb)
              | (go_at_call 24; refine (twice_calls g' (ZM c) _ (hO2.blk 0 rfl)).mono ?_; rw [sq_ZM]; rintro e w3 ⟨g3, rfl, hb, hge, hg⟩; replace hO2 := hO2.add (r := .blk g3 _) hb ⟨hge, hg⟩; clear hb hge hg))
            go_roundg (m / 2)
            case measure => omega
          case rel => exact ⟨e, c + c, g3, by rw [HZ.out], rfl, rfl, half_even HE.out h1, by omega, hO2.sub (by simp)⟩
          case rel => exact ⟨e + c, c + c, g3, rfl, rfl, rfl, half_odd HE.out h1, by omega, hO2.sub (by simp)⟩
end Go.Proofs.Ytocanpehkmcndaa
