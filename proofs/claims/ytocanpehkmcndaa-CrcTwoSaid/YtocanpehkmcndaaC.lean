/- Walks: crc.half, table, Step, Sum. -/
import Derived.Test.YtocanpehkmcndaaRows
import Derived.Test.YtocanpehkmcndaaE
import Derived.Test.YtocanpehkmcndaaB
import Derived.Test.YtocanpehkmcndaaCm
namespace Go.Proofs.Ytocanpehkmcndaa
open Go.RowKit Go.Own Go.Bv

theorem half_bv (r : BitVec 32) : Go.bits .xor .u32 ((r.toNat : Int) / 2) (Go.bits .and .u32 3988292384 ((-(Go.bits .and .u32 (r.toNat : Int) 1)) % 4294967296)) = ((Crc.half r).toNat : Int) := by
  have h1 : (3988292384 : Int) = ((3988292384#32).toNat : Int) := rfl
  have h2 : (1 : Int) = ((1#32).toNat : Int) := rfl
  have h3 := shr32 r 1
  simp only [Nat.pow_one] at h3
  have h4 : ((2 : Nat) : Int) = 2 := rfl
  rw [h4] at h3
  rw [h1, h2, and32, neg32, and32, h3, xor32]
  rfl

set_option maxHeartbeats 400000 in
theorem half_calls (r : BitVec 32) (w : World) :
    Calls Try.prog 25 #[.int .u32 (r.toNat : Int)] w fun e w' => e = .returned (.int .u32 ((Crc.half r).toNat : Int)) ∧ w = w' := by
  go_enter Try.func25, Try.ntmps25
  go_wp2
  go_ret
  exact ⟨by rw [half_bv]; rfl, rfl⟩

def tabC (k : Nat) : Array Value := ((List.range 256).map fun i => .int .u32 (if i < k then ((Crc.tab (BitVec.ofNat 8 i)).toNat : Int) else 0)).toArray

theorem tabC_step (k : Nat) (hk : k < 256) : (tabC k).setIfInBounds k (.int .u32 ((Crc.halves 8 (BitVec.ofNat 32 k)).toNat : Int)) = tabC (k+1) := by
  have hs : (BitVec.ofNat 8 k).setWidth 32 = BitVec.ofNat 32 k := by
    apply BitVec.eq_of_toNat_eq
    simp only [BitVec.toNat_setWidth, BitVec.toNat_ofNat]
    omega
  unfold tabC
  apply Array.ext
  · simp
  · intro i h1 h2
    simp at h1 h2
    simp only [List.setIfInBounds_toArray, List.getElem_toArray, List.getElem_set, List.getElem_map, List.getElem_range]
    by_cases hik : k = i
    · subst hik; simp [Crc.tab, hs]
    · have : i < k + 1 ↔ i < k := by omega
      simp [hik, this]
theorem tabC_size (k : Nat) : (tabC k).size = 256 := by simp [tabC]
theorem tabC_get (i : BitVec 8) : (tabC 256)[i.toNat]? = some (.int .u32 ((Crc.tab i).toNat : Int)) := by
  have := i.isLt
  have hi : BitVec.ofNat 8 i.toNat = i := by simp
  unfold tabC
  simp [hi, this]
theorem tabC_one (k : Nat) : (tabC k).toList.all (·.oneCell') = true := by
  rw [List.all_eq_true]
  intro u hu
  simp [tabC] at hu
  obtain ⟨i, _, rfl⟩ := hu
  rfl

attribute [irreducible] tabC
theorem itabz : (Try.prog.info? 41).bind (·.zero) = some (.agg (tabC 0)) := by kernel_rfl
theorem itabs : (Try.prog.info? 41).map (·.size) = some 256 := by kernel_rfl
theorem itabs' (k : Nat) : (Try.prog.info? 41).map (·.size) = some (tabC k).size := by rw [tabC_size]; exact itabs
theorem itabu : (Try.prog.underlying 41).map (fun d => match d with | .struct _ | .array _ _ => true | _ => false) = some true := by kernel_rfl
theorem iu32s : (Try.prog.info? 24).map (·.size) = some 1 := by kernel_rfl

theorem k32 (k : Nat) (hk : k < 256) : (k : Int) = ((BitVec.ofNat 32 k).toNat : Int) := by
  rw [BitVec.toNat_ofNat]; omega

set_option maxHeartbeats 1000000 in
set_option maxRecDepth 100000 in
theorem table_calls (w : World) :
    Calls Try.prog 20 #[] w fun e w' => e = .returned (.agg (tabC 256)) ∧ Below w.heap.size w w' := by
  have hO := Own.start w
  generalize hW : w = wn at hO ⊢
  clear hW w
  go_enter Try.func20, Try.ntmps20
  go_wp2_with ((with_reducible refine gAlloc ?_); refine own_alloc hO 41 _ itabz ?_; clear hO; intro b w1 hO)
  go_loopg [3] 256 (fun n c wr => ∃ k : Nat, n = 256 - k ∧ k ≤ 256 ∧ c = .int .i64 k ∧ Own wn wr [.blk b (.cells (tabC k) 41 (0,0))])
  case atStart => exact ⟨0, rfl, by omega, rfl, hO⟩
  case round =>
    obtain ⟨k, rfl, hk, rfl, hO1⟩ := hrel
    clear hO
    by_cases hlt : k < 256
    · have hb : decide ((k : Int) < 256) = true := by simp; omega
      have hk32 := k32 k hlt
      have HK := Lib.hid hk32
      clear hk32
      go_wp2
      go_loopg [2, 8] 8 (fun n r c wr2 => ∃ j : Nat, n = 8 - j ∧ j ≤ 8 ∧ c = .int .i64 j ∧ r = .int .u32 ((Crc.halves j (BitVec.ofNat 32 k)).toNat : Int) ∧ wr2 = wr)
      case atStart => exact ⟨0, rfl, by omega, rfl, by rw [HK.out]; rfl, rfl⟩
      case round =>
        obtain ⟨j, rfl, hj, rfl, rfl, rfl⟩ := hrel
        by_cases hjl : j < 8
        · go_wp2_with (go_at_call 25; refine (half_calls _ _).mono ?_; rintro e w' ⟨rfl, rfl⟩)
          go_roundg (8 - (j + 1))
          case measure => omega
          case rel => exact ⟨j + 1, rfl, by omega, by go_num, rfl, rfl⟩
        · obtain rfl : j = 8 := by omega
          go_wp2_with ((with_reducible refine gStore ?_); refine own_store hO1 0 24 _ _ b k (tabC k) 41 _ rfl rfl rfl (by rw [tabC_size]; exact hlt) iu32s rfl ?_; clear hO1; intro w2 hO1)
          go_roundg (256 - (k + 1))
          case measure => omega
          case rel => exact ⟨k + 1, rfl, by omega, by go_num, by rw [← tabC_step k hlt]; exact hO1⟩
    · obtain rfl : k = 256 := by omega
      go_wp2_with (first | ((with_reducible refine gLoad ?_); refine own_loadAll 41 _ b (tabC 256) 41 (0,0) (hO1.blk 0 rfl) rfl itabu (itabs' _) ?_) | ((with_reducible refine gStore ?_); refine own_storeAll hO1 0 41 _ _ b (tabC 256) (tabC 256) 41 _ rfl rfl rfl rfl (itabs' _) (by rw [tabC_size]) (tabC_one _) ?_; clear hO1; intro w2 hO1))
      refine bodyPost_ret (results_cell_row rfl _ _ b 41 (tabC 256) (0,0) _ rfl (hO1.blk 0 rfl) Try.underlying41 rfl (itabs' _)) rfl ⟨rfl, hO1.below⟩

theorem step_take (r : BitVec 32) (b : List (BitVec 8)) (k : Nat) (h : k < b.length) : Crc.step r (b.take (k + 1)) = Crc.step1 (Crc.step r (b.take k)) b[k] := by
  unfold Crc.step
  rw [List.take_succ_eq_append_getElem h, List.foldl_append]
  rfl

theorem step1_facts (X : BitVec 32) (c : BitVec 8) : ∃ (y z : BitVec 8) (t s r2 : BitVec 32), (X.toNat : Int) % 256 = (y.toNat : Int) ∧ Go.bits .xor .u8 (y.toNat : Int) (c.toNat : Int) = (z.toNat : Int) ∧ (z.toNat : Int) < 256 ∧
    (tabC 256)[z.toNat]? = some (.int .u32 (t.toNat : Int)) ∧ (X.toNat : Int) / 256 = (s.toNat : Int) ∧ Go.bits .xor .u32 (t.toNat : Int) (s.toNat : Int) = (r2.toNat : Int) ∧ r2 = Crc.step1 X c :=
  ⟨X.setWidth 8, X.setWidth 8 ^^^ c, _, X >>> 8, _, low8 X, xor8 _ _, lt8 _, tabC_get _, shr32 X 8, xor32 _ _, rfl⟩

set_option maxHeartbeats 1000000 in
set_option maxRecDepth 100000 in
theorem step_calls (r : BitVec 32) (a : Option Addr) (n cap : Nat) (bs : List (BitVec 8)) (w : World) (hR : Rd w 1 a n cap (u8s bs)) :
    Calls Try.prog 13 #[.int .u32 (r.toNat : Int), .slice a n cap] w fun e w' => e = .returned (.int .u32 ((Crc.step r bs).toNat : Int)) ∧ Below w.heap.size w w' := by
  have hO := Own.start w
  have hlen : bs.length = n := by have := hR.len; rw [u8s_length] at this; omega
  have hmax : n ≤ maxLen := Nat.le_trans hR.le hR.max
  unfold maxLen at hmax
  have hR' := Lib.hid hR
  clear hR
  generalize hW : w = wn at hO hR' ⊢
  clear hW w
  have HL := Lib.hid hlen
  clear hlen
  go_enter Try.func13, Try.ntmps13
  go_wp2_with (first
    | (go_at_call 20; refine (table_calls _).mono ?_; rintro e w1 ⟨rfl, hb⟩; replace hO := hO.call hb; clear hb)
    | ((with_reducible refine gAlloc ?_); refine own_alloc hO 41 _ itabz ?_; clear hO; intro b w2 hO)
    | ((with_reducible refine gStore ?_); refine own_storeAll hO 0 41 _ _ _ (tabC 0) (tabC 256) 41 _ rfl rfl rfl rfl (itabs' _) (by rw [tabC_size, tabC_size]) (tabC_one _) ?_; clear hO; intro w3 hO))
  go_loopg [0, 11] n (fun m r' c wr => ∃ k : Nat, m = n - k ∧ k ≤ n ∧ c = .int .i64 k ∧ r' = .int .u32 ((Crc.step r (bs.take k)).toNat : Int) ∧ Own wn wr [.blk b (.cells (tabC 256) 41 (0,0))])
  case atStart => exact ⟨0, rfl, by omega, rfl, by simp [Crc.step], hO⟩
  case round =>
    obtain ⟨k, rfl, hk, rfl, rfl, hO1⟩ := hrel
    clear hO
    by_cases hlt : k < n
    · have hkb : k < bs.length := by rw [HL.out]; exact hlt
      have HS := Lib.hid (step_take r bs k hkb)
      obtain ⟨ba, off, ha, hbl, hc⟩ := hR'.out.at' (by omega)
      subst ha
      have hcell : wr.cell? ⟨ba, off + k, none⟩ = some (.int .u8 (bs[k].toNat : Int)) := hO1.oldcell ((hc k (by omega)).trans (u8s_get bs k hkb))
      clear hc hbl
      generalize hX : Crc.step r (bs.take k) = X at *
      generalize hC : bs[k] = c at *
      obtain ⟨y, z, t, s, r2, e1, e2, b2, e3, e4, e5, hr2⟩ := step1_facts X c
      have HR := Lib.hid hr2
      clear hr2
      have e3' : wr.cell? ⟨b, z.toNat, none⟩ = some (.int .u32 (t.toNat : Int)) := by
        rw [cell_of_row wr b _ _ _ _ (hO1.blk 0 rfl)]; exact e3
      clear e3
      have HC := Lib.hid hC
      have HX := Lib.hid hX
      clear hC hX
      go_wp2
      go_roundg (n - (k + 1))
      case measure => omega
      case rel => exact ⟨k + 1, rfl, by omega, by go_num, by rw [HS.out, ← HR.out], hO1⟩
    · obtain rfl : k = n := by omega
      have ht : bs.take k = bs := List.take_of_length_le (by rw [HL.out]; omega)
      rw [ht]
      go_wp2
      go_ret
      exact ⟨rfl, hO1.below⟩

set_option maxHeartbeats 400000 in
theorem sum_calls (a : Option Addr) (n cap : Nat) (bs : List (BitVec 8)) (w : World) (hR : Rd w 1 a n cap (u8s bs)) :
    Calls Try.prog 9 #[.slice a n cap] w fun e w' => e = .returned (.int .u32 ((Crc.sum bs).toNat : Int)) ∧ Below w.heap.size w w' := by
  have hR' := Lib.hid hR
  clear hR
  have e5 : Go.bits .xor .u32 ((Crc.step 4294967295#32 bs).toNat : Int) 4294967295 = ((Crc.sum bs).toNat : Int) := xor32 _ 4294967295#32
  go_enter Try.func9, Try.ntmps9
  go_wp2_with (go_at_call 13; refine (step_calls 4294967295#32 _ _ _ bs _ hR'.out).mono ?_; rintro e w1 ⟨rfl, hb⟩)
  go_ret
  exact ⟨rfl, hb⟩

end Go.Proofs.Ytocanpehkmcndaa
