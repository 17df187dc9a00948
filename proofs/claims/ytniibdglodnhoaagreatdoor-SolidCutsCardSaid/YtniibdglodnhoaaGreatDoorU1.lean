/- Of several texts of this claim, one behind the other: Cm C D Cp L LOne Mm T G H Hs Mt Mc V Mf Mk Ms. -/
import Derived.Test.YtniibdglodnhoaaGreatDoorRows
import Derived.Test.YtniibdglodnhoaaGreatDoorE
import Derived.Test.YtniibdglodnhoaaGreatDoorB
import Derived.Test.YtniibdglodnhoaaGreatDoorA
import Derived.Test.YtniibdglodnhoaaGreatDoorO
import Derived.Test.YtniibdglodnhoaaGreatDoorI
import Derived.Laws.StructEq
import Derived.Deep.CutRange
import Derived.Deep.CutBlock
import Derived.ScopeJumps

/- The check sum: plain. -/
namespace Go.Crc

def half (r : BitVec 32) : BitVec 32 := (r >>> 1) ^^^ (3988292384#32 &&& -(r &&& 1#32))
def halves : Nat → BitVec 32 → BitVec 32
  | 0, r => r
  | n + 1, r => half (halves n r)
def tab (i : BitVec 8) : BitVec 32 := halves 8 (i.setWidth 32)
def step1 (r : BitVec 32) (c : BitVec 8) : BitVec 32 := tab (r.setWidth 8 ^^^ c) ^^^ (r >>> 8)
def step (r : BitVec 32) (b : List (BitVec 8)) : BitVec 32 := b.foldl step1 r
def sum (b : List (BitVec 8)) : BitVec 32 := step 4294967295#32 b ^^^ 4294967295#32

end Go.Crc

/- Walks: crc.half, table, Step, Sum. -/
namespace Go.Proofs.YtniibdglodnhoaaGreatDoor
open Go.RowKit Go.Own Go.Bv

theorem half_bv (r : BitVec 32) : Go.bits .xor .u32 ((r.toNat : Int) / 2) (Go.bits .and .u32 3988292384 ((-(Go.bits .and .u32 (r.toNat : Int) 1)) % 4294967296)) = ((Crc.half r).toNat : Int) := by
  have h1 : (3988292384 : Int) = ((3988292384#32).toNat : Int) := rfl
  have h2 : (1 : Int) = ((1#32).toNat : Int) := rfl
  have h3 := shr32 r 1
  simp only [Nat.pow_one] at h3
  have h4 : ((2 : Nat) : Int) = 2 := rfl
  rw [h4] at h3
  rw [h1, h2, and32, neg32, and32, h3, xor32]
  rfl

set_option maxHeartbeats 400000 in
theorem half_calls (r : BitVec 32) (w : World) :
    Calls Tryz.prog 101 #[.int .u32 (r.toNat : Int)] w fun e w' => e = .returned (.int .u32 ((Crc.half r).toNat : Int)) ∧ w = w' := by
  go_enter Tryz.func101, Tryz.ntmps101
  go_wp2
  go_ret
  exact ⟨by rw [half_bv]; rfl, rfl⟩

def tabC (k : Nat) : Array Value := ((List.range 256).map fun i => .int .u32 (if i < k then ((Crc.tab (BitVec.ofNat 8 i)).toNat : Int) else 0)).toArray

theorem tabC_step (k : Nat) (hk : k < 256) : (tabC k).setIfInBounds k (.int .u32 ((Crc.halves 8 (BitVec.ofNat 32 k)).toNat : Int)) = tabC (k+1) := by
  have hs : (BitVec.ofNat 8 k).setWidth 32 = BitVec.ofNat 32 k := by
    apply BitVec.eq_of_toNat_eq
    simp only [BitVec.toNat_setWidth, BitVec.toNat_ofNat]
    omega
  unfold tabC
  apply Array.ext
  · simp
  · intro i h1 h2
    simp at h1 h2
    simp only [List.setIfInBounds_toArray, List.getElem_toArray, List.getElem_set, List.getElem_map, List.getElem_range]
    by_cases hik : k = i
    · subst hik; simp [Crc.tab, hs]
    · have : i < k + 1 ↔ i < k := by omega
      simp [hik, this]
theorem tabC_size (k : Nat) : (tabC k).size = 256 := by simp [tabC]
theorem tabC_get (i : BitVec 8) : (tabC 256)[i.toNat]? = some (.int .u32 ((Crc.tab i).toNat : Int)) := by
  have := i.isLt
  have hi : BitVec.ofNat 8 i.toNat = i := by simp
  unfold tabC
  simp [hi, this]
theorem tabC_one (k : Nat) : (tabC k).toList.all (·.oneCell') = true := by
  rw [List.all_eq_true]
  intro u hu
  simp [tabC] at hu
  obtain ⟨i, _, rfl⟩ := hu
  rfl

attribute [irreducible] tabC
theorem itabz : (Tryz.prog.info? 95).bind (·.zero) = some (.agg (tabC 0)) := by kernel_rfl
theorem itabs : (Tryz.prog.info? 95).map (·.size) = some 256 := by kernel_rfl
theorem itabs' (k : Nat) : (Tryz.prog.info? 95).map (·.size) = some (tabC k).size := by rw [tabC_size]; exact itabs
theorem itabu : (Tryz.prog.underlying 95).map (fun d => match d with | .struct _ | .array _ _ => true | _ => false) = some true := by kernel_rfl
theorem iu32s_3 : (Tryz.prog.info? 22).map (·.size) = some 1 := by kernel_rfl

theorem k32 (k : Nat) (hk : k < 256) : (k : Int) = ((BitVec.ofNat 32 k).toNat : Int) := by
  rw [BitVec.toNat_ofNat]; omega

set_option maxHeartbeats 1000000 in
set_option maxRecDepth 100000 in
theorem table_calls (w : World) :
    Calls Tryz.prog 66 #[] w fun e w' => e = .returned (.agg (tabC 256)) ∧ Below w.heap.size w w' := by
  have hO := Own.start w
  generalize hW : w = wn at hO ⊢
  clear hW w
  go_enter Tryz.func66, Tryz.ntmps66
  go_wp2_with ((with_reducible refine gAlloc ?_); refine own_alloc hO 95 _ itabz ?_; clear hO; intro b w1 hO)
  go_loopg [3] 256 (fun n c wr => ∃ k : Nat, n = 256 - k ∧ k ≤ 256 ∧ c = .int .i64 k ∧ Own wn wr [.blk b (.cells (tabC k) 95 (0,0))])
  case atStart => exact ⟨0, rfl, by omega, rfl, hO⟩
  case round =>
    obtain ⟨k, rfl, hk, rfl, hO1⟩ := hrel
    clear hO
    by_cases hlt : k < 256
    · have hb : decide ((k : Int) < 256) = true := by simp; omega
      have hk32 := k32 k hlt
      have HK := Lib.hid hk32
      clear hk32
      go_wp2
      go_loopg [2, 8] 8 (fun n r c wr2 => ∃ j : Nat, n = 8 - j ∧ j ≤ 8 ∧ c = .int .i64 j ∧ r = .int .u32 ((Crc.halves j (BitVec.ofNat 32 k)).toNat : Int) ∧ wr2 = wr)
      case atStart => exact ⟨0, rfl, by omega, rfl, by rw [HK.out]; rfl, rfl⟩
      case round =>
        obtain ⟨j, rfl, hj, rfl, rfl, rfl⟩ := hrel
        by_cases hjl : j < 8
        · go_wp2_with (go_at_call 101; refine (half_calls _ _).mono ?_; rintro e w' ⟨rfl, rfl⟩)
          go_roundg (8 - (j + 1))
          case measure => omega
          case rel => exact ⟨j + 1, rfl, by omega, by go_num, rfl, rfl⟩
        · obtain rfl : j = 8 := by omega
          go_wp2_with ((with_reducible refine gStore ?_); refine own_store hO1 0 22 _ _ b k (tabC k) 95 _ rfl rfl rfl (by rw [tabC_size]; exact hlt) iu32s_3 rfl ?_; clear hO1; intro w2 hO1)
          go_roundg (256 - (k + 1))
          case measure => omega
          case rel => exact ⟨k + 1, rfl, by omega, by go_num, by rw [← tabC_step k hlt]; exact hO1⟩
    · obtain rfl : k = 256 := by omega
      go_wp2_with (first | ((with_reducible refine gLoad ?_); refine own_loadAll 95 _ b (tabC 256) 95 (0,0) (hO1.blk 0 rfl) rfl itabu (itabs' _) ?_) | ((with_reducible refine gStore ?_); refine own_storeAll hO1 0 95 _ _ b (tabC 256) (tabC 256) 95 _ rfl rfl rfl rfl (itabs' _) (by rw [tabC_size]) (tabC_one _) ?_; clear hO1; intro w2 hO1))
      refine bodyPost_ret (results_cell_row rfl _ _ b 95 (tabC 256) (0,0) _ rfl (hO1.blk 0 rfl) Tryz.underlying95 rfl (itabs' _)) rfl ⟨rfl, hO1.below⟩

theorem step_take (r : BitVec 32) (b : List (BitVec 8)) (k : Nat) (h : k < b.length) : Crc.step r (b.take (k + 1)) = Crc.step1 (Crc.step r (b.take k)) b[k] := by
  unfold Crc.step
  rw [List.take_succ_eq_append_getElem h, List.foldl_append]
  rfl

theorem step1_facts (X : BitVec 32) (c : BitVec 8) : ∃ (y z : BitVec 8) (t s r2 : BitVec 32), (X.toNat : Int) % 256 = (y.toNat : Int) ∧ Go.bits .xor .u8 (y.toNat : Int) (c.toNat : Int) = (z.toNat : Int) ∧ (z.toNat : Int) < 256 ∧
    (tabC 256)[z.toNat]? = some (.int .u32 (t.toNat : Int)) ∧ (X.toNat : Int) / 256 = (s.toNat : Int) ∧ Go.bits .xor .u32 (t.toNat : Int) (s.toNat : Int) = (r2.toNat : Int) ∧ r2 = Crc.step1 X c :=
  ⟨X.setWidth 8, X.setWidth 8 ^^^ c, _, X >>> 8, _, low8 X, xor8 _ _, lt8 _, tabC_get _, shr32 X 8, xor32 _ _, rfl⟩

set_option maxHeartbeats 1000000 in
set_option maxRecDepth 100000 in
theorem step_calls (r : BitVec 32) (a : Option Addr) (n cap : Nat) (bs : List (BitVec 8)) (w : World) (hR : Rd w 1 a n cap (u8s bs)) :
    Calls Tryz.prog 37 #[.int .u32 (r.toNat : Int), .slice a n cap] w fun e w' => e = .returned (.int .u32 ((Crc.step r bs).toNat : Int)) ∧ Below w.heap.size w w' := by
  have hO := Own.start w
  have hlen : bs.length = n := by have := hR.len; rw [u8s_length] at this; omega
  have hmax : n ≤ maxLen := Nat.le_trans hR.le hR.max
  unfold maxLen at hmax
  have hR' := Lib.hid hR
  clear hR
  generalize hW : w = wn at hO hR' ⊢
  clear hW w
  have HL := Lib.hid hlen
  clear hlen
  go_enter Tryz.func37, Tryz.ntmps37
  go_wp2_with (first
    | (go_at_call 66; refine (table_calls _).mono ?_; rintro e w1 ⟨rfl, hb⟩; replace hO := hO.call hb; clear hb)
    | ((with_reducible refine gAlloc ?_); refine own_alloc hO 95 _ itabz ?_; clear hO; intro b w2 hO)
    | ((with_reducible refine gStore ?_); refine own_storeAll hO 0 95 _ _ _ (tabC 0) (tabC 256) 95 _ rfl rfl rfl rfl (itabs' _) (by rw [tabC_size, tabC_size]) (tabC_one _) ?_; clear hO; intro w3 hO))
  go_loopg [0, 11] n (fun m r' c wr => ∃ k : Nat, m = n - k ∧ k ≤ n ∧ c = .int .i64 k ∧ r' = .int .u32 ((Crc.step r (bs.take k)).toNat : Int) ∧ Own wn wr [.blk b (.cells (tabC 256) 95 (0,0))])
  case atStart => exact ⟨0, rfl, by omega, rfl, by simp [Crc.step], hO⟩
  case round =>
    obtain ⟨k, rfl, hk, rfl, rfl, hO1⟩ := hrel
    clear hO
    by_cases hlt : k < n
    · have hkb : k < bs.length := by rw [HL.out]; exact hlt
      have HS := Lib.hid (step_take r bs k hkb)
      obtain ⟨ba, off, ha, hbl, hc⟩ := hR'.out.at' (by omega)
      subst ha
      have hcell : wr.cell? ⟨ba, off + k, none⟩ = some (.int .u8 (bs[k].toNat : Int)) := hO1.oldcell ((hc k (by omega)).trans (u8s_get bs k hkb))
      clear hc hbl
      generalize hX : Crc.step r (bs.take k) = X at *
      generalize hC : bs[k] = c at *
      obtain ⟨y, z, t, s, r2, e1, e2, b2, e3, e4, e5, hr2⟩ := step1_facts X c
      have HR := Lib.hid hr2
      clear hr2
      have e3' : wr.cell? ⟨b, z.toNat, none⟩ = some (.int .u32 (t.toNat : Int)) := by
        rw [cell_of_row wr b _ _ _ _ (hO1.blk 0 rfl)]; exact e3
      clear e3
      have HC := Lib.hid hC
      have HX := Lib.hid hX
      clear hC hX
      go_wp2
      go_roundg (n - (k + 1))
      case measure => omega
      case rel => exact ⟨k + 1, rfl, by omega, by go_num, by rw [HS.out, ← HR.out], hO1⟩
    · obtain rfl : k = n := by omega
      have ht : bs.take k = bs := List.take_of_length_le (by rw [HL.out]; omega)
      rw [ht]
      go_wp2
      go_ret
      exact ⟨rfl, hO1.below⟩

set_option maxHeartbeats 400000 in
theorem sum_calls (a : Option Addr) (n cap : Nat) (bs : List (BitVec 8)) (w : World) (hR : Rd w 1 a n cap (u8s bs)) :
    Calls Tryz.prog 20 #[.slice a n cap] w fun e w' => e = .returned (.int .u32 ((Crc.sum bs).toNat : Int)) ∧ Below w.heap.size w w' := by
  have hR' := Lib.hid hR
  clear hR
  have e5 : Go.bits .xor .u32 ((Crc.step 4294967295#32 bs).toNat : Int) 4294967295 = ((Crc.sum bs).toNat : Int) := xor32 _ 4294967295#32
  go_enter Tryz.func20, Tryz.ntmps20
  go_wp2_with (go_at_call 37; refine (step_calls 4294967295#32 _ _ _ bs _ hR'.out).mono ?_; rintro e w1 ⟨rfl, hb⟩)
  go_ret
  exact ⟨rfl, hb⟩

end Go.Proofs.YtniibdglodnhoaaGreatDoor

/- Walks: crc.octets, Seal, Open. -/
namespace Go.Proofs.YtniibdglodnhoaaGreatDoor
open Go.RowKit Go.Own Go.Bv Go.Ord Go.Eq

theorem ia4z : (Tryz.prog.info? 91).bind (·.zero) = some (.agg #[.int .u8 0, .int .u8 0, .int .u8 0, .int .u8 0]) := by kernel_rfl
theorem ia4s : (Tryz.prog.info? 91).map (·.size) = some 4 := by kernel_rfl
theorem ia4u : (Tryz.prog.underlying 91).map (fun d => match d with | .struct _ | .array _ _ => true | _ => false) = some true := by kernel_rfl
theorem iu8s_3 : (Tryz.prog.info? 5).map (·.size) = some 1 := by kernel_rfl
theorem eu8_3 : Elem Tryz.prog 29 5 (.int .u8 0) 1 1 := ⟨Tryz.underlying29, by kernel_rfl, rfl, by decide⟩

def oct4C (s : BitVec 32) : Array Value := (u8s (octs4 s)).toArray
set_option maxHeartbeats 1000000 in
set_option maxRecDepth 100000 in
theorem octets3_calls (s : BitVec 32) (w : World) :
    Calls Tryz.prog 59 #[.int .u32 (s.toNat : Int)] w fun e w' => e = .returned (.agg (oct4C s)) ∧ Below w.heap.size w w' := by
  have hO := Own.start w
  generalize hW : w = wn at hO ⊢
  clear hW w
  go_enter Tryz.func59, Tryz.ntmps59
  go_wp2_with ((with_reducible refine gAlloc ?_); refine own_alloc hO 91 _ ia4z ?_; clear hO; intro b w1 hO)
  refine wp_loop_rounds 5 ?_
  go_wp2_with (first
    | (with_reducible refine rounds_on ?_)
    | ((with_reducible refine gStore ?_); refine own_store hO 0 5 _ _ b _ _ 91 _ rfl rfl rfl (by simp [Value.cells]) iu8s_3 rfl ?_; clear hO; intro w2 hO; simp [go_sem] at hO)
    | ((with_reducible refine gStore ?_); refine own_storeAll hO 0 91 _ _ b _ _ 91 _ rfl rfl rfl rfl ia4s rfl (by rfl) ?_; clear hO; intro w3 hO; simp [go_sem] at hO)
    | ((with_reducible refine gLoad ?_); refine own_loadAll 91 _ b _ 91 (0,0) (hO.blk 0 rfl) rfl ia4u ia4s ?_))
  refine bodyPost_ret (results_cell_row rfl _ _ b 91 _ (0,0) _ rfl (hO.blk 0 rfl) Tryz.underlying91 rfl ia4s) rfl ⟨?_, hO.below⟩
  unfold oct4C
  rw [octs4_eq]

theorem oct4_rd {w0 w : World} {L : List Res} (hO : Own w0 w L) (i : Nat) {b : Nat} {s : BitVec 32} {t : TypeId} (hi : L[i]? = some (.blk b (.cells (oct4C s) t (0, 0)))) :
    Rd w 1 (some ⟨b, 0, none⟩) 4 4 (u8s (octs4 s)) := by
  refine ⟨rfl, Nat.le_refl _, by simp [maxLen], fun h => by simp at h, fun _ => ⟨b, 0, rfl, lt_of_block (hO.blk i hi), fun j hj => ?_⟩⟩
  rw [Nat.zero_add, cell_of_row w b j _ _ _ (hO.blk i hi)]
  simp [oct4C]

set_option maxHeartbeats 1000000 in
set_option maxRecDepth 100000 in
theorem seal_calls (a : Option Addr) (n cap : Nat) (bs : List (BitVec 8)) (w : World) (hR : Rd w 1 a n cap (u8s bs)) (hn : n ≤ 140737488351232) :
    Calls Tryz.prog 30 #[.slice a n cap] w fun e w' => ∃ a' c', e = .returned (.slice a' (n + 4) c') ∧ Below w.heap.size w w' ∧ w'.ownsRow w.heap.size 5 1 (.slice a' (n + 4) c') (n + 4) (u8s (bs ++ octs4 (Crc.sum bs))) := by
  have hO := Own.start w
  have hR' := Lib.hid hR
  clear hR
  generalize hW : w = wn at hO hR' ⊢
  clear hW w
  go_enter Tryz.func30, Tryz.ntmps30
  go_wp2_with (first
    | (go_at_call 20; refine (sum_calls _ _ _ bs _ (hO.rd hR'.out)).mono ?_; rintro e w1 ⟨rfl, hb⟩; replace hO := hO.call hb; clear hb)
    | (go_at_call 59; refine (octets3_calls _ _).mono ?_; rintro e w2 ⟨rfl, hb⟩; replace hO := hO.call hb; clear hb)
    | ((with_reducible refine gAlloc ?_); refine own_alloc hO 91 _ ia4z ?_; clear hO; intro b w3 hO)
    | ((with_reducible refine gStore ?_); refine own_storeAll hO 0 91 _ _ b _ (oct4C (Crc.sum bs)) 91 _ rfl rfl rfl rfl ia4s rfl (by rfl) ?_; clear hO; intro w4 hO))
  refine wp_region_text (by kernel_rfl) (by kernel_rfl) ?_
  replace hO := hO.drew
  generalize w4.drew = w5 at hO ⊢
  go_wp2_with (first
    | ((with_reducible refine gI ?_); refine wpI_step rfl rfl (by first | exact ok_int rfl rfl | exact ok_bool rfl rfl | exact ok_str rfl rfl | exact ok_conv rfl | rfl) ?_; intro _ _) | ((with_reducible refine gI ?_); first | refine wpI_skip rfl ?_ | refine wpI_want rfl ?_) | (with_reducible refine gOnly0 ?_) | (with_reducible refine wpI_nil ?_)
    | ((with_reducible refine gMake ?_); refine own_make0 hO _ _ 29 eu8_3 (n + 4) rfl rfl rfl (by omega) (by simp [maxLen]; omega) ?_; clear hO; intro g w6 hO)
    | ((with_reducible refine gAppend ?_); refine own_append hO 0 _ _ 29 eu8_3 rfl rfl rfl (hO.rd hR'.out) (u8s_one _) n (by omega) (by simp [maxLen]; omega) (by omega) ?_; clear hO; intro a1 c1 w7 hO)
    | ((with_reducible refine gAppend ?_); refine own_append hO 0 _ _ 29 eu8_3 rfl rfl rfl (oct4_rd hO 1 rfl) (u8s_one _) (n + 4) rfl (by simp [maxLen]; omega) (by omega) ?_; clear hO; intro a2 c2 w8 hO))
  go_ret
  refine ⟨_, _, rfl, hO.below, ?_⟩
  have := hO.row 0 rfl
  simpa [u8s_append] using this

theorem rd_sub {w : World} {a : Option Addr} {n cap : Nat} {xs : List Value} (h : Rd w 1 a n cap xs) (i m : Nat) (hi : i + m ≤ n) (hm : m ≠ 0) :
    ∃ b off, a = some ⟨b, off, none⟩ ∧ Rd w 1 (some ⟨b, off + i, none⟩) m (cap - i) ((xs.drop i).take m) := by
  obtain ⟨b, off, ha, hb, hc⟩ := h.at' (by omega)
  have h1 := h.len
  have h2 := h.le
  have h3 := h.max
  refine ⟨b, off, ha, ⟨by simp; omega, by omega, by omega, fun h => by simp at h, fun _ => ⟨b, off + i, rfl, hb, fun j hj => ?_⟩⟩⟩
  rw [Nat.add_assoc, hc (i + j) (by omega), List.getElem?_take_of_lt (by omega), List.getElem?_drop]

def openOk (bs : List (BitVec 8)) : Bool := decide (4 ≤ bs.length ∧ octs4 (Crc.sum (bs.take (bs.length - 4))) = bs.drop (bs.length - 4))
def openT (bs : List (BitVec 8)) : List (BitVec 8) := if openOk bs then bs.take (bs.length - 4) else []
def openE (bs : List (BitVec 8)) : Int := if bs.length < 4 then 2 else if openOk bs then 0 else 7

theorem i8agg : aggT Tryz.prog 91 = some true := by kernel_rfl
theorem fl4 : flat Tryz.prog 91 = false := by kernel_rfl

/-- what comes back: new octets, and an error's number -/
def RetSE (w : World) (xs : List (BitVec 8)) (E : Int) (e : Ending) (w' : World) : Prop :=
  ∃ a' c', e = .returned (.tuple #[.slice a' xs.length c', .int .i64 E]) ∧ Below w.heap.size w w' ∧ w'.ownsRow w.heap.size 5 1 (.slice a' xs.length c') xs.length (u8s xs)

set_option maxHeartbeats 2000000 in
set_option maxRecDepth 100000 in
theorem open_calls (a : Option Addr) (n cap : Nat) (bs : List (BitVec 8)) (w : World) (hR : Rd w 1 a n cap (u8s bs)) (hn : n ≤ 140737488351232) :
    Calls Tryz.prog 39 #[.slice a n cap] w (RetSE w (openT bs) (openE bs)) := by
  have hO := Own.start w
  have hlen : bs.length = n := by have := hR.len; rw [u8s_length] at this; omega
  by_cases h4 : n < 4
  · have e1 : openE bs = 2 := by simp [openE, hlen, h4]
    have e2 : openT bs = [] := by simp [openT, openOk, hlen]; omega
    rw [e1, e2]
    generalize hW : w = wn at hO ⊢
    clear hR hlen e1 e2 hW w
    go_enter Tryz.func39, Tryz.ntmps39
    go_wp2
    go_ret2
    exact ⟨none, 0, rfl, hO.below, World.ownsRow_nil _ _ _ _⟩
  · obtain ⟨m, rfl⟩ : ∃ m, n = m + 4 := ⟨n - 4, by omega⟩
    have hm4 : bs.length - 4 = m := by omega
    obtain ⟨B, hB⟩ : ∃ B : Bool, decide (octs4 (Crc.sum (bs.take m)) = bs.drop m) = B := ⟨_, rfl⟩
    have e1 : openE bs = if B = true then 0 else 7 := by
      unfold openE openOk
      rw [if_neg (by omega), hm4, ← hB]
      simp [hlen]
    have e2 : openT bs = if B = true then bs.take m else [] := by rw [← hB]; simp [openT, openOk, hlen]
    rw [e1, e2]
    have hcap : ¬ cap = m := by have := hR.le; omega
    have hle : m + 4 ≤ cap := hR.le
    have HRT : Hid (Rd w 1 a m cap (u8s (bs.take m))) := by
      have := hR.take m (by omega)
      rw [Nat.mul_one] at this
      rw [u8s_take]; exact this
    obtain ⟨b, off, rfl, hRD⟩ := rd_sub hR m 4 (by omega) (by omega)
    have hd : ((u8s bs).drop m).take 4 = u8s (bs.drop m) := by
      rw [u8s_drop]
      exact List.take_of_length_le (by simp [u8s_length]; omega)
    rw [hd] at hRD
    have HRD := Lib.hid hRD
    have hl4 : (bs.drop m).length = 4 := by simp; omega
    have HT : Hid ((bs.take m).length = m) := by show _ = _; simp; omega
    have hneq : ∀ w, (binOp .neq 91 (.agg (oct4C (Crc.sum (bs.take m)))) (.agg (u8s (bs.drop m)).toArray)).run Tryz.prog w = .ok (.bool (!B)) w := by
      intro w; rw [← hB]; exact run_neq_u8 w Tryz.underlying91 Tryz.underlying5 iu8s_3 _ _ rfl hl4
    have hgrd : ∀ w, (eqGuard .neq 91 (.tmp 17) (.tmp 23) (.agg (oct4C (Crc.sum (bs.take m)))) (.agg (u8s (bs.drop m)).toArray)).run Tryz.prog w = .ok () w :=
      fun w => run_eqGuard_agg _ _ _ _ _ _ _ (by kernel_rfl)
    have hmm : m ≤ 140737488351232 := by omega
    have hsa : ∀ a c w, (Instr.arrayAt 91 (.slice a 4 c)).run Tryz.prog w = .ok (.pointer a) w := fun a c w => run_arrayAt Tryz.underlying91 a 4 c (Nat.le_refl _) w
    have hi4 : (Tryz.prog.info? 91).map (·.size) = some (u8s (bs.drop m)).length := by rw [u8s_length, hl4]; exact ia4s
    have HI4 := Lib.hid hi4
    generalize hW : w = wn at hO HRT HRD ⊢
    clear e1 e2 hm4 hlen hd hRD hR hl4 h4 hi4 hW w hB
    cases B
    all_goals
      simp only [Bool.false_eq_true, if_true, if_false]
      go_enter Tryz.func39, Tryz.ntmps39
      go_wp2_with (first
        | ((with_reducible refine gBuild ?_); refine own_build0 hO 29 eu8_3 ?_; clear hO; intro g w1 hO)
        | ((with_reducible refine gAppend ?_); refine own_append hO 0 _ _ 29 eu8_3 rfl rfl rfl (hO.rd HRT.out) (u8s_one _) m (by omega) (by simp [maxLen]; omega) (by omega) ?_; clear hO; intro a1 c1 w2 hO))
      refine wp_region_textS (fun w' => Below wn.heap.size wn w') (fun op => match op with | .load _ (.tmp 22) => true | _ => false) (by kernel_rfl) (by kernel_rfl) hO.drew.below ?_
      replace hO := hO.drew
      generalize World.drew _ = w3 at hO ⊢
      go_wp2_with (first
        | (go_at_call 20; refine (sum_calls _ _ _ (bs.take m) _ (hO.rdAt 0 rfl)).mono ?_; rintro e w4 ⟨rfl, hb⟩; replace hO := hO.call hb; clear hb)
        | (go_at_call 59; refine (octets3_calls _ _).mono ?_; rintro e w5 ⟨rfl, hb⟩; replace hO := hO.call hb; clear hb)
        | ((with_reducible refine gI ?_); refine wpI_step rfl rfl (ok_agg fl4) ?_; intro _ _)
        | ((with_reducible refine gI ?_); refine wpI_steady _ rfl rfl rfl (fun w' hS => run_load_many (u8s (bs.drop m)) rfl i8agg HI4.out ((HRD.out.below hS).cells rfl)) ?_)
        | ((with_reducible refine gI ?_); refine wpI_step rfl rfl (by first | exact ok_int rfl rfl | exact ok_bool rfl rfl | exact ok_str rfl rfl | exact ok_conv rfl | rfl) ?_; intro _ _) | ((with_reducible refine gI ?_); first | refine wpI_skip rfl ?_ | refine wpI_want rfl ?_) | ((with_reducible refine gOnly ?_ ?_); exact hO.below) | (with_reducible refine wpI_nil ?_))
      go_ret2
      first
        | exact ⟨none, 0, rfl, hO.below, World.ownsRow_nil _ _ _ _⟩
        | exact ⟨a1, c1, by rw [HT.out]; rfl, hO.below, by rw [HT.out]; exact hO.row 0 rfl⟩
end Go.Proofs.YtniibdglodnhoaaGreatDoor

/- The check sum: its laws, in plain numbers. -/
namespace Go.Crc
open Go.Bv

theorem neg_bit_xor (x y : BitVec 32) : -((x ^^^ y) &&& 1#32) = -(x &&& 1#32) ^^^ -(y &&& 1#32) := by
  have h : ∀ z : BitVec 32, z &&& 1#32 = 0#32 ∨ z &&& 1#32 = 1#32 := by
    intro z
    have : (z &&& 1#32).toNat = z.toNat % 2 := by
      rw [BitVec.toNat_and]
      exact Nat.and_two_pow_sub_one_eq_mod z.toNat 1
    rcases Nat.mod_two_eq_zero_or_one z.toNat with h | h
    · left; apply BitVec.eq_of_toNat_eq; rw [this, h]; rfl
    · right; apply BitVec.eq_of_toNat_eq; rw [this, h]; rfl
  have hx : (x ^^^ y) &&& 1#32 = (x &&& 1#32) ^^^ (y &&& 1#32) := by
    apply BitVec.eq_of_getLsbD_eq
    intro i _
    simp only [BitVec.getLsbD_and, BitVec.getLsbD_xor]
    cases x.getLsbD i <;> cases y.getLsbD i <;> cases (1#32).getLsbD i <;> rfl
  rw [hx]
  rcases h x with h1 | h1 <;> rcases h y with h2 | h2 <;> rw [h1, h2] <;> decide

theorem and_xor (p x y : BitVec 32) : p &&& (x ^^^ y) = (p &&& x) ^^^ (p &&& y) := by
  apply BitVec.eq_of_getLsbD_eq
  intro i _
  simp only [BitVec.getLsbD_and, BitVec.getLsbD_xor]
  cases x.getLsbD i <;> cases y.getLsbD i <;> cases p.getLsbD i <;> rfl
theorem shr_xor (x y : BitVec 32) (n : Nat) : (x ^^^ y) >>> n = (x >>> n) ^^^ (y >>> n) := BitVec.ushiftRight_xor_distrib x y n
theorem low_xor (x y : BitVec 32) : (x ^^^ y).setWidth 8 = x.setWidth 8 ^^^ y.setWidth 8 := BitVec.setWidth_xor
theorem xor4 (a b c d : BitVec 32) : (a ^^^ b) ^^^ (c ^^^ d) = (a ^^^ c) ^^^ (b ^^^ d) := by
  rw [BitVec.xor_assoc, ← BitVec.xor_assoc b c d, BitVec.xor_comm b c, BitVec.xor_assoc c b d, ← BitVec.xor_assoc]
theorem half_xor (x y : BitVec 32) : half (x ^^^ y) = half x ^^^ half y := by
  unfold half
  rw [shr_xor, neg_bit_xor, and_xor, xor4]
theorem halves_xor (n : Nat) (x y : BitVec 32) : halves n (x ^^^ y) = halves n x ^^^ halves n y := by
  induction n with
  | zero => rfl
  | succ n ih => simp only [halves]; rw [ih, half_xor]
/-! what is sealed has one sum -/
/-! no two registers come to the same by one text; one octet another one, and the sum is -/
end Go.Crc

/- Walks: the statements' own helpers of layer 3: SameBytes, live. -/
namespace Go.Proofs.YtniibdglodnhoaaGreatDoor
open Go.RowKit Go.Own Go.Bv Go.Ord Go.Eq

end Go.Proofs.YtniibdglodnhoaaGreatDoor

/- The walk of CrcOne. -/
namespace Go.Proofs.YtniibdglodnhoaaGreatDoor
open Go.RowKit Go.Own Go.Bv Go.Ord Go.Eq

end Go.Proofs.YtniibdglodnhoaaGreatDoor

/- Tokens: which may be, how much they tell, and what; what was there already. No program in sight. -/
namespace Go.Mt

structure Tok where
  lit : BitVec 8
  len : Int
  dist : Int
  deriving DecidableEq

/-! ### which may be, and how much they tell -/
def Tok.ok (t : Tok) (n : Nat) : Prop :=
  (t.len = 0 ∧ t.dist = 0) ∨ (3 ≤ t.len ∧ t.len ≤ 18 ∧ 1 ≤ t.dist ∧ t.dist ≤ 256 ∧ t.dist ≤ (n : Int) ∧ t.lit = 0)
def Tok.size (t : Tok) : Nat := if t.len = 0 then 1 else t.len.toNat
def okFrom : Nat → List Tok → Prop
  | _, [] => True
  | n, t :: r => t.ok n ∧ okFrom (n + t.size) r
def told (l : List Tok) : Nat := (l.map Tok.size).sum
theorem told_nil : told [] = 0 := rfl
theorem told_append (l r : List Tok) : told (l ++ r) = told l + told r := by simp [told]
theorem told_one (t : Tok) : told [t] = t.size := by simp [told]
theorem told_cons (t : Tok) (r : List Tok) : told (t :: r) = t.size + told r := by simp [told]
theorem okFrom_append : ∀ (n : Nat) (l r : List Tok), okFrom n (l ++ r) ↔ okFrom n l ∧ okFrom (n + told l) r
  | n, [], r => by simp [okFrom, told]
  | n, t :: l, r => by
    have h := okFrom_append (n + t.size) l r
    rw [List.cons_append]
    show (t.ok n ∧ okFrom (n + t.size) (l ++ r)) ↔ (t.ok n ∧ okFrom (n + t.size) l) ∧ okFrom (n + told (t :: l)) r
    rw [h, told_cons, Nat.add_assoc, and_assoc]
theorem Tok.ok_size {t : Tok} {n : Nat} (h : t.ok n) : 1 ≤ t.size ∧ t.size ≤ 18 := by
  unfold Tok.size
  rcases h with ⟨h, _⟩ | ⟨h1, h2, _⟩
  · rw [if_pos h]; omega
  · rw [if_neg (by omega)]; omega
theorem Tok.ok_len {t : Tok} {n : Nat} (h : t.ok n) : 0 ≤ t.len ∧ t.len ≤ 18 := by
  rcases h with ⟨h, _⟩ | ⟨h1, h2, _⟩ <;> omega
theorem told_bounds : ∀ (n : Nat) (l : List Tok), okFrom n l → l.length ≤ told l ∧ told l ≤ 18 * l.length
  | n, [], _ => by simp [told]
  | n, t :: r, h => by
    have h1 := Tok.ok_size h.1
    have h2 := told_bounds _ r h.2
    rw [told_cons, List.length_cons]
    omega
theorem okFrom_take {n : Nat} {l : List Tok} (k : Nat) (h : okFrom n l) : okFrom n (l.take k) := by
  rw [← List.take_append_drop k l, okFrom_append] at h
  exact h.1
theorem take_succ' {l : List Tok} {k : Nat} (h : k < l.length) : l.take (k + 1) = l.take k ++ [l[k]] := List.take_succ_eq_append_getElem h
theorem okFrom_next {l : List Tok} {k : Nat} (h : k < l.length) : okFrom 0 (l.take (k + 1)) ↔ okFrom 0 (l.take k) ∧ (l[k]).ok (told (l.take k)) := by
  rw [take_succ' h, okFrom_append]
  simp [okFrom]
theorem told_next {l : List Tok} {k : Nat} (h : k < l.length) : told (l.take (k + 1)) = told (l.take k) + (l[k]).size := by
  rw [take_succ' h, told_append, told_one]
theorem told_take_le (l : List Tok) (k : Nat) : told (l.take k) ≤ told l := by
  conv => rhs; rw [← List.take_append_drop k l, told_append]
  omega

/-! ### what they tell -/
def again (d : Nat) : Nat → List (BitVec 8) → List (BitVec 8)
  | 0, b => b
  | k + 1, b => again d k (b ++ [b.getD (b.length - d) 0])
def Tok.tell (b : List (BitVec 8)) (t : Tok) : List (BitVec 8) := if t.len = 0 then b ++ [t.lit] else again t.dist.toNat t.len.toNat b
def text (l : List Tok) : List (BitVec 8) := l.foldl Tok.tell []
theorem again_length (d : Nat) : ∀ (k : Nat) (b : List (BitVec 8)), (again d k b).length = b.length + k
  | 0, _ => rfl
  | k + 1, b => by
    show (again d k _).length = _
    rw [again_length d k, List.length_append, List.length_singleton]; omega
/-- the other way about: one octet more at the end -/
theorem again_succ (d : Nat) : ∀ (k : Nat) (b : List (BitVec 8)), again d (k + 1) b = again d k b ++ [(again d k b).getD ((again d k b).length - d) 0]
  | 0, _ => rfl
  | k + 1, b => by
    show again d (k + 1) (b ++ [b.getD (b.length - d) 0]) = _
    rw [again_succ d k]
    rfl
theorem tell_length {b : List (BitVec 8)} {t : Tok} (h : 0 ≤ t.len) : (Tok.tell b t).length = b.length + t.size := by
  unfold Tok.tell Tok.size
  split
  · simp
  · rw [again_length]
/-- a text that begins so, and goes on as it did so far behind, is it -/
theorem again_of (d : Nat) (b c : List (BitVec 8)) (n : Nat) (hb : b.length = n) (hd : 1 ≤ d) (hdn : d ≤ n) (hp : c.take n = b) : ∀ k, n + k ≤ c.length → (∀ i, n ≤ i → i < n + k → c.getD i 0 = c.getD (i - d) 0) → again d k b = c.take (n + k)
  | 0, _, _ => hp.symm
  | k + 1, hl, h => by
    rw [again_succ, again_of d b c n hb hd hdn hp k (by omega) (fun i h1 h2 => h i h1 (by omega)), List.length_take, Nat.min_eq_left (by omega)]
    rw [← Nat.add_assoc, List.take_succ_eq_append_getElem (show n + k < c.length by omega)]
    congr 2
    have h1 := h (n + k) (by omega) (by omega)
    rw [List.getD_eq_getElem?_getD, List.getElem?_take_of_lt (by omega), ← List.getD_eq_getElem?_getD, ← h1]
    simp [show n + k < c.length by omega]
/-- what is told so: each octet as so far behind -/
theorem again_get (d : Nat) (b : List (BitVec 8)) (hd : 1 ≤ d) : ∀ k i, b.length ≤ i → i < b.length + k → (again d k b).getD i 0 = (again d k b).getD (i - d) 0
  | 0, i, h1, h2 => by omega
  | k + 1, i, h1, h2 => by
    rw [again_succ]
    have hl := again_length d k b
    by_cases hi : i < b.length + k
    · have ih := again_get d b hd k i h1 hi
      have e : ∀ j, j < b.length + k → (again d k b ++ [(again d k b).getD ((again d k b).length - d) 0]).getD j 0 = (again d k b).getD j 0 := fun j hj => by
        rw [List.getD_eq_getElem?_getD, List.getElem?_append_left (by omega), ← List.getD_eq_getElem?_getD]
      rw [e i hi, e (i - d) (by omega), ih]
    · obtain rfl : i = b.length + k := by omega
      by_cases hz : b.length + k = 0
      · rw [hz, Nat.zero_sub]
      · have e1 : ∀ (l : List (BitVec 8)) (c : BitVec 8) (n : Nat), l.length = n → (l ++ [c]).getD n 0 = c := fun l c n h => by subst h; simp
        have e2 : ∀ (l : List (BitVec 8)) (c : BitVec 8) (n : Nat), n < l.length → (l ++ [c]).getD n 0 = l.getD n 0 := fun l c n h => by
          rw [List.getD_eq_getElem?_getD, List.getElem?_append_left h, ← List.getD_eq_getElem?_getD]
        rw [e1 _ _ _ hl, e2 _ _ _ (by omega), hl]
theorem text_append (l r : List Tok) : text (l ++ r) = r.foldl Tok.tell (text l) := by simp [text]
theorem text_next {l : List Tok} {k : Nat} (h : k < l.length) : text (l.take (k + 1)) = Tok.tell (text (l.take k)) l[k] := by
  rw [take_succ' h, text_append]; rfl
theorem fold_length : ∀ (l : List Tok) (b : List (BitVec 8)), okFrom b.length l → (l.foldl Tok.tell b).length = b.length + told l
  | [], b, _ => by simp [told]
  | t :: r, b, h => by
    have h1 := tell_length (b := b) (Tok.ok_len h.1).1
    show (r.foldl Tok.tell (Tok.tell b t)).length = _
    rw [fold_length r _ (by rw [h1]; exact h.2), h1, told_cons]; omega
theorem text_length {l : List Tok} (h : okFrom 0 l) : (text l).length = told l := by
  unfold text
  rw [fold_length l [] h]; simp
/-! ### what was there already -/
/-- so many octets are there again, so far behind -/
def agree (b : List (BitVec 8)) (d at_ n : Nat) : Prop := ∀ i, i < n → at_ + i < b.length ∧ b.getD (at_ + i) 0 = b.getD (at_ + i - d) 0
instance (b : List (BitVec 8)) (d at_ n : Nat) : Decidable (agree b d at_ n) := by unfold agree; infer_instance
theorem agree_zero (b : List (BitVec 8)) (d at_ : Nat) : agree b d at_ 0 := fun i h => by omega
theorem agree_mono {b : List (BitVec 8)} {d at_ m n : Nat} (h : agree b d at_ n) (hm : m ≤ n) : agree b d at_ m := fun i hi => h i (by omega)
theorem agree_succ {b : List (BitVec 8)} {d at_ n : Nat} (h : agree b d at_ n) (h1 : at_ + n < b.length) (h2 : b.getD (at_ + n) 0 = b.getD (at_ + n - d) 0) : agree b d at_ (n + 1) := fun i hi => by
  rcases Nat.lt_or_ge i n with h' | h'
  · exact h i h'
  · obtain rfl : i = n := by omega
    exact ⟨h1, h2⟩
def com (b : List (BitVec 8)) (d at_ : Nat) : Nat → Nat
  | 0 => 0
  | k + 1 => if agree b d at_ (k + 1) then k + 1 else com b d at_ k
theorem com_le (b : List (BitVec 8)) (d at_ : Nat) : ∀ k, com b d at_ k ≤ k
  | 0 => Nat.le_refl _
  | k + 1 => by
    unfold com
    split
    · omega
    · have := com_le b d at_ k; omega
theorem com_agree (b : List (BitVec 8)) (d at_ : Nat) : ∀ k, agree b d at_ (com b d at_ k)
  | 0 => agree_zero _ _ _
  | k + 1 => by
    unfold com
    split
    · assumption
    · exact com_agree b d at_ k
theorem com_max {b : List (BitVec 8)} {d at_ n : Nat} (h : agree b d at_ n) : ∀ k, n ≤ k → n ≤ com b d at_ k
  | 0, hk => hk
  | k + 1, hk => by
    unfold com
    split
    · omega
    · rename_i hn
      rcases Nat.lt_or_ge n (k + 1) with h' | h'
      · exact com_max h k (by omega)
      · obtain rfl : n = k + 1 := by omega
        exact absurd h hn
/-- where it ends -/
theorem com_eq {b : List (BitVec 8)} {d at_ n : Nat} (h : agree b d at_ n) (hn : n ≤ 18) (he : n = 18 ∨ ¬ agree b d at_ (n + 1)) : com b d at_ 18 = n := by
  have h1 := com_max h 18 hn
  have h2 := com_le b d at_ 18
  rcases he with rfl | he
  · omega
  · rcases Nat.lt_or_ge n (com b d at_ 18) with h' | h'
    · exact absurd (agree_mono (com_agree b d at_ 18) h') he
    · omega
/-- the longest of the first so many distances, the nearest of these -/
def best (b : List (BitVec 8)) (at_ : Nat) : Nat → Nat × Nat
  | 0 => (0, 0)
  | k + 1 => if (best b at_ k).1 < com b (k + 1) at_ 18 then (com b (k + 1) at_ 18, k + 1) else best b at_ k
theorem best_spec (b : List (BitVec 8)) (at_ : Nat) : ∀ k, (best b at_ k).1 ≤ 18 ∧ (best b at_ k).2 ≤ k ∧ ((best b at_ k).1 = 0 ∧ (best b at_ k).2 = 0 ∨ 1 ≤ (best b at_ k).2 ∧ 1 ≤ (best b at_ k).1 ∧ (best b at_ k).1 = com b (best b at_ k).2 at_ 18) ∧
    (∀ d, 1 ≤ d → d ≤ k → com b d at_ 18 ≤ (best b at_ k).1) ∧ (∀ d, 1 ≤ d → d < (best b at_ k).2 → com b d at_ 18 < (best b at_ k).1)
  | 0 => ⟨by simp [best], by simp [best], .inl ⟨rfl, rfl⟩, fun d h1 h2 => by omega, fun d h1 h2 => by simp [best] at h2⟩
  | k + 1 => by
    obtain ⟨h1, h2, h3, h4, h5⟩ := best_spec b at_ k
    have hc := com_le b (k + 1) at_ 18
    unfold best
    split
    · rename_i hlt
      refine ⟨hc, Nat.le_refl _, .inr ⟨Nat.succ_pos _, by omega, rfl⟩, fun d hd hk => ?_, fun d hd hk => ?_⟩
      · dsimp only
        rcases Nat.lt_or_ge d (k + 1) with h' | h'
        · have := h4 d hd (by omega); omega
        · obtain rfl : d = k + 1 := by omega
          exact Nat.le_refl _
      · dsimp only at hk ⊢
        have := h4 d hd (by omega); omega
    · rename_i hlt
      refine ⟨h1, by omega, h3, fun d hd hk => ?_, h5⟩
      rcases Nat.lt_or_ge d (k + 1) with h' | h'
      · exact h4 d hd (by omega)
      · obtain rfl : d = k + 1 := by omega
        omega
def found (b : List (BitVec 8)) (at_ : Nat) : Nat × Nat := best b at_ (min 256 at_)
def tokAt (b : List (BitVec 8)) (at_ : Nat) : Tok := if 3 ≤ (found b at_).1 then ⟨0, (found b at_).1, (found b at_).2⟩ else ⟨b.getD at_ 0, 0, 0⟩
theorem found_agree (b : List (BitVec 8)) (at_ : Nat) : agree b (found b at_).2 at_ (found b at_).1 := by
  unfold found
  obtain ⟨_, _, h3, _⟩ := best_spec b at_ (min 256 at_)
  rcases h3 with ⟨h, _⟩ | ⟨_, _, h⟩
  · rw [h]; exact agree_zero _ _ _
  · conv => arg 4; rw [h]
    exact com_agree _ _ _ _
theorem tokAt_ok {b : List (BitVec 8)} {at_ : Nat} : (tokAt b at_).ok at_ := by
  obtain ⟨h1, h2, h3, _⟩ := best_spec b at_ (min 256 at_)
  unfold tokAt found
  split
  · rename_i h
    refine .inr ⟨by dsimp only; omega, by dsimp only; omega, ?_, by dsimp only; omega, by dsimp only; omega, rfl⟩
    dsimp only
    rcases h3 with h3 | h3 <;> omega
  · exact .inl ⟨rfl, rfl⟩
theorem tokAt_tell {b : List (BitVec 8)} {at_ : Nat} (h : at_ < b.length) : at_ + (tokAt b at_).size ≤ b.length ∧ Tok.tell (b.take at_) (tokAt b at_) = b.take (at_ + (tokAt b at_).size) := by
  obtain ⟨h1, h2, h3, _⟩ := best_spec b at_ (min 256 at_)
  have ha := found_agree b at_
  unfold tokAt
  by_cases hc : 3 ≤ (found b at_).1
  · rw [if_pos hc]
    unfold Tok.tell Tok.size
    dsimp only
    rw [if_neg (by omega), if_neg (by omega)]
    simp only [Int.toNat_natCast]
    have hn := (ha ((found b at_).1 - 1) (by omega)).1
    refine ⟨by omega, again_of _ _ b at_ (by rw [List.length_take]; omega) ?_ ?_ rfl _ (by omega) ?_⟩
    · unfold found at hc ⊢
      rcases h3 with h3 | h3 <;> omega
    · unfold found; omega
    · intro i hi1 hi2
      have := (ha (i - at_) (by omega)).2
      rwa [show at_ + (i - at_) = i by omega] at this
  · rw [if_neg hc]
    unfold Tok.tell Tok.size
    dsimp only
    rw [if_pos rfl, if_pos rfl]
    refine ⟨by omega, ?_⟩
    rw [List.take_succ_eq_append_getElem h]
    simp [h]
/-- a text's tokens from a place on -/
def toksFrom (b : List (BitVec 8)) : Nat → Nat → List Tok
  | 0, _ => []
  | f + 1, at_ => if at_ < b.length then tokAt b at_ :: toksFrom b f (at_ + (tokAt b at_).size) else []
def tokens (b : List (BitVec 8)) : List Tok := toksFrom b b.length 0
theorem toksFrom_spec {b : List (BitVec 8)} : ∀ f at_, at_ ≤ b.length → b.length ≤ at_ + f →
    okFrom at_ (toksFrom b f at_) ∧ at_ + told (toksFrom b f at_) = b.length ∧ (toksFrom b f at_).foldl Tok.tell (b.take at_) = b
  | 0, at_, h1, h2 => by
    obtain rfl : at_ = b.length := by omega
    simp [toksFrom, okFrom, told]
  | f + 1, at_, h1, h2 => by
    unfold toksFrom
    by_cases h : at_ < b.length
    · rw [if_pos h]
      obtain ⟨t1, t2⟩ := tokAt_tell h
      have hs := Tok.ok_size (tokAt_ok (b := b) (at_ := at_))
      obtain ⟨i1, i2, i3⟩ := toksFrom_spec (b := b) f (at_ + (tokAt b at_).size) t1 (by omega)
      refine ⟨⟨tokAt_ok, i1⟩, by rw [told_cons]; omega, ?_⟩
      show (toksFrom b f _).foldl Tok.tell (Tok.tell (b.take at_) (tokAt b at_)) = b
      rw [t2, i3]
    · rw [if_neg h]
      obtain rfl : at_ = b.length := by omega
      simp [okFrom, told]
theorem toksFrom_stop {b : List (BitVec 8)} {at_ : Nat} (h : b.length ≤ at_) : ∀ f, toksFrom b f at_ = []
  | 0 => rfl
  | f + 1 => by unfold toksFrom; rw [if_neg (by omega)]
theorem toksFrom_fuel {b : List (BitVec 8)} : ∀ f g at_, b.length ≤ at_ + f → b.length ≤ at_ + g → toksFrom b f at_ = toksFrom b g at_
  | 0, g, at_, h1, h2 => (toksFrom_stop (b := b) (by omega) g).symm
  | f + 1, 0, at_, h1, h2 => toksFrom_stop (b := b) (by omega) (f + 1)
  | f + 1, g + 1, at_, h1, h2 => by
    unfold toksFrom
    split
    · have hs := Tok.ok_size (tokAt_ok (b := b) (at_ := at_))
      rw [toksFrom_fuel f g _ (by omega) (by omega)]
    · rfl
theorem tokens_spec (b : List (BitVec 8)) : okFrom 0 (tokens b) ∧ told (tokens b) = b.length ∧ text (tokens b) = b := by
  obtain ⟨h1, h2, h3⟩ := toksFrom_spec (b := b) b.length 0 (by omega) (by omega)
  exact ⟨h1, by rw [Nat.zero_add] at h2; exact h2, by rw [List.take_zero] at h3; exact h3⟩
end Go.Mt

/- The types' sizes: one closed fact over a table. -/
namespace Go.Proofs.YtniibdglodnhoaaGreatDoor
open Go.RowKit Go.Own Go.Ord

def tyTab : List (Nat × (Bool × Nat)) := [(2, false, 1), (3, false, 1), (4, false, 1), (5, false, 1), (9, false, 1), (12, false, 1), (21, false, 1), (22, false, 1), (23, true, 4), (24, true, 4), (25, false, 1), (27, true, 5), (28, false, 1), (29, false, 1), (32, false, 1), (33, false, 1), (44, true, 3), (54, true, 6), (71, false, 1), (73, true, 4), (76, false, 1), (78, true, 3), (84, false, 1), (97, false, 1), (99, false, 1), (102, false, 1), (104, true, 2), (122, true, 2), (126, false, 1), (128, true, 6), (139, true, 5), (154, false, 1), (157, false, 1), (158, true, 4)]
theorem tyTab_ok : (tyTab.all fun x => aggT Tryz.prog x.1 == some x.2.1 && (Tryz.prog.info? x.1).map (·.size) == some x.2.2) = true := by kernel_rfl
theorem mem_of_lookup {β : Type} : ∀ {l : List (Nat × β)} {k : Nat} {v : β}, l.lookup k = some v → (k, v) ∈ l
  | [], _, _, h => by simp at h
  | (k', v') :: r, k, v, h => by
    simp only [List.lookup] at h
    split at h
    · rename_i he
      simp only [Option.some.injEq] at h
      have := eq_of_beq he
      subst this h
      exact List.mem_cons_self
    · exact List.mem_cons_of_mem _ (mem_of_lookup h)
theorem ty_both {t n : Nat} {b : Bool} (h : tyTab.lookup t = some (b, n)) : aggT Tryz.prog t = some b ∧ (Tryz.prog.info? t).map (·.size) = some n := by
  have := List.all_eq_true.1 tyTab_ok _ (mem_of_lookup h)
  simpa using this
theorem tA {t n : Nat} {b : Bool} (h : tyTab.lookup t = some (b, n)) : aggT Tryz.prog t = some b := (ty_both h).1
theorem tS {t n : Nat} {b : Bool} (h : tyTab.lookup t = some (b, n)) : (Tryz.prog.info? t).map (·.size) = some n := (ty_both h).2
end Go.Proofs.YtniibdglodnhoaaGreatDoor

/- Generic arms of the walk: loads out of what the call has made, out of what came in. -/
namespace Go.Own
open Go.RowKit Go.Ord

section
variable {P : Program} {ops : Array Oper} {Q : Exit → Act → World → Prop} {a : Act} {w w0 : World} {L : List Res} {rest : List Oper}
variable {d : Option Tmp} {ty : TypeId} {pos : String} {aft : Array Edge}

/-- one cell, wherever it stands -/
theorem ld_one {T : TypeId} {x : Operand} {ad : Addr} {v : Value} (hx : a.eval x = .pointer (some ad)) (hc : w.cell? ad = some v) (hT : aggT P T = some false)
    (h : wpList P ops Q rest (a.put d v) w) :
    wpList P ops Q ({ dst := d, op := .load T x, type := ty, pos := pos, after := aft, guard := none } :: rest) a w := by
  refine wpList_plain rfl fun K hK => ?_
  unfold Oper.wp
  rw [run_load_one hx hT hc]
  exact hK _ _ h
/-- one cell of a block of the list -/
theorem ld_blk (hO : Own w0 w L) (i : Nat) {T : TypeId} {x : Operand} {b off : Nat} {C : Array Value} {t : TypeId} {fr : Nat × Nat} {v : Value}
    (hi : L[i]? = some (.blk b (.cells C t fr))) (hx : a.eval x = .pointer (some ⟨b, off, none⟩)) (hv : C.toList[off]? = some v) (hT : aggT P T = some false)
    (h : wpList P ops Q rest (a.put d v) w) :
    wpList P ops Q ({ dst := d, op := .load T x, type := ty, pos := pos, after := aft, guard := none } :: rest) a w :=
  ld_one hx (by rw [cell_of_row w b off C t fr (hO.blk i hi), ← Array.getElem?_toList]; exact hv) hT h
/-- a whole block of the list -/
theorem ld_all (hO : Own w0 w L) (i : Nat) {T : TypeId} {x : Operand} {b : Nat} {C : Array Value} {t : TypeId} {fr : Nat × Nat}
    (hi : L[i]? = some (.blk b (.cells C t fr))) (hx : a.eval x = .pointer (some ⟨b, 0, none⟩)) (hT : aggT P T = some true) (hs : (P.info? T).map (·.size) = some C.size)
    (h : wpList P ops Q rest (a.put d (.agg C)) w) :
    wpList P ops Q ({ dst := d, op := .load T x, type := ty, pos := pos, after := aft, guard := none } :: rest) a w := by
  refine own_loadAll T x b C t fr (hO.blk i hi) hx ?_ hs h
  obtain ⟨dd, hd, hdd⟩ := Option.map_eq_some_iff.1 hT
  rw [hd]
  simp only [Option.map_some, Option.some.injEq]
  exact hdd
/-- a cell of a row of the list -/
theorem ld_sl (hO : Own w0 w L) (i : Nat) {T : TypeId} {x : Operand} {g j n cap sz : Nat} {e : TypeId} {xs : List Value} {v : Value}
    (hi : L[i]? = some (.sl e sz (.slice (some ⟨g, 0, none⟩) n cap) n xs)) (hx : a.eval x = .pointer (some ⟨g, j, none⟩)) (hv : xs[j]? = some v) (hT : aggT P T = some false)
    (h : wpList P ops Q rest (a.put d v) w) :
    wpList P ops Q ({ dst := d, op := .load T x, type := ty, pos := pos, after := aft, guard := none } :: rest) a w := by
  have hr := hO.row i hi
  have hj : j < n * sz := by rw [← hr.1]; exact (List.getElem?_eq_some_iff.1 hv).1
  exact ld_one hx (by rw [hr.cellAt j hj]; exact hv) hT h
/-- a cell of a slice that can be read -/
theorem ld_rd {T : TypeId} {x : Operand} {b off j n cap sz : Nat} {xs : List Value} {v : Value} (hR : Rd w sz (some ⟨b, off, none⟩) n cap xs)
    (hx : a.eval x = .pointer (some ⟨b, off + j, none⟩)) (hv : xs[j]? = some v) (hT : aggT P T = some false)
    (h : wpList P ops Q rest (a.put d v) w) :
    wpList P ops Q ({ dst := d, op := .load T x, type := ty, pos := pos, after := aft, guard := none } :: rest) a w := by
  have hj : j < xs.length := (List.getElem?_eq_some_iff.1 hv).1
  rw [hR.len] at hj
  obtain ⟨b', off', he, _, hc⟩ := hR.at' (by omega)
  simp only [Option.some.injEq, Addr.mk.injEq, and_true] at he
  obtain ⟨rfl, rfl⟩ := he
  exact ld_one hx ((hc j hj).trans hv) hT h
/-- some cells of a slice that can be read, as one value -/
theorem ld_rds {T : TypeId} {x : Operand} {b off j n cap sz : Nat} {xs : List Value} (cs : List Value) (hR : Rd w sz (some ⟨b, off, none⟩) n cap xs)
    (hx : a.eval x = .pointer (some ⟨b, off + j, none⟩)) (hv : ∀ i v, cs[i]? = some v → xs[j + i]? = some v) (hT : aggT P T = some true) (hs : (P.info? T).map (·.size) = some cs.length) (h0 : 0 < cs.length)
    (h : wpList P ops Q rest (a.put d (.agg cs.toArray)) w) :
    wpList P ops Q ({ dst := d, op := .load T x, type := ty, pos := pos, after := aft, guard := none } :: rest) a w := by
  have hj : j < xs.length := by
    have := hv 0 cs[0] (List.getElem?_eq_getElem h0)
    exact (List.getElem?_eq_some_iff.1 this).1
  rw [hR.len] at hj
  obtain ⟨b', off', he, _, hc⟩ := hR.at' (by omega)
  simp only [Option.some.injEq, Addr.mk.injEq, and_true] at he
  obtain ⟨rfl, rfl⟩ := he
  refine own_loadCells cs hx hT hs (fun i v hi => ?_) h
  have h1 := hv i v hi
  have hl : j + i < n * sz := by rw [← hR.len]; exact (List.getElem?_eq_some_iff.1 h1).1
  rw [Addr.add_lit, Nat.add_assoc, hc _ hl]
  exact h1
/-- a store of one cell into a block of the list: its block known by place -/
theorem st_blk (hO : Own w0 w L) (i : Nat) {T : TypeId} {x y : Operand} {b off : Nat} {C : Array Value} {t : TypeId} {v : Value}
    (hi : L[i]? = some (.blk b (.cells C t (0, 0)))) (hx : a.eval x = .pointer (some ⟨b, off, none⟩)) (hy : a.eval y = v) (hoff : off < C.size)
    (h1 : v.oneCell' = true) (hu : (P.info? T).map (·.size) = some 1)
    (h : ∀ w', Own w0 w' (L.set i (.blk b (.cells (C.setIfInBounds off v) t (0, 0)))) → wpList P ops Q rest (a.put d undef) w') :
    wpList P ops Q ({ dst := d, op := .store T x y, type := ty, pos := pos, after := aft, guard := none } :: rest) a w :=
  own_store hO i T x y b off C t v hi hx hy hoff hu h1 h
theorem st_all (hO : Own w0 w L) (i : Nat) {T : TypeId} {x y : Operand} {b : Nat} {C C' : Array Value} {t : TypeId} {v : Value}
    (hi : L[i]? = some (.blk b (.cells C t (0, 0)))) (hx : a.eval x = .pointer (some ⟨b, 0, none⟩)) (hy : a.eval y = v) (hv : v.cells = C')
    (hsz : C'.size = C.size) (h1 : C'.toList.all (·.oneCell') = true) (hu : (P.info? T).map (·.size) = some C'.size)
    (h : ∀ w', Own w0 w' (L.set i (.blk b (.cells C' t (0, 0)))) → wpList P ops Q rest (a.put d undef) w') :
    wpList P ops Q ({ dst := d, op := .store T x y, type := ty, pos := pos, after := aft, guard := none } :: rest) a w :=
  own_storeAll hO i T x y b C C' t v hi hx hy hv hu hsz h1 h
end

section
variable {P : Program} {ops : Array Oper} {S : World → Prop} {st : Op → Bool} {Q : Exit → Act → World → Prop} {a : Act} {w : World} {rest : List Oper}
variable {d : Option Tmp} {ty : TypeId} {pos : String} {aft : Array Edge}
/-- in a region that draws: a load of a block that stands in every world of S -/
theorem wpI_ldS {T : TypeId} {x : Operand} {b : Nat} {C : Array Value} {t : TypeId} {fr : Nat × Nat} (hS : ∀ w', S w' → w'.heap[b]? = some (.cells C t fr))
    (hx : a.eval x = .pointer (some ⟨b, 0, none⟩)) (hst : st (.load T x) = true) (hT : aggT P T = some true) (hs : (P.info? T).map (·.size) = some C.size)
    (h : wpI P ops S st Q rest (a.put d (.agg C)) w) : wpI P ops S st Q ({ dst := d, op := .load T x, type := ty, pos := pos, after := aft, guard := none } :: rest) a w := by
  refine wpI_steady (.agg C) rfl hst rfl (fun w' hw => ?_) h
  have := run_load_many (P := P) (d := d) (ty := ty) (pos := pos) (aft := aft) (gd := none) (T := T) (x := x) (a := a) (w := w') (ad := ⟨b, 0, none⟩) C.toList hx hT (by simpa using hs)
    (fun j v hj => by rw [Addr.add_lit, cell_of_row w' b _ C t fr (hS w' hw), Nat.zero_add, ← Array.getElem?_toList]; exact hj)
  simpa using this
/-- .. of one cell of it -/
theorem wpI_ldcS {T : TypeId} {x : Operand} {b off : Nat} {C : Array Value} {t : TypeId} {fr : Nat × Nat} {v : Value} (hS : ∀ w', S w' → w'.heap[b]? = some (.cells C t fr))
    (hx : a.eval x = .pointer (some ⟨b, off, none⟩)) (hst : st (.load T x) = true) (hT : aggT P T = some false) (hv : C.toList[off]? = some v)
    (h : wpI P ops S st Q rest (a.put d v) w) : wpI P ops S st Q ({ dst := d, op := .load T x, type := ty, pos := pos, after := aft, guard := none } :: rest) a w := by
  refine wpI_steady v rfl hst rfl (fun w' hw => ?_) h
  exact run_load_one (P := P) (d := d) (ty := ty) (pos := pos) (aft := aft) (gd := none) hx hT (by rw [cell_of_row w' b off C t fr (hS w' hw), ← Array.getElem?_toList]; exact hv)
/-- the operation's continuation is used up -/
theorem gOnlyK {K R : Act → World → Prop} (hK : ∀ a w, R a w → K a w) (hS : S w) (h : R a w) : OnlyN (fun _ a w => S w ∧ K a w) .normal a w := ⟨hS, hK _ _ h⟩
theorem gOnlyK0 {K R : Act → World → Prop} (hK : ∀ a w, R a w → K a w) (h : R a w) : OnlyN (fun _ a w => noS w ∧ K a w) .normal a w := ⟨trivial, hK _ _ h⟩
/-- gates -/
theorem gIL {T : TypeId} {x : Operand} (h : wpI P ops S st Q ({ dst := d, op := .load T x, type := ty, pos := pos, after := aft, guard := none } :: rest) a w) : wpI P ops S st Q ({ dst := d, op := .load T x, type := ty, pos := pos, after := aft, guard := none } :: rest) a w := h
theorem gIS1 {T : TypeId} {x y : Operand} (h : wpI P ops S st Q [{ dst := d, op := .store T x y, type := ty, pos := pos, after := aft, guard := none }] a w) : wpI P ops S st Q [{ dst := d, op := .store T x y, type := ty, pos := pos, after := aft, guard := none }] a w := h
end

/-- a slice that is not nil has a place -/
theorem Rd.place {w : World} {sz n cap : Nat} {a : Option Addr} {xs : List Value} (h : Rd w sz a n cap xs) (hn : n * sz ≠ 0) : ∃ b off, a = some ⟨b, off, none⟩ := by
  obtain ⟨b, off, he, _⟩ := h.at' hn
  exact ⟨b, off, he⟩
theorem Own.slPlace {w0 w : World} {L : List Res} (hO : Own w0 w L) (i : Nat) {e : TypeId} {sz n cap : Nat} {ao : Option Addr} {xs : List Value} (hi : L[i]? = some (.sl e sz (.slice ao n cap) n xs)) (hn : 0 < n) : ∃ g, ao = some ⟨g, 0, none⟩ := by
  obtain ⟨g, cap, he, _⟩ := hO.slForm i hi hn
  simp only [Value.slice.injEq] at he
  exact ⟨g, he.1⟩
end Go.Own
namespace Go.Own
theorem ltb {a b : Nat} (h : Nat.blt a b = true) : a < b := Nat.lt_of_succ_le (by simpa [Nat.blt] using h)
/-- a piece of a slice of single cells -/
theorem Rd.cut {w : World} {b off n cap : Nat} {xs : List Value} (h : Rd w 1 (some ⟨b, off, none⟩) n cap xs) (i m : Nat) (hi : i + m ≤ n) : Rd w 1 (some ⟨b, off + i, none⟩) m (cap - i) ((xs.drop i).take m) := by
  have h1 := h.len
  have h2 := h.le
  have h3 := h.max
  refine ⟨by simp; omega, by omega, by omega, fun h => by simp at h, fun hm => ?_⟩
  obtain ⟨b', off', ha, hb, hc⟩ := h.at' (by omega)
  simp only [Option.some.injEq, Addr.mk.injEq, and_true] at ha
  obtain ⟨rfl, rfl⟩ := ha
  refine ⟨b, off + i, rfl, hb, fun j hj => ?_⟩
  rw [Nat.add_assoc, hc (i + j) (by omega), List.getElem?_take_of_lt (by omega), List.getElem?_drop]
/-- a list made longer by what a call does not see -/
theorem Own.wide {w0 w : World} {L L' : List Res} (h : Own w0 w L) (hs : L' = L) : Own w0 w L' := by rw [hs]; exact h
end Go.Own
namespace Go.Own
open Go.RowKit Go.Ord
section
variable {P : Program} {ops : Array Oper} {Q : Exit → Act → World → Prop} {a : Act} {w w0 : World} {L : List Res} {rest : List Oper}
variable {d : Option Tmp} {ty : TypeId} {pos : String} {aft : Array Edge}
/-- '==' on two arrays -/
theorem eq_arr {t yt : TypeId} {x y : Operand} {A B : Array Value} {r : Bool} (hx : a.eval x = .agg A) (hy : a.eval y = .agg B) (hb : ∀ w, (binOp .eql t (.agg A) (.agg B)).run P w = .ok (.bool r) w)
    (hg : P.eqGuardType P.depth t = false) (h : wpList P ops Q rest (a.put d (.bool r)) w) : wpList P ops Q ({ dst := d, op := .binOp .eql t x y yt, type := ty, pos := pos, after := aft, guard := none } :: rest) a w := by
  refine wpList_plain rfl fun K hK => ?_
  have h1 := run_eqGuard_agg (P := P) (w := w) .eql t x y A B hg
  unfold Oper.wp
  have : (execOp a.eval { dst := d, op := .binOp .eql t x y yt, type := ty, pos := pos, after := aft, guard := none }).run P w = .ok (.value (.bool r)) w := by simp [execOp, Sem.run_bind, hx, hy, h1, hb]
  rw [this]
  exact hK _ _ h
theorem ne_arr {t yt : TypeId} {x y : Operand} {A B : Array Value} {r : Bool} (hx : a.eval x = .agg A) (hy : a.eval y = .agg B) (hb : ∀ w, (binOp .neq t (.agg A) (.agg B)).run P w = .ok (.bool r) w)
    (hg : P.eqGuardType P.depth t = false) (h : wpList P ops Q rest (a.put d (.bool r)) w) : wpList P ops Q ({ dst := d, op := .binOp .neq t x y yt, type := ty, pos := pos, after := aft, guard := none } :: rest) a w := by
  refine wpList_plain rfl fun K hK => ?_
  have h1 := run_eqGuard_agg (P := P) (w := w) .neq t x y A B hg
  unfold Oper.wp
  have : (execOp a.eval { dst := d, op := .binOp .neq t x y yt, type := ty, pos := pos, after := aft, guard := none }).run P w = .ok (.value (.bool r)) w := by simp [execOp, Sem.run_bind, hx, hy, h1, hb]
  rw [this]
  exact hK _ _ h
theorem gEql {t yt : TypeId} {x y : Operand} (h : wpList P ops Q ({ dst := d, op := .binOp .eql t x y yt, type := ty, pos := pos, after := aft, guard := none } :: rest) a w) :
    wpList P ops Q ({ dst := d, op := .binOp .eql t x y yt, type := ty, pos := pos, after := aft, guard := none } :: rest) a w := h
theorem gNeq {t yt : TypeId} {x y : Operand} (h : wpList P ops Q ({ dst := d, op := .binOp .neq t x y yt, type := ty, pos := pos, after := aft, guard := none } :: rest) a w) :
    wpList P ops Q ({ dst := d, op := .binOp .neq t x y yt, type := ty, pos := pos, after := aft, guard := none } :: rest) a w := h
/-- any guarded operation -/
theorem gG {op : Op} {g : Nat × Bool} (h : wpList P ops Q ({ dst := d, op := op, type := ty, pos := pos, after := aft, guard := some g } :: rest) a w) :
    wpList P ops Q ({ dst := d, op := op, type := ty, pos := pos, after := aft, guard := some g } :: rest) a w := h
/-- a block, read as a slice from a place on -/
theorem rd_blk_off {g : Nat} {C : Array Value} {t : TypeId} {fr : Nat × Nat} {n cap : Nat} {xs : List Value} (hg : w.heap[g]? = some (.cells C t fr)) (off : Nat) (hC : (C.toList.drop off).take n = xs) (hl : xs.length = n) (hn : n ≤ cap) (hc : cap ≤ maxLen) : Rd w 1 (some ⟨g, off, none⟩) n cap xs := by
  refine rd_blk hg 1 off n cap xs (by omega) hn hc fun j hj => ?_
  rw [← hC, List.getElem?_take_of_lt (by omega), List.getElem?_drop, ← Array.getElem?_toList]
/-- what a row of the call's own is as a block -/
theorem blk_of_row {base : Nat} {e : TypeId} {n cap g : Nat} {xs : List Value} (h : w.ownsRow base e 1 (.slice (some ⟨g, 0, none⟩) n cap) n xs) : ∃ C, base ≤ g ∧ w.heap[g]? = some (.cells C e (0, 0)) ∧ C.toList.take n = xs ∧ n ≤ cap ∧ cap ≤ maxLen := by
  obtain ⟨hl, h2⟩ := h
  rcases h2 with ⟨h3, _⟩ | ⟨g', cap', cur, h3, hb, hg, hnc, hcm, hsz, ht⟩
  · simp at h3
  · simp only [Value.slice.injEq, Option.some.injEq, Addr.mk.injEq, and_true, true_and] at h3
    obtain ⟨rfl, rfl⟩ := h3
    exact ⟨cur, hb, hg, by simpa using ht, hnc, hcm⟩
end
end Go.Own

/- Arms whose values are read off the frame as they stand there ('tmpAt'): what they leave stays small. -/
namespace Go.Own
open Go.RowKit Go.Ord

def tmpAt (a : Act) (j : Nat) : Option Value := a.tmps.toList[j]?
theorem eval_tmp {a : Act} {j : Nat} {v : Value} (h : tmpAt a j = some v) : a.eval (.tmp j) = v := by
  unfold tmpAt at h
  rw [Array.getElem?_toList] at h
  simp [Act.eval, Array.getD_eq_getD_getElem?, h]

section
variable {P : Program} {ops : Array Oper} {Q : Exit → Act → World → Prop} {a : Act} {w w0 : World} {L : List Res} {rest : List Oper}
variable {d : Option Tmp} {ty : TypeId} {pos : String} {aft : Array Edge}

/-- a store of a whole variable -/
theorem stX (hO : Own w0 w L) (i : Nat) {T : TypeId} {p q : Tmp} {b : Nat} {C C' : Array Value} {t : TypeId}
    (hi : L[i]? = some (.blk b (.cells C t (0, 0)))) (hx : tmpAt a p = some (.pointer (some ⟨b, 0, none⟩))) (hy : tmpAt a q = some (.agg C'))
    (hsz : C'.size = C.size) (h1 : C'.toList.all (·.oneCell') = true) (hu : (P.info? T).map (·.size) = some C'.size)
    (h : ∀ w', Own w0 w' (L.set i (.blk b (.cells C' t (0, 0)))) → wpList P ops Q rest (a.put d undef) w') :
    wpList P ops Q ({ dst := d, op := .store T (.tmp p) (.tmp q), type := ty, pos := pos, after := aft, guard := none } :: rest) a w :=
  own_storeAll hO i T (.tmp p) (.tmp q) b C C' t (.agg C') hi (eval_tmp hx) (eval_tmp hy) rfl hu hsz h1 h
/-- a store of one cell -/
theorem stC (hO : Own w0 w L) (i : Nat) {T : TypeId} {p q : Tmp} {b off : Nat} {C : Array Value} {t : TypeId} {v : Value}
    (hi : L[i]? = some (.blk b (.cells C t (0, 0)))) (hx : tmpAt a p = some (.pointer (some ⟨b, off, none⟩))) (hy : tmpAt a q = some v) (hoff : off < C.size)
    (h1 : v.oneCell' = true) (hu : (P.info? T).map (·.size) = some 1)
    (h : ∀ w', Own w0 w' (L.set i (.blk b (.cells (C.setIfInBounds off v) t (0, 0)))) → wpList P ops Q rest (a.put d undef) w') :
    wpList P ops Q ({ dst := d, op := .store T (.tmp p) (.tmp q), type := ty, pos := pos, after := aft, guard := none } :: rest) a w :=
  own_store hO i T (.tmp p) (.tmp q) b off C t v hi (eval_tmp hx) (eval_tmp hy) hoff hu h1 h
/-- a variable that comes to lie in memory: a struct, an array -/
theorem bxA (hO : Own w0 w L) {T : TypeId} {p : Tmp} {C : Array Value} (hx : tmpAt a p = some (.agg C))
    (h : ∀ b w', Own w0 w' (.blk b (.cells C T (0, 0)) :: L) → wpList P ops Q rest (a.put d (.pointer (some ⟨b, 0, none⟩))) w') :
    wpList P ops Q ({ dst := d, op := .box T (.tmp p), type := ty, pos := pos, after := aft, guard := none } :: rest) a w :=
  own_box hO T (.tmp p) (.agg C) (eval_tmp hx) h
/-- .. a single cell -/
theorem bx1 (hO : Own w0 w L) {T : TypeId} {p : Tmp} {v : Value} (hx : tmpAt a p = some v) (h1 : v.oneCell' = true)
    (h : ∀ b w', Own w0 w' (.blk b (.cells #[v] T (0, 0)) :: L) → wpList P ops Q rest (a.put d (.pointer (some ⟨b, 0, none⟩))) w') :
    wpList P ops Q ({ dst := d, op := .box T (.tmp p), type := ty, pos := pos, after := aft, guard := none } :: rest) a w := by
  have hc : v.cells = #[v] := by cases v <;> simp_all [Value.cells, Value.oneCell']
  refine own_box hO T (.tmp p) v (eval_tmp hx) ?_
  rw [hc]
  exact h
/-- loads -/
theorem ldC (hO : Own w0 w L) (i : Nat) {T : TypeId} {p : Tmp} {b off : Nat} {C : Array Value} {t : TypeId} {fr : Nat × Nat} {v : Value}
    (hi : L[i]? = some (.blk b (.cells C t fr))) (hx : tmpAt a p = some (.pointer (some ⟨b, off, none⟩))) (hT : aggT P T = some false) (hv : C.toList[off]? = some v)
    (h : wpList P ops Q rest (a.put d v) w) :
    wpList P ops Q ({ dst := d, op := .load T (.tmp p), type := ty, pos := pos, after := aft, guard := none } :: rest) a w :=
  ld_blk hO i hi (eval_tmp hx) hv hT h
theorem ldX (hO : Own w0 w L) (i : Nat) {T : TypeId} {p : Tmp} {b : Nat} {C : Array Value} {t : TypeId} {fr : Nat × Nat}
    (hi : L[i]? = some (.blk b (.cells C t fr))) (hx : tmpAt a p = some (.pointer (some ⟨b, 0, none⟩))) (hT : aggT P T = some true) (hs : (P.info? T).map (·.size) = some C.size)
    (h : wpList P ops Q rest (a.put d (.agg C)) w) :
    wpList P ops Q ({ dst := d, op := .load T (.tmp p), type := ty, pos := pos, after := aft, guard := none } :: rest) a w :=
  ld_all hO i hi (eval_tmp hx) hT hs h
/-- '==', '!=' of two arrays: what is known of it is looked for behind this step -/
theorem eqD {t yt : TypeId} {p q : Tmp} {A B : Array Value} (hg : P.eqGuardType P.depth t = false) (hx : tmpAt a p = some (.agg A)) (hy : tmpAt a q = some (.agg B))
    (h : ∃ r, (∀ w, (binOp .eql t (.agg A) (.agg B)).run P w = .ok (.bool r) w) ∧ wpList P ops Q rest (a.put d (.bool r)) w) : wpList P ops Q ({ dst := d, op := .binOp .eql t (.tmp p) (.tmp q) yt, type := ty, pos := pos, after := aft, guard := none } :: rest) a w := by
  obtain ⟨r, hb, h⟩ := h
  exact eq_arr (eval_tmp hx) (eval_tmp hy) hb hg h
theorem neD {t yt : TypeId} {p q : Tmp} {A B : Array Value} (hg : P.eqGuardType P.depth t = false) (hx : tmpAt a p = some (.agg A)) (hy : tmpAt a q = some (.agg B))
    (h : ∃ r, (∀ w, (binOp .neq t (.agg A) (.agg B)).run P w = .ok (.bool r) w) ∧ wpList P ops Q rest (a.put d (.bool r)) w) : wpList P ops Q ({ dst := d, op := .binOp .neq t (.tmp p) (.tmp q) yt, type := ty, pos := pos, after := aft, guard := none } :: rest) a w := by
  obtain ⟨r, hb, h⟩ := h
  exact ne_arr (eval_tmp hx) (eval_tmp hy) hb hg h
end

theorem wpI_act {P : Program} {ops : Array Oper} {S : World → Prop} {st : Op → Bool} {Q : Exit → Act → World → Prop} {a a' : Act} {w : World} {rest : List Oper} (h : a = a') (k : wpI P ops S st Q rest a' w) : wpI P ops S st Q rest a w := h ▸ k
/-! a drawn region's operations, fast -/
theorem okI {P : Program} {op : BinOp} {t yt : TypeId} {i j : Tmp} {a : Act} {k k' : IntKind} {m n : Int} (hx : tmpAt a i = some (.int k m)) (hy : tmpAt a j = some (.int k' n)) : okVals P (.binOp op t (.tmp i) (.tmp j) yt) a = true := ok_int (eval_tmp hx) (eval_tmp hy)
end Go.Own

/- Arms on variables of several parts: a part of four cells loaded, stored; make with room behind; three results. -/
namespace Go.Own
open Go.RowKit Go.Ord

section
variable {P : Program} {ops : Array Oper} {Q : Exit → Act → World → Prop} {a : Act} {w w0 : World} {L : List Res} {rest : List Oper}
variable {d : Option Tmp} {ty : TypeId} {pos : String} {aft : Array Edge}

theorem storeCells_shift (b off : Nat) : ∀ (vs : List Value) (i : Nat), storeCells ⟨b, off, none⟩ vs i = storeCells ⟨b, 0, none⟩ vs (off + i)
  | [], _ => rfl
  | v :: vs, i => by
    show (do store ((⟨b, off, none⟩ : Addr).add i) v; storeCells ⟨b, off, none⟩ vs (i + 1)) = (do store ((⟨b, 0, none⟩ : Addr).add (off + i)) v; storeCells ⟨b, 0, none⟩ vs (off + i + 1))
    rw [storeCells_shift b off vs (i + 1), Addr.add_lit, Addr.add_lit, Nat.zero_add]
    rfl
/-- a store of the last cells of a block -/
theorem stP (hO : Own w0 w L) (i : Nat) {T : TypeId} {p q : Tmp} {b off : Nat} {C C' V : Array Value} {t : TypeId}
    (hi : L[i]? = some (.blk b (.cells C t (0, 0)))) (hx : tmpAt a p = some (.pointer (some ⟨b, off, none⟩))) (hy : tmpAt a q = some (.agg V))
    (hsz : off + V.size = C.size) (h1 : V.toList.all (·.oneCell') = true) (hu : (P.info? T).map (·.size) = some V.size) (hC : (C.toList.take off ++ V.toList).toArray = C')
    (h : ∀ w', Own w0 w' (L.set i (.blk b (.cells C' t (0, 0)))) → wpList P ops Q rest (a.put d undef) w') :
    wpList P ops Q ({ dst := d, op := .store T (.tmp p) (.tmp q), type := ty, pos := pos, after := aft, guard := none } :: rest) a w := by
  refine wpList_plain rfl fun K hK => ?_
  obtain ⟨inf, hinf, hs⟩ := Option.map_eq_some_iff.1 hu
  have hg := hO.blk i hi
  have hst : (storeCells ⟨b, off, none⟩ V.toList 0).run P w = .ok () (w.setRow b (C.toList.take off ++ V.toList).toArray) := by
    rw [storeCells_shift, Nat.add_zero]
    exact run_storeCells_from (P := P) b t V.toList off C w hg (by simpa using hsz) (fun v hv => List.all_eq_true.1 h1 v hv)
  have hx' := eval_tmp hx
  have hy' := eval_tmp hy
  rw [hC] at hst
  unfold Oper.wp
  simp [execOp, Instr.storeAt, Instr.sureAddr, storeVar, hx', hy', sizeOf, typeInfo, hinf, hs, Value.cells, hst]
  refine hK _ _ (h _ (hO.setBlk i hi rfl rfl rfl (by simp) ?_ ?_))
  · intro k hk; exact setRow_other _ _ _ _ hk
  · rw [setRow_heap w b C _ t _ hg]
/-- a load of some cells of a block -/
theorem ldP (hO : Own w0 w L) (i : Nat) {T : TypeId} {p : Tmp} {b off : Nat} {C : Array Value} {t : TypeId} {fr : Nat × Nat} (V : List Value)
    (hi : L[i]? = some (.blk b (.cells C t fr))) (hx : tmpAt a p = some (.pointer (some ⟨b, off, none⟩))) (hT : aggT P T = some true) (hs : (P.info? T).map (·.size) = some V.length)
    (hV : (C.toList.drop off).take V.length = V)
    (h : wpList P ops Q rest (a.put d (.agg V.toArray)) w) :
    wpList P ops Q ({ dst := d, op := .load T (.tmp p), type := ty, pos := pos, after := aft, guard := none } :: rest) a w := by
  refine own_loadCells V (eval_tmp hx) hT hs (fun j v hj => ?_) h
  have hl := (List.getElem?_eq_some_iff.1 hj).1
  rw [Addr.add_lit, cell_of_row w b _ C t fr (hO.blk i hi), ← Array.getElem?_toList]
  rw [← hV, List.getElem?_take_of_lt hl, List.getElem?_drop] at hj
  exact hj
theorem ldA (hO : Own w0 w L) (i : Nat) {T : TypeId} {p : Tmp} {b off : Nat} {C : Array Value} {t : TypeId} {fr : Nat × Nat} (V : Array Value)
    (hi : L[i]? = some (.blk b (.cells C t fr))) (hx : tmpAt a p = some (.pointer (some ⟨b, off, none⟩))) (hT : aggT P T = some true) (hs : (P.info? T).map (·.size) = some V.size)
    (hV : (C.toList.drop off).take V.size = V.toList)
    (h : wpList P ops Q rest (a.put d (.agg V)) w) :
    wpList P ops Q ({ dst := d, op := .load T (.tmp p), type := ty, pos := pos, after := aft, guard := none } :: rest) a w :=
  ldP hO i V.toList hi hx hT (by simpa using hs) (by simpa using hV) (by simpa using h)
theorem gBld {T : TypeId} {parts : Array (Nat × Operand)} (h : wpList P ops Q ({ dst := d, op := .build T parts, type := ty, pos := pos, after := aft, guard := none } :: rest) a w) :
    wpList P ops Q ({ dst := d, op := .build T parts, type := ty, pos := pos, after := aft, guard := none } :: rest) a w := h
/-- 'T{..}' -/
theorem own_bld {T : TypeId} {parts : Array (Nat × Operand)} (cells : Array Value) (hb : P.built T (parts.map fun (i, x) => (i, a.eval x)).toList = some cells)
    (h : wpList P ops Q rest (a.put d (.agg cells)) w) : wpList P ops Q ({ dst := d, op := .build T parts, type := ty, pos := pos, after := aft, guard := none } :: rest) a w := by
  refine wpList_plain rfl fun K hK => ?_
  have hr := run_build (P := P) w T (parts.map fun (i, x) => (i, a.eval x)) cells hb
  unfold Oper.wp
  simp only [execOp, Sem.run_bind, hr, Result.andThen_ok, Sem.run_pure]
  exact hK _ _ h
/-- 'make([]T, n, c)' -/
theorem own_makeC (hO : Own w0 w L) (l c : Operand) (t : TypeId) {e : TypeId} {z : Value} {bytes : Nat} (hE : Elem P t e z 1 bytes)
    {kl kc : IntKind} {N C : Int} (n m : Nat) (hl : a.eval l = .int kl N) (hc : a.eval c = .int kc C) (hN : N = (n : Int)) (hC : C = (m : Int)) (hnm : n ≤ m) (hbytes : bytes * m ≤ 281474976710656) (h63 : m ≤ maxLen)
    (h : ∀ g w', Own w0 w' (.sl e 1 (.slice (some ⟨g, 0, none⟩) n m) n ((madeCells z.cells m).toList.take n) :: L) → wpList P ops Q rest (a.put d (.slice (some ⟨g, 0, none⟩) n m)) w') :
    wpList P ops Q ({ dst := d, op := .makeSlice t l c, type := ty, pos := pos, after := aft, guard := none } :: rest) a w := by
  refine wpList_plain rfl fun K hK => ?_
  obtain ⟨inf, hinf, hz, hsz, hby⟩ := info_parts hE.info
  subst hN
  subst hC
  have h63' : (m : Int) ≤ 9223372036854775807 := by
    have h := h63
    simp [maxLen] at h
    omega
  have hb' : (inf.bytes : Int) * (m : Int) ≤ 281474976710656 := by
    have h : ((inf.bytes * m : Nat) : Int) ≤ 281474976710656 := by rw [hby]; omega
    rwa [Int.natCast_mul] at h
  have hr := run_make (P := P) w t e inf z hE.slice hinf hz kl kc n m (by omega) (by omega) hb' h63'
  simp only [Int.toNat_natCast, hsz, Nat.mul_one] at hr
  have hrow : (w.alloc (.cells (madeCells z.cells m) e)).ownsRow w.heap.size e 1 (.slice (some ⟨w.heap.size, 0, none⟩) n m) n ((madeCells z.cells m).toList.take n) :=
    ⟨by rw [List.length_take, Array.length_toList, size_madeCells]; omega, .inr ⟨w.heap.size, m, _, rfl, Nat.le_refl _, heap_alloc_new w _, hnm, h63, by rw [size_madeCells, Nat.mul_one], by rw [Nat.mul_one]⟩⟩
  have hO' : Own w0 _ (.sl e 1 (.slice (some ⟨w.heap.size, 0, none⟩) n m) n ((madeCells z.cells m).toList.take n) :: L) := hO.add ((Below.refl _ _).alloc (Nat.le_refl _) _) hrow
  unfold Oper.wp
  simp [execOp, hl, hc, hr, Result.andThen]
  exact hK _ _ (h _ _ hO')
end
section
variable {P : Program}
/-- three results: two blocks and a slot -/
theorem res_cct {fn : Func} {p q u : Tmp} {ty tz : TypeId} (h : fn.results = #[.cell p ty, .cell q tz, .tmp u]) (tmps : Array Value) (w : World) (g g' : Nat) (t t' : TypeId) (cs cs' : Array Value) (fr fr' : Nat × Nat) (d d' : TypeDesc)
    (hp : tmps.getD p undef = .pointer (some ⟨g, 0, none⟩)) (hg : w.heap[g]? = some (.cells cs t fr))
    (hu : P.underlying ty = some d) (hd : (match d with | .struct _ | .array _ _ => true | _ => false) = true) (hi : (P.info? ty).map (·.size) = some cs.size)
    (hp' : tmps.getD q undef = .pointer (some ⟨g', 0, none⟩)) (hg' : w.heap[g']? = some (.cells cs' t' fr'))
    (hu' : P.underlying tz = some d') (hd' : (match d' with | .struct _ | .array _ _ => true | _ => false) = true) (hi' : (P.info? tz).map (·.size) = some cs'.size) :
    (results fn tmps).run P w = .ok (.tuple #[.agg cs, .agg cs', tmps.getD u undef]) w := by
  have e : tmps[p]?.getD undef = .pointer (some ⟨g, 0, none⟩) := by simpa using hp
  have e' : tmps[q]?.getD undef = .pointer (some ⟨g', 0, none⟩) := by simpa using hp'
  simp [results, h, e, e', asAddr, run_loadVar_row w g t ty cs fr d hg hu hd hi, run_loadVar_row w g' t' tz cs' fr' d' hg' hu' hd' hi']
end
section
variable {P : Program} {ops : Array Oper} {S : World → Prop} {st : Op → Bool} {Q : Exit → Act → World → Prop} {a : Act} {w : World} {rest : List Oper}
variable {d : Option Tmp} {ty : TypeId} {pos : String} {aft : Array Edge}
/-- in a region that draws: a load of some cells of a block that stands in every world of S -/
theorem wpI_ldpS {T : TypeId} {x : Operand} {b off : Nat} {C : Array Value} {t : TypeId} {fr : Nat × Nat} (V : List Value) (hS : ∀ w', S w' → w'.heap[b]? = some (.cells C t fr))
    (hx : a.eval x = .pointer (some ⟨b, off, none⟩)) (hst : st (.load T x) = true) (hT : aggT P T = some true) (hs : (P.info? T).map (·.size) = some V.length) (hV : (C.toList.drop off).take V.length = V)
    (h : wpI P ops S st Q rest (a.put d (.agg V.toArray)) w) : wpI P ops S st Q ({ dst := d, op := .load T x, type := ty, pos := pos, after := aft, guard := none } :: rest) a w := by
  refine wpI_steady (.agg V.toArray) rfl hst rfl (fun w' hw => ?_) h
  exact run_load_many (P := P) (d := d) (ty := ty) (pos := pos) (aft := aft) (gd := none) V hx hT hs
    (fun j v hj => by
      have hl := (List.getElem?_eq_some_iff.1 hj).1
      rw [Addr.add_lit, cell_of_row w' b _ C t fr (hS w' hw), ← Array.getElem?_toList]
      rw [← hV, List.getElem?_take_of_lt hl, List.getElem?_drop] at hj
      exact hj)
end
end Go.Own

/- Tokens as they lie: their cells, a row of them; '==' of two. -/
namespace Go.Mt
open Go.RowKit

def Tok.C (t : Tok) : Array Value := #[.int .u8 (t.lit.toNat : Int), .int .i64 t.len, .int .i64 t.dist]
def tks : List Tok → List Value
  | [] => []
  | t :: r => .int .u8 (t.lit.toNat : Int) :: .int .i64 t.len :: .int .i64 t.dist :: tks r
theorem tks_length : ∀ l : List Tok, (tks l).length = l.length * 3
  | [] => rfl
  | t :: r => by simp only [tks, List.length_cons, tks_length r]; omega
theorem tks_append : ∀ l r : List Tok, tks (l ++ r) = tks l ++ tks r
  | [], r => rfl
  | t :: l, r => by simp only [tks, List.cons_append, tks_append l r]
theorem tks_cons (t : Tok) (r : List Tok) : tks (t :: r) = t.C.toList ++ tks r := rfl
theorem tks_get : ∀ (l : List Tok) (k : Nat) (h : k < l.length) (j : Nat) (v : Value), l[k].C.toList[j]? = some v → (tks l)[k * 3 + j]? = some v
  | t :: r, 0, _, j, v, hv => by
    have hj : j < 3 := (List.getElem?_eq_some_iff.1 hv).1
    rw [tks_cons, Nat.zero_mul, Nat.zero_add, List.getElem?_append_left (by exact hj)]
    exact hv
  | t :: r, k + 1, h, j, v, hv => by
    rw [tks_cons, List.getElem?_append_right (by show 3 ≤ _; omega)]
    have := tks_get r k (by simpa using h) j v (by simpa using hv)
    rw [← this]
    congr 1
    show (k + 1) * 3 + j - 3 = _
    omega
theorem tks_one (l : List Tok) : ∀ u ∈ tks l, u.oneCell' = true := by
  induction l with
  | nil => simp [tks]
  | cons t r ih =>
    intro u hu
    simp only [tks, List.mem_cons] at hu
    rcases hu with rfl | rfl | rfl | hu
    · rfl
    · rfl
    · rfl
    · exact ih u hu
theorem Tok.C_inj {s t : Tok} (h : s.C = t.C) : s = t := by
  cases s; cases t
  simp only [Tok.C, Array.mk.injEq, List.cons.injEq, Value.int.injEq, true_and, and_true] at h
  obtain ⟨h1, h2, h3⟩ := h
  have h1 := BitVec.eq_of_toNat_eq (Int.ofNat.inj h1)
  simp_all
def zT : Tok := ⟨0, 0, 0⟩
end Go.Mt
namespace Go.Proofs.YtniibdglodnhoaaGreatDoor
open Go.RowKit Go.Own Go.Bv Go.Ord Go.Eq Go.Mt

theorem eu8m : Elem Tryz.prog 29 5 (.int .u8 0) 1 1 := ⟨Tryz.underlying29, by kernel_rfl, rfl, by decide⟩
theorem itz : (Tryz.prog.info? 78).bind (·.zero) = some (.agg zT.C) := by kernel_rfl
theorem its : (Tryz.prog.info? 78).map (·.size) = some 3 := by kernel_rfl
theorem its' (t : Tok) : (Tryz.prog.info? 78).map (·.size) = some t.C.size := its
theorem etk : Elem Tryz.prog 76 78 (.agg zT.C) 3 24 := ⟨Tryz.underlying76, by kernel_rfl, rfl, by decide⟩
theorem t_egT : Tryz.prog.eqGuardType Tryz.prog.depth 78 = false := by kernel_rfl
theorem eqTok (s t : Tok) (w : World) : (binOp .eql 78 (.agg s.C) (.agg t.C)).run Tryz.prog w = .ok (.bool (decide (s = t))) w := by
  have u3 := Tryz.underlying3
  have u5 := Tryz.underlying5
  have hS : Tryz.prog.underlying 78 = some (.struct (Tryz.prog.fieldsOf 78)) := by kernel_rfl
  have hp : Tryz.prog.stoodInHeld 78 = false := by kernel_rfl
  rw [run_eql_struct, show (10000 : Nat) = 9999 + 1 from rfl, run_equalIn_agg w 9999 78 _ _ hS hp]
  have hd : decide (s = t) = ((s.lit.toNat : Int) == (t.lit.toNat : Int) && s.len == t.len && s.dist == t.dist) := by
    rw [Bool.eq_iff_iff]
    simp only [decide_eq_true_eq, Bool.and_eq_true, beq_iff_eq]
    constructor
    · rintro rfl; exact ⟨⟨rfl, rfl⟩, rfl⟩
    · rintro ⟨⟨h1, h2⟩, h3⟩
      exact Tok.C_inj (by simp only [Tok.C, h1, h2, h3])
  rw [hd]
  simp only [Program.fieldsOf, Tryz.underlying78, Tok.C]
  go_simp
  by_cases h1 : (s.lit.toNat : Int) = t.lit.toNat <;> by_cases h2 : s.len = t.len <;> by_cases h3 : s.dist = t.dist <;> simp [h1, h2, h3]
theorem neTok (s t : Tok) (w : World) : (binOp .neq 78 (.agg s.C) (.agg t.C)).run Tryz.prog w = .ok (.bool (!decide (s = t))) w := by
  have h := eqTok s t w
  rw [run_eql_struct] at h
  rw [run_neq_struct]
  revert h
  generalize (Op.equalIn 10000 78 (.agg s.C) (.agg t.C)).run Tryz.prog w = r
  cases r with
  | ok b w2 => simp +contextual [Result.andThen]
  | halt x w2 => simp [Result.andThen]
end Go.Proofs.YtniibdglodnhoaaGreatDoor

/- Walks: match.size, common, find. -/
namespace Go.Proofs.YtniibdglodnhoaaGreatDoor
open Go.RowKit Go.Own Go.Bv Go.Ord Go.Eq Go.Mt

set_option maxHeartbeats 1000000 in
theorem size_calls (t : Tok) (w : World) (h0 : 0 ≤ t.len) :
    Calls Tryz.prog 83 #[.agg t.C] w fun e w' => e = .returned (.int .i64 (t.size : Nat)) ∧ Below w.heap.size w w' := by
  have hO := Own.start w
  have HS : Hid ((t.size : Int) = if t.len = 0 then 1 else t.len) := by show _ = _; unfold Tok.size; split <;> simp; omega
  generalize hW : w = wn at hO ⊢
  clear hW w h0
  obtain ⟨lit, len, dist⟩ := t
  dsimp only at HS
  by_cases hz : len = 0
  · have d1 : (len == (0 : Int)) = true := by simp [hz]
    rw [HS.out, if_pos hz]
    clear hz HS
    go_enter Tryz.func83, Tryz.ntmps83
    go_wp2_with (first | ((with_reducible refine gBox ?_); first | (refine bxA hO rfl ?_; clear hO; intro b ww hO) | (refine bx1 hO rfl rfl ?_; clear hO; intro b ww hO)) | ((with_reducible refine gLoad ?_); first | refine ldX hO 0 rfl rfl (tA rfl) (tS rfl) ?_ | refine ldC hO 0 rfl rfl (tA rfl) rfl ?_))
    go_ret
    exact ⟨rfl, hO.below⟩
  · have d1 : (len == (0 : Int)) = false := by simp [hz]
    rw [HS.out, if_neg hz]
    clear hz HS
    go_enter Tryz.func83, Tryz.ntmps83
    go_wp2_with (first | ((with_reducible refine gBox ?_); first | (refine bxA hO rfl ?_; clear hO; intro b ww hO) | (refine bx1 hO rfl rfl ?_; clear hO; intro b ww hO)) | ((with_reducible refine gLoad ?_); first | refine ldX hO 0 rfl rfl (tA rfl) (tS rfl) ?_ | refine ldC hO 0 rfl rfl (tA rfl) rfl ?_))
    go_ret
    exact ⟨rfl, hO.below⟩

theorem com_not {b : List (BitVec 8)} {d at_ k : Nat} (h : ¬ (b.getD (at_ + k) 0 = b.getD (at_ + k - d) 0)) : ¬ agree b d at_ (k + 1) := fun h1 => h (h1 k (by omega)).2

set_option maxHeartbeats 2000000 in
set_option maxRecDepth 100000 in
theorem common_calls (a : Option Addr) (n cap : Nat) (bs : List (BitVec 8)) (f d at_ : Nat) (w : World) (hR : Rd w 1 a n cap (u8s bs)) (hd : 1 ≤ d) (hf : f + d = at_) (hat : at_ < n) (hn : n ≤ 65536) :
    Calls Tryz.prog 107 #[.slice a n cap, .int .i64 (f : Int), .int .i64 (at_ : Int)] w fun e w' => e = .returned (.int .i64 (com bs d at_ 18 : Nat)) ∧ Below w.heap.size w w' := by
  have hO := Own.start w
  have hlen : bs.length = n := by have := hR.len; rw [u8s_length] at this; omega
  obtain ⟨b0, off, rfl⟩ := hR.place (by omega)
  have HR := Lib.hid hR
  have HL := Lib.hid hlen
  have HF := Lib.hid hf
  clear hR hlen hf
  generalize hW : w = wn at hO HR ⊢
  clear hW w
  obtain ⟨R, hRR⟩ : ∃ R : Nat, com bs d at_ 18 = R := ⟨_, rfl⟩
  have HRR := Lib.hid hRR
  rw [hRR]
  clear hRR
  go_enter Tryz.func107, Tryz.ntmps107
  go_wp2
  go_loopg [6] 19 (fun m c wr => ∃ k : Nat, m = 19 - k ∧ k ≤ 18 ∧ c = .int .i64 (k : Int) ∧ agree bs d at_ k ∧ Own wn wr [])
  case atStart => exact ⟨0, rfl, by omega, rfl, agree_zero _ _ _, hO⟩
  case round =>
    obtain ⟨k, rfl, hk, rfl, hA, hO1⟩ := hrel
    clear hO
    have hO := hO1
    have HA := Lib.hid hA
    clear hO1 hA
    by_cases c1 : k < 18
    · have d1 : decide ((k : Int) < 18) = true := by simp; omega
      have e1 : IntKind.i64.wrap ((at_ : Int) + (k : Int)) = (at_ : Int) + (k : Int) := by rw [IntKind.wrap_i64]; omega
      by_cases c2 : at_ + k < n
      · have d2 : decide ((at_ : Int) + (k : Int) < (n : Int)) = true := by simp; omega
        have hxy : ∃ x y : BitVec 8, (u8s bs)[f + k]? = some (.int .u8 (x.toNat : Int)) ∧ (u8s bs)[at_ + k]? = some (.int .u8 (y.toNat : Int)) ∧ ((x.toNat : Int) = y.toNat → agree bs d at_ (k + 1)) ∧ (¬ (x.toNat : Int) = y.toNat → ¬ agree bs d at_ (k + 1)) := by
          have h1 : f + k < bs.length := by rw [HL.out]; have := HF.out; omega
          have h2 : at_ + k < bs.length := by rw [HL.out]; omega
          have hx : bs.getD (at_ + k) 0 = bs[at_ + k] := by rw [List.getD_eq_getElem?_getD, List.getElem?_eq_getElem h2]; rfl
          have hy : bs.getD (at_ + k - d) 0 = bs[f + k] := by
            rw [List.getD_eq_getElem?_getD, show at_ + k - d = f + k by have := HF.out; omega, List.getElem?_eq_getElem h1]; rfl
          refine ⟨bs[f + k], bs[at_ + k], u8s_get bs _ h1, u8s_get bs _ h2, fun h => agree_succ HA.out h2 (by rw [hx, hy]; exact BitVec.eq_of_toNat_eq (by omega)), fun h => com_not (by rw [hx, hy]; intro h2; exact h (by rw [h2]))⟩
        have e2 : IntKind.i64.wrap ((f : Int) + (k : Int)) = (f : Int) + (k : Int) := by have := HF.out; rw [IntKind.wrap_i64]; omega
        obtain ⟨x, y, hx, hy, hn, hm⟩ := hxy
        have HX := Lib.hid hx
        have HY := Lib.hid hy
        have HN := Lib.hid hn
        have HM := Lib.hid hm
        clear hx hy hn hm
        have cx : wr.cell? ⟨b0, off + (f + k), none⟩ = some (.int .u8 (x.toNat : Int)) := (((hO.rd HR.out).at' (by omega)).elim fun b' h => h.elim fun o' h => by
          simp only [Option.some.injEq, Addr.mk.injEq, and_true] at h
          obtain ⟨⟨rfl, rfl⟩, _, hc⟩ := h
          rw [hc _ (by have := HF.out; omega)]; exact HX.out)
        have cy : wr.cell? ⟨b0, off + (at_ + k), none⟩ = some (.int .u8 (y.toNat : Int)) := (((hO.rd HR.out).at' (by omega)).elim fun b' h => h.elim fun o' h => by
          simp only [Option.some.injEq, Addr.mk.injEq, and_true] at h
          obtain ⟨⟨rfl, rfl⟩, _, hc⟩ := h
          rw [hc _ (by omega)]; exact HY.out)
        have hfk : f + k < n := by have := HF.out; omega
        by_cases c3 : (x.toNat : Int) = y.toNat
        · have d3 : ((x.toNat : Int) == (y.toNat : Int)) = true := by simp [c3]
          have HN := Lib.hid (HN.out c3)
          clear HM c3
          go_wp2
          go_quiet (fail)
          all_goals go_wp2
          go_roundg (19 - (k + 1))
          case measure => omega
          case rel => exact ⟨k + 1, rfl, by omega, by go_num, HN.out, hO.drewN _⟩
        · have d3 : ((x.toNat : Int) == (y.toNat : Int)) = false := by simp [c3]
          have HM := Lib.hid (HM.out c3)
          have HE := Lib.hid (com_eq HA.out hk (.inr HM.out))
          clear HN c3
          go_wp2
          go_quiet (fail)
          all_goals go_wp2
          go_ret
          exact ⟨by rw [← HRR.out, HE.out]; rfl, (hO.drewN _).below⟩
      · have d2 : decide ((at_ : Int) + (k : Int) < (n : Int)) = false := by simp; omega
        have HE : Hid (com bs d at_ 18 = k) := com_eq HA.out hk (.inr fun h => c2 (by have := (h k (by omega)).1; rw [HL.out] at this; exact this))
        go_wp2
        go_quiet (fail)
        all_goals go_wp2
        go_ret
        exact ⟨by rw [← HRR.out, HE.out]; rfl, (hO.drewN _).below⟩
    · obtain rfl : k = 18 := by omega
      have HE : Hid (com bs d at_ 18 = 18) := com_eq HA.out hk (.inl rfl)
      go_wp2
      go_quiet (fail)
      all_goals go_wp2
      go_ret
      exact ⟨by rw [← HRR.out, HE.out]; rfl, (hO.drewN _).below⟩
end Go.Proofs.YtniibdglodnhoaaGreatDoor

/- Arms on numbers as bit vectors. -/
namespace Go.Bva
open Go.RowKit Go.Bv

section
variable {P : Program} {ops : Array Oper} {Q : Exit → Act → World → Prop} {a : Act} {w : World} {rest : List Oper}
variable {d : Option Tmp} {ty : TypeId} {pos : String} {aft : Array Edge}

theorem gBin {op : BinOp} {t yt : TypeId} {x y : Operand} (h : wpList P ops Q ({ dst := d, op := .binOp op t x y yt, type := ty, pos := pos, after := aft, guard := none } :: rest) a w) :
    wpList P ops Q ({ dst := d, op := .binOp op t x y yt, type := ty, pos := pos, after := aft, guard := none } :: rest) a w := h
theorem gCnv {s t : TypeId} {x : Operand} (h : wpList P ops Q ({ dst := d, op := .convert s t x, type := ty, pos := pos, after := aft, guard := none } :: rest) a w) :
    wpList P ops Q ({ dst := d, op := .convert s t x, type := ty, pos := pos, after := aft, guard := none } :: rest) a w := h

theorem step_val {o : Op} {v : Value} (hr : (execOp a.eval { dst := d, op := o, type := ty, pos := pos, after := aft, guard := none }).run P w = .ok (.value v) w)
    (h : wpList P ops Q rest (a.put d v) w) : wpList P ops Q ({ dst := d, op := o, type := ty, pos := pos, after := aft, guard := none } :: rest) a w := by
  refine wpList_plain rfl fun K hK => ?_
  unfold Oper.wp
  rw [hr]
  exact hK _ _ h

/-- the operations behind words that the walk's simp does not open -/
def badd (u v : BitVec 32) : BitVec 32 := u + v
def bsub (u v : BitVec 32) : BitVec 32 := u - v
def bmul (u v : BitVec 32) : BitVec 32 := u * v
def bxor (u v : BitVec 32) : BitVec 32 := u ^^^ v
def bor (u v : BitVec 32) : BitVec 32 := u ||| v
def bshl (u : BitVec 32) (n : Nat) : BitVec 32 := u <<< n
def bshr (u : BitVec 32) (n : Nat) : BitVec 32 := u >>> n
def bw32 (u : BitVec 8) : BitVec 32 := u.setWidth 32
def bk (m : Int) : BitVec 32 := BitVec.ofInt 32 m

theorem add_u32 {t yt : TypeId} {x y : Operand} {u v : BitVec 32} (hx : a.eval x = .int .u32 (u.toNat : Int)) (hy : a.eval y = .int .u32 (v.toNat : Int))
    (h : wpList P ops Q rest (a.put d (.int .u32 ((badd u v).toNat : Int))) w) : wpList P ops Q ({ dst := d, op := .binOp .add t x y yt, type := ty, pos := pos, after := aft, guard := none } :: rest) a w := by
  unfold badd at h
  refine step_val ?_ h
  simp only [execOp, hx, hy]
  simp [go_sem, binOp, eqGuard, Op.intArith, IntKind.wrap_u32', BitVec.toNat_add]
theorem sub_u32 {t yt : TypeId} {x y : Operand} {u v : BitVec 32} (hx : a.eval x = .int .u32 (u.toNat : Int)) (hy : a.eval y = .int .u32 (v.toNat : Int))
    (h : wpList P ops Q rest (a.put d (.int .u32 ((bsub u v).toNat : Int))) w) : wpList P ops Q ({ dst := d, op := .binOp .sub t x y yt, type := ty, pos := pos, after := aft, guard := none } :: rest) a w := by
  unfold bsub at h
  refine step_val ?_ h
  simp only [execOp, hx, hy]
  simp [go_sem, binOp, eqGuard, Op.intArith, IntKind.wrap_u32', sub32]
theorem mul_u32 {t yt : TypeId} {x y : Operand} {u v : BitVec 32} (hx : a.eval x = .int .u32 (u.toNat : Int)) (hy : a.eval y = .int .u32 (v.toNat : Int))
    (h : wpList P ops Q rest (a.put d (.int .u32 ((bmul u v).toNat : Int))) w) : wpList P ops Q ({ dst := d, op := .binOp .mul t x y yt, type := ty, pos := pos, after := aft, guard := none } :: rest) a w := by
  unfold bmul at h
  refine step_val ?_ h
  simp only [execOp, hx, hy]
  simp [go_sem, binOp, eqGuard, Op.intArith, IntKind.wrap_u32', BitVec.toNat_mul]
theorem xor_u32 {t yt : TypeId} {x y : Operand} {u v : BitVec 32} (hx : a.eval x = .int .u32 (u.toNat : Int)) (hy : a.eval y = .int .u32 (v.toNat : Int))
    (h : wpList P ops Q rest (a.put d (.int .u32 ((bxor u v).toNat : Int))) w) : wpList P ops Q ({ dst := d, op := .binOp .xor t x y yt, type := ty, pos := pos, after := aft, guard := none } :: rest) a w := by
  unfold bxor at h
  refine step_val ?_ h
  simp only [execOp, hx, hy]
  simp [go_sem, binOp, eqGuard, Op.intArith, xor32]
theorem or_u32 {t yt : TypeId} {x y : Operand} {u v : BitVec 32} (hx : a.eval x = .int .u32 (u.toNat : Int)) (hy : a.eval y = .int .u32 (v.toNat : Int))
    (h : wpList P ops Q rest (a.put d (.int .u32 ((bor u v).toNat : Int))) w) : wpList P ops Q ({ dst := d, op := .binOp .or t x y yt, type := ty, pos := pos, after := aft, guard := none } :: rest) a w := by
  unfold bor at h
  refine step_val ?_ h
  simp only [execOp, hx, hy]
  simp [go_sem, binOp, eqGuard, Op.intArith, or32]
theorem ku32 {x : Operand} {m : Int} (hx : a.eval x = .int .u32 m) (hm : 0 ≤ m ∧ m < 4294967296) : a.eval x = .int .u32 ((bk m).toNat : Int) := by
  unfold bk
  rw [hx, BitVec.toNat_ofInt]
  congr 1
  omega
theorem w8 {x : Operand} {u : BitVec 8} (hx : a.eval x = .int .u32 (u.toNat : Int)) : a.eval x = .int .u32 ((bw32 u).toNat : Int) := by
  unfold bw32
  rw [hx, BitVec.toNat_setWidth]
  congr 1
  have := u.isLt
  omega
theorem shl_u32 {t yt : TypeId} {x y : Operand} {u : BitVec 32} {k : IntKind} {n : Nat} (hx : a.eval x = .int .u32 (u.toNat : Int)) (hy : a.eval y = .int k (n : Int)) (hn : n < 32)
    (h : wpList P ops Q rest (a.put d (.int .u32 ((bshl u n).toNat : Int))) w) : wpList P ops Q ({ dst := d, op := .binOp .shl t x y yt, type := ty, pos := pos, after := aft, guard := none } :: rest) a w := by
  unfold bshl at h
  refine step_val ?_ h
  simp only [execOp, hx, hy]
  have h0 : ¬ ((n : Int) < 0) := by omega
  have hm : min n 32 = n := by omega
  simp [go_sem, binOp, eqGuard, Op.shift, IntKind.wrap_u32', Nat.shiftLeft_eq, hm, h0]
theorem shr_u32 {t yt : TypeId} {x y : Operand} {u : BitVec 32} {k : IntKind} {n : Nat} (hx : a.eval x = .int .u32 (u.toNat : Int)) (hy : a.eval y = .int k (n : Int)) (hn : n < 32)
    (h : wpList P ops Q rest (a.put d (.int .u32 ((bshr u n).toNat : Int))) w) : wpList P ops Q ({ dst := d, op := .binOp .shr t x y yt, type := ty, pos := pos, after := aft, guard := none } :: rest) a w := by
  unfold bshr at h
  refine step_val ?_ h
  simp only [execOp, hx, hy]
  have h0 : ¬ ((n : Int) < 0) := by omega
  have hm : min n 32 = n := by omega
  simp [go_sem, binOp, eqGuard, Op.shift, IntKind.wrap_u32', Nat.shiftRight_eq_div_pow, hm, h0, Int.fdiv_eq_ediv_of_nonneg _ (show (0 : Int) ≤ 2 ^ n by exact_mod_cast Nat.zero_le _)]
end
end Go.Bva

/- Walks: match.find, Find. -/
namespace Go.Own
open Go.RowKit Go.Ord
section
variable {P : Program} {ops : Array Oper} {Q : Exit → Act → World → Prop} {a : Act} {w : World} {rest : List Oper}
variable {d : Option Tmp} {ty : TypeId} {pos : String} {aft : Array Edge}
theorem gMin {args : Array Operand} {ats : Array TypeId} (h : wpList P ops Q ({ dst := d, op := .call { callee := .builtin .min, args := args, argTypes := ats }, type := ty, pos := pos, after := aft, guard := none } :: rest) a w) :
    wpList P ops Q ({ dst := d, op := .call { callee := .builtin .min, args := args, argTypes := ats }, type := ty, pos := pos, after := aft, guard := none } :: rest) a w := h
/-- 'min(x, y)' of two numbers: what it is, is told -/
theorem minV {x y : Operand} {ats : Array TypeId} {k k' : IntKind} {m n : Int} (r : Int) (hr : (if n < m then n else m) = r) (hx : a.eval x = .int k m) (hy : a.eval y = .int k' n)
    (h : wpList P ops Q rest (a.put d (.int k r)) w) :
    wpList P ops Q ({ dst := d, op := .call { callee := .builtin .min, args := #[x, y], argTypes := ats }, type := ty, pos := pos, after := aft, guard := none } :: rest) a w := by
  refine Go.Bva.step_val ?_ h
  subst hr
  simp [execOp, invoke, resolve, builtin, hx, hy, run_min_int2]
end
end Go.Own
namespace Go.Proofs.YtniibdglodnhoaaGreatDoor
open Go.RowKit Go.Own Go.Bv Go.Ord Go.Eq Go.Mt

def bestT (bs : List (BitVec 8)) (at_ k : Nat) : Tok := ⟨0, ((best bs at_ k).1 : Nat), ((best bs at_ k).2 : Nat)⟩

set_option maxHeartbeats 2000000 in
set_option maxRecDepth 100000 in
theorem find_calls (a : Option Addr) (n cap : Nat) (bs : List (BitVec 8)) (at_ : Nat) (w : World) (hR : Rd w 1 a n cap (u8s bs)) (hat : at_ < n) (hn : n ≤ 65536) :
    Calls Tryz.prog 82 #[.slice a n cap, .int .i64 (at_ : Int)] w fun e w' => e = .returned (.tuple #[.agg (bestT bs at_ (min 256 at_)).C, .bool (decide (3 ≤ (found bs at_).1))]) ∧ Below w.heap.size w w' := by
  have hO := Own.start w
  have HR := Lib.hid hR
  clear hR
  generalize hW : w = wn at hO HR ⊢
  clear hW w
  obtain ⟨M, hM⟩ : ∃ M, min 256 at_ = M := ⟨_, rfl⟩
  have HM := Lib.hid hM
  have hM256 : M ≤ 256 := by omega
  have HMI : Hid ((if (at_ : Int) < 256 then (at_ : Int) else 256) = (M : Int)) := by show _ = _; split <;> omega
  rw [hM]
  clear hM
  go_enter Tryz.func82, Tryz.ntmps82
  go_wp2_with (first
    | ((with_reducible refine gAlloc (T := 78) ?_); refine own_alloc hO _ _ itz ?_; clear hO; intro bx ww hO))
  go_loopg [6] 257 (fun m c wr => ∃ k : Nat, m = 257 - k ∧ k ≤ M ∧ c = .int .i64 ((k + 1 : Nat) : Int) ∧ Own wn wr [.blk bx (.cells (bestT bs at_ k).C 78 (0,0))])
  case atStart => exact ⟨0, rfl, by omega, rfl, hO⟩
  case round =>
    obtain ⟨k, rfl, hk, rfl, hO1⟩ := hrel
    clear hO
    have hO := hO1
    clear hO1
    by_cases c1 : k < M
    · have d1 : decide (((k : Int) + 1) ≤ (M : Int)) = true := by have := HM.out; simp; omega
      obtain ⟨R, hRR⟩ : ∃ R : Nat, com bs (k + 1) at_ 18 = R := ⟨_, rfl⟩
      have HB : Hid (best bs at_ (k + 1) = if (best bs at_ k).1 < R then (R, k + 1) else best bs at_ k) := by show _ = _; rw [← hRR]; rfl
      have hc := fun w h => common_calls a n cap bs (at_ - (k + 1)) (k + 1) at_ w h (by omega) (by have := HM.out; omega) hat hn
      rw [hRR] at hc
      have e1 : ((at_ - (k + 1) : Nat) : Int) = (at_ : Int) - ((k : Int) + 1) := by have := HM.out; omega
      rw [e1] at hc
      have HC := Lib.hid hc
      clear hc hRR e1
      have e2 : wrap64 ((at_ : Int) - ((k : Int) + 1)) = (at_ : Int) - ((k : Int) + 1) := by unfold wrap64; have := HM.out; omega
      unfold bestT at hO
      obtain ⟨q, hq⟩ : ∃ q, (best bs at_ k).1 = q := ⟨_, rfl⟩
      obtain ⟨r, hr⟩ : ∃ r, (best bs at_ k).2 = r := ⟨_, rfl⟩
      have HB1 : Hid (bestT bs at_ (k + 1) = if q < R then ⟨0, (R : Int), ((k + 1 : Nat) : Int)⟩ else ⟨0, (q : Int), (r : Int)⟩) := by
        show _ = _
        unfold bestT
        rw [HB.out, hq]
        split
        · rfl
        · rw [hq, hr]
      rw [hq, hr] at hO
      clear hq hr HB
      by_cases c2 : q < R
      · have d2 : decide (q < R) = true := by simp; omega
        have HB2 : Hid (bestT bs at_ (k + 1) = ⟨0, (R : Int), ((k + 1 : Nat) : Int)⟩) := by show _ = _; rw [HB1.out, if_pos c2]
        clear HB1
        go_wp2_with (first
          | (go_at_call 107; refine (HC.out _ (hO.rd HR.out)).mono ?_; rintro e ww ⟨rfl, hb⟩; replace hO := hO.call hb; clear hb)
          | ((with_reducible refine gBld (T := 78) ?_); refine own_bld (Tok.C ⟨0, (R : Int), ((k : Int) + 1)⟩) (by kernel_rfl) ?_)
          | ((with_reducible refine gMin ?_); refine minV _ HMI.out rfl rfl ?_)
          | ((with_reducible refine gLoad ?_); first | refine ldX hO 0 rfl rfl (tA rfl) (tS rfl) ?_ | refine ldC hO 0 rfl rfl (tA rfl) rfl ?_)
          | ((with_reducible refine gStore ?_); first | (refine stX hO 0 rfl rfl rfl rfl rfl (tS rfl) ?_; clear hO; intro ww hO) | (refine stC hO 0 rfl rfl rfl (ltb rfl) rfl (tS rfl) ?_; clear hO; intro ww hO)))
        go_roundg (257 - (k + 1))
        case measure => omega
        case rel => exact ⟨k + 1, rfl, by omega, by go_num, by rw [HB2.out]; exact hO⟩
      · have d2 : decide (q < R) = false := by simp; omega
        have HB2 : Hid (bestT bs at_ (k + 1) = ⟨0, (q : Int), (r : Int)⟩) := by show _ = _; rw [HB1.out, if_neg c2]
        clear HB1
        go_wp2_with (first
          | (go_at_call 107; refine (HC.out _ (hO.rd HR.out)).mono ?_; rintro e ww ⟨rfl, hb⟩; replace hO := hO.call hb; clear hb)
          | ((with_reducible refine gMin ?_); refine minV _ HMI.out rfl rfl ?_)
          | ((with_reducible refine gLoad ?_); first | refine ldX hO 0 rfl rfl (tA rfl) (tS rfl) ?_ | refine ldC hO 0 rfl rfl (tA rfl) rfl ?_)
          | ((with_reducible refine gStore ?_); first | (refine stX hO 0 rfl rfl rfl rfl rfl (tS rfl) ?_; clear hO; intro ww hO) | (refine stC hO 0 rfl rfl rfl (ltb rfl) rfl (tS rfl) ?_; clear hO; intro ww hO)))
        go_roundg (257 - (k + 1))
        case measure => omega
        case rel => exact ⟨k + 1, rfl, by omega, by go_num, by rw [HB2.out]; exact hO⟩
    · obtain rfl : k = M := by omega
      have HF : Hid ((best bs at_ k).1 = (found bs at_).1) := by show _ = _; unfold found; rw [HM.out]
      unfold bestT at hO
      obtain ⟨q, hq⟩ : ∃ q, (best bs at_ k).1 = q := ⟨_, rfl⟩
      obtain ⟨r, hr⟩ : ∃ r, (best bs at_ k).2 = r := ⟨_, rfl⟩
      rw [hq, hr] at hO
      have HQ : Hid (bestT bs at_ k = ⟨0, (q : Int), (r : Int)⟩) := by show _ = _; unfold bestT; rw [hq, hr]
      have HF2 : Hid ((found bs at_).1 = q) := by show _ = _; rw [← HF.out, hq]
      clear hq hr HF
      go_wp2_with (first
        | ((with_reducible refine gMin ?_); refine minV _ HMI.out rfl rfl ?_)
        | ((with_reducible refine gLoad ?_); first | refine ldX hO 0 rfl rfl (tA rfl) (tS rfl) ?_ | refine ldC hO 0 rfl rfl (tA rfl) rfl ?_)
        | ((with_reducible refine gStore ?_); first | (refine stX hO 0 rfl rfl rfl rfl rfl (tS rfl) ?_; clear hO; intro ww hO) | (refine stC hO 0 rfl rfl rfl (ltb rfl) rfl (tS rfl) ?_; clear hO; intro ww hO)))
      refine bodyPost_ret (res_ct rfl _ _ bx 78 (Tok.C ⟨0, (q : Int), (r : Int)⟩) (0,0) _ rfl (hO.blk 0 rfl) Tryz.underlying78 rfl (its' _)) rfl ⟨?_, hO.below⟩
      rw [HQ.out, HF2.out]
      simp
      omega
end Go.Proofs.YtniibdglodnhoaaGreatDoor

/- Walks: slices.Clip, match.Tokens. -/
namespace Go
/-- 'wp_scope_jumps' with a number of the proof's own, what is handed on behind a name; what stands behind the label is walked once -/
theorem wp_scope_ghost {P : Program} {Q : Exit → Act → World → Prop} {a : Act} {w : World} {c X : Code} (l : Nat) (I : Nat → Act → World → Prop) (hf : findLabel c l = some (.seq .skip X))
    (first : ∀ K : Act → World → Prop, (∀ n a w, I n a w → X.wp P (Exit.jump l K Q) a w) → c.wp P (Exit.jump l K Q) a w)
    (pass : ∀ n a w, I n a w → ∀ K : Act → World → Prop, (∀ m a w, m < n → I m a w → K a w) → X.wp P (Exit.jump l K Q) a w) : (Code.scope c).wp P Q a w := by
  refine wp_scope_jumps l (fun a w => ∃ n, I n a w) (fun a w => leastOf (fun n => I n a w)) hf (first _ fun n a w h => pass n a w h _ fun m a' w' _ h' => ⟨m, h'⟩) ?_
  intro a w hI
  have hs := leastOf_spec hI
  refine wp_seq (wp_skip ?_)
  exact pass _ a w hs.1 _ fun m a' w' hlt hI' => ⟨⟨m, hI'⟩, Nat.lt_of_le_of_lt ((leastOf_spec ⟨m, hI'⟩).2 m hI') hlt⟩
@[go_sem] theorem Exit.jump_normal {l : Nat} {J : Act → World → Prop} {Q : Exit → Act → World → Prop} {a : Act} {w : World} : Exit.jump l J Q .normal a w = Q .normal a w := rfl
@[go_sem] theorem Exit.jump_ret {l : Nat} {J : Act → World → Prop} {Q : Exit → Act → World → Prop} {a : Act} {w : World} : Exit.jump l J Q .ret a w = Q .ret a w := rfl
end Go
namespace Go.Own
/-- of what a call has made, one thing -/
theorem Own.mem1 {w0 w : World} {L : List Res} (h : Own w0 w L) {r : Res} (hr : r ∈ L) : Own w0 w [r] :=
  ⟨h.below, fun q hq => by rw [List.mem_singleton] at hq; rw [hq]; exact h.mem r hr, List.pairwise_singleton _ _⟩
end Go.Own
namespace Go.Mt
theorem tokens_step {bs : List (BitVec 8)} {n p : Nat} {L : List Tok} (hn : bs.length = n) (hp : p < n) (h : tokens bs = L ++ toksFrom bs n p) : tokens bs = (L ++ [tokAt bs p]) ++ toksFrom bs n (p + (tokAt bs p).size) := by
  obtain ⟨f, rfl⟩ : ∃ f, n = f + 1 := ⟨n - 1, by omega⟩
  have hs := Tok.ok_size (tokAt_ok (b := bs) (at_ := p))
  rw [h, toksFrom, if_pos (by omega), List.append_assoc, toksFrom_fuel f (f + 1) _ (by omega) (by omega)]
  rfl
theorem tokAt_len (b : List (BitVec 8)) (p : Nat) : 0 ≤ (tokAt b p).len := (Tok.ok_len (tokAt_ok (b := b) (at_ := p))).1
end Go.Mt
namespace Go.Proofs.YtniibdglodnhoaaGreatDoor
open Go.RowKit Go.Own Go.Bv Go.Ord Go.Eq Go.Mt

set_option maxHeartbeats 1000000 in
theorem clip_calls (a : Option Addr) (n cap : Nat) (h : n ≤ cap) (w : World) (hn : a = none → n = 0 ∧ cap = 0) :
    Calls Tryz.prog 81 #[.slice a n cap] w fun e w' => e = .returned (.slice a n n) ∧ w = w' := by
  cases a with
  | none =>
    obtain ⟨rfl, rfl⟩ := hn rfl
    clear hn h
    go_enter Tryz.func81, Tryz.ntmps81
    go_wp2
    go_ret
    exact ⟨rfl, rfl⟩
  | some ad =>
    clear hn
    go_enter Tryz.func81, Tryz.ntmps81
    go_wp2
    go_ret
    exact ⟨rfl, rfl⟩

theorem rd_clip {w : World} {sz n cap : Nat} {a : Option Addr} {xs : List Value} (h : Rd w sz a n cap xs) : Rd w sz a n n xs :=
  ⟨h.len, Nat.le_refl _, Nat.le_trans h.le h.max, fun ha => ⟨(h.nil ha).1, (h.nil ha).1⟩, h.at'⟩

set_option maxHeartbeats 4000000 in
set_option maxRecDepth 100000 in
theorem tokens_calls (a : Option Addr) (n cap : Nat) (bs : List (BitVec 8)) (w : World) (hR : Rd w 1 a n cap (u8s bs)) (hn : n ≤ 65536) :
    Calls Tryz.prog 52 #[.slice a n cap] w fun e w' => ∃ a' T c', T = (tokens bs).length ∧ e = .returned (.tuple #[.slice a' T T, .int .i64 0]) ∧ Below w.heap.size w w' ∧ w'.ownsRow w.heap.size 78 3 (.slice a' T c') T (tks (tokens bs)) := by
  have hO := Own.start w
  have hlen : bs.length = n := by have := hR.len; rw [u8s_length] at this; omega
  have HL := Lib.hid hlen
  have HR := Lib.hid hR
  clear hR hlen
  have d1 : decide ((65536 : Int) < (n : Int)) = false := by simp; omega
  generalize hW : w = wn at hO HR ⊢
  clear hW w
  go_enter Tryz.func52, Tryz.ntmps52
  go_wp2
  refine wp_scope_ghost 0 (fun m a' w' => ∃ (p : Nat) (L : List Tok) (aO : Option Addr) (T cO : Nat), m = n - p ∧ p ≤ n ∧ T = L.length ∧ T ≤ p ∧ tokens bs = L ++ toksFrom bs n p ∧ Own wn w' [.sl 78 3 (.slice aO T cO) T (tks L)] ∧
    ∃ (u6 u7 u8 u9 u10 u11 u12 u13 u14 u15 u16 u17 u18 u19 u20 u21 u22 u23 u24 u25 u26 u27 u28 u29 u30 u31 u32 u33 u34 u35 u36 u37 : Value), a' = { tmps := #[.slice a n cap, undef, .slice none 0 0, .int .i64 0, .slice aO T cO, .int .i64 (p : Int), u6, u7, u8, u9, u10, u11, u12, u13, u14, u15, u16, u17, u18, u19, u20, u21, u22, u23, u24, u25, u26, u27, u28, u29, u30, u31, u32, u33, u34, u35, u36, u37], defers := [] }) rfl ?_ ?_
  · intro K hX
    have HX := Lib.hid hX
    clear hX
    go_wp2
    go_step3
    go_step
    go_step
    exact HX.out _ _ _ ⟨0, [], none, 0, 0, rfl, by omega, rfl, by omega, by rw [HL.out.symm]; rfl, hO.add (Below.refl _ _) (World.ownsRow_nil _ _ _ _), _, _, _, _, _, _, _, _, _, _, _, _, _, _, _, _, _, _, _, _, _, _, _, _, _, _, _, _, _, _, _, _, rfl⟩
  · rintro m a' w' ⟨p, L, aO, T, cO, rfl, hp, hT, hTp, hL, hO1, u6, u7, u8, u9, u10, u11, u12, u13, u14, u15, u16, u17, u18, u19, u20, u21, u22, u23, u24, u25, u26, u27, u28, u29, u30, u31, u32, u33, u34, u35, u36, u37, rfl⟩ K hK
    have HK := Lib.hid hK
    have HTT := Lib.hid hT
    clear hK hO hT
    have hO := hO1
    clear hO1
    dsimp only
    by_cases c1 : p < n
    · have d2 : ((p : Int) == (n : Int)) = false := by simp; omega
      have HS := Lib.hid (tokens_step HL.out c1 hL)
      have HLen := Lib.hid (tokAt_tell (b := bs) (at_ := p) (by rw [HL.out]; exact c1)).1
      have H0 := Lib.hid (Tok.ok_size (tokAt_ok (b := bs) (at_ := p)))
      have hz := fun w => size_calls (tokAt bs p) w (tokAt_len bs p)
      have hx := u8s_get bs p (by rw [HL.out]; exact c1)
      have HX0 : Hid ((if decide (3 ≤ (found bs p).1) = true then bestT bs p (min 256 p) else ⟨bs[p]'(by rw [HL.out]; exact c1), 0, 0⟩) = tokAt bs p) := by
        show _ = _
        unfold tokAt bestT found
        simp only [decide_eq_true_eq]
        split
        · rfl
        · rw [List.getD_eq_getElem?_getD, List.getElem?_eq_getElem (by rw [HL.out]; exact c1)]; rfl
      generalize bs[p]'(by rw [HL.out]; exact c1) = x at HX0 hx
      obtain ⟨tt, ht⟩ : ∃ tt, tokAt bs p = tt := ⟨_, rfl⟩
      obtain ⟨bt, hb⟩ : ∃ bt, bestT bs p (min 256 p) = bt := ⟨_, rfl⟩
      obtain ⟨B, hB⟩ : ∃ B, decide (3 ≤ (found bs p).1) = B := ⟨_, rfl⟩
      have hf := fun w h => find_calls a n cap bs p w h c1 hn
      rw [ht] at HS HLen H0 hz HX0
      rw [hb, hB] at hf HX0
      rw [HL.out] at HLen
      obtain ⟨sz, hsz⟩ : ∃ sz, tt.size = sz := ⟨_, rfl⟩
      rw [hsz] at HS HLen H0 hz
      have HF := Lib.hid hf
      have HZ := Lib.hid hz
      have HX := Lib.hid hx
      clear hf hz hx ht hb hB hL hsz
      have e1 : wrap64 ((p : Int) + (sz : Int)) = ((p + sz : Nat) : Int) := by unfold wrap64; have := HLen.out; omega
      obtain ⟨b0, off, rfl⟩ := HR.out.place (by omega)
      cases B
      all_goals
        simp only [Bool.false_eq_true, if_true, if_false] at HX0
        have HX1 := Lib.hid HX0.out
        go_wp2_with (first
          | (go_at_call 82; refine (HF.out _ (hO.rd HR.out)).mono ?_; rintro e ww ⟨rfl, hb⟩; replace hO := hO.call hb; clear hb)
          | ((with_reducible refine gAlloc (T := 78) ?_); refine own_alloc hO _ _ itz ?_; clear hO; intro bx ww hO)
          | ((with_reducible refine gBld (T := 78) ?_); refine own_bld (Tok.C ⟨x, 0, 0⟩) (by kernel_rfl) ?_)
          | ((with_reducible refine gLoad ?_); refine ld_rd (hO.rd HR.out) rfl (HX.out) (tA rfl) ?_)
          | ((with_reducible refine gStore ?_); first | (refine stX hO 0 rfl rfl rfl rfl rfl (tS rfl) ?_; clear hO; intro ww hO) | (refine stC hO 0 rfl rfl rfl (ltb rfl) rfl (tS rfl) ?_; clear hO; intro ww hO)))
        rw [HX1.out] at hO
        change Own wn _ [.blk bx (.cells tt.C 78 (0, 0)), .sl 78 3 (.slice aO T cO) T (tks L)] at hO
        refine wp_region_textS (fun w' => Own wn w' [.blk bx (.cells tt.C 78 (0,0))]) (fun op => match op with | .load _ _ => true | _ => false) (by kernel_rfl) (by kernel_rfl) (hO.drew.mem1 (by simp)) ?_
        replace hO := hO.drew
        generalize World.drew _ = wd at hO ⊢
        go_wp2_with (first
          | (((with_reducible refine gIL ?_); first | refine wpI_ldS (fun w' hS => hS.blk 0 rfl) rfl rfl (tA rfl) (tS rfl) ?_); first | (refine wpI_act (by simp only [Act.put, List.setIfInBounds_toArray, List.set_cons_succ, List.set_cons_zero]; rfl) ?_) | skip)
          | ((with_reducible refine gBuild ?_); refine own_build hO 76 1 _ etk tt.C (by omega) (by omega) (by kernel_rfl) rfl ?_; clear hO; intro g ww hO)
          | ((with_reducible refine gAppend ?_); refine own_append hO 2 _ _ 76 etk rfl rfl rfl (hO.rdAt 0 rfl) (tks_one [tt]) (T + 1) rfl (by simp [maxLen]; omega) (by omega) ?_; clear hO; intro a2 c2 ww hO)
          | (go_at_call 83; refine (HZ.out _).mono ?_; rintro e ww ⟨rfl, hb⟩; replace hO := hO.call hb; clear hb)
          | ((with_reducible refine gI ?_); refine wpI_step rfl rfl (by kernel_rfl) ?_; intro K hK; have HK := Lib.hid hK; clear hK) | ((with_reducible refine gI ?_); first | refine wpI_skip rfl ?_ | refine wpI_want rfl ?_) | ((with_reducible refine gOnlyK HK.out ?_ ?_); exact hO.mem1 (by simp); clear HK K; first | (refine wpI_act (by simp only [Act.put, List.setIfInBounds_toArray, List.set_cons_succ, List.set_cons_zero]; rfl) ?_) | skip) | (with_reducible refine wpI_nil ?_))
        go_step3
        have hm := HLen.out
        have h0 := H0.out
        rw [e1]
        refine ⟨rfl, HK.out (n - (p + sz)) _ _ (by omega) ⟨p + sz, L ++ [tt], a2, T + 1, c2, rfl, HLen.out, by rw [List.length_append, HTT.out]; rfl, by omega, HS.out, ?_, _, _, _, _, _, _, _, _, _, _, _, _, _, _, _, _, _, _, _, _, _, _, _, _, _, _, _, _, _, _, _, _, rfl⟩⟩
        rw [tks_append]
        exact hO.sub (by repeat first | exact List.Sublist.refl _ | apply List.Sublist.cons)
    · obtain rfl : p = n := by omega
      have HT : Hid (tokens bs = L) := by show _ = _; rw [hL, toksFrom_stop (by rw [HL.out]; exact Nat.le_refl _), List.append_nil]
      have hcl := fun w => clip_calls aO T cO (hO.rdAt 0 rfl).le w (hO.rdAt 0 rfl).nil
      have HCL := Lib.hid hcl
      clear hcl hL
      go_wp2_with (first
          | (go_at_call 81; refine (HCL.out _).mono ?_; rintro e ww ⟨rfl, rfl⟩))
      simp only [Exit.jump]
      go_ret2
      exact ⟨aO, T, cO, by rw [HT.out]; exact HTT.out, rfl, hO.below, by rw [HT.out]; exact hO.row 0 rfl⟩
theorem tokens_callsN (a : Option Addr) (n cap : Nat) (bs : List (BitVec 8)) (T : Nat) (hT : (tokens bs).length = T) (w : World) (hR : Rd w 1 a n cap (u8s bs)) (hn : n ≤ 65536) :
    Calls Tryz.prog 52 #[.slice a n cap] w fun e w' => ∃ a' c', e = .returned (.tuple #[.slice a' T T, .int .i64 0]) ∧ Below w.heap.size w w' ∧ w'.ownsRow w.heap.size 78 3 (.slice a' T c') T (tks (tokens bs)) := by
  subst hT
  refine (tokens_calls a n cap bs w hR hn).mono ?_
  rintro e w' ⟨a', N, c', rfl, he, hb, hr⟩
  exact ⟨a', c', he, hb, hr⟩
end Go.Proofs.YtniibdglodnhoaaGreatDoor

/- Walks: the document's Same; the law's live. -/
namespace Go.Own
open Go.RowKit Go.Ord Go.Mt
section
variable {P : Program} {ops : Array Oper} {Q : Exit → Act → World → Prop} {a : Act} {w : World} {rest : List Oper}
variable {d : Option Tmp} {ty : TypeId} {pos : String} {aft : Array Edge}
/-- a token out of a row of them -/
theorem ld_tok {T : TypeId} {x : Operand} {b off j k n cap : Nat} {l : List Tok} {t : Tok} (hR : Rd w 3 (some ⟨b, off, none⟩) n cap (tks l)) (ht : l[k]? = some t)
    (hx : a.eval x = .pointer (some ⟨b, j, none⟩)) (hj : j = off + k * 3) (hT : aggT P T = some true) (hs : (P.info? T).map (·.size) = some 3)
    (h : wpList P ops Q rest (a.put d (.agg t.C)) w) :
    wpList P ops Q ({ dst := d, op := .load T x, type := ty, pos := pos, after := aft, guard := none } :: rest) a w := by
  obtain ⟨hk, he⟩ := List.getElem?_eq_some_iff.1 ht
  subst hj
  exact ld_rds t.C.toList hR hx (fun i v hv => tks_get l k hk i v (by rw [he]; exact hv)) hT hs (by show 0 < 3; omega) h
end
end Go.Own
namespace Go.Mt
end Go.Mt
namespace Go.Proofs.YtniibdglodnhoaaGreatDoor
open Go.RowKit Go.Own Go.Bv Go.Ord Go.Eq Go.Mt

end Go.Proofs.YtniibdglodnhoaaGreatDoor
