/- Walk of the document's From, of enough octets. -/
import Derived.Test.YtekiloagckkneaaDoorVr
import Derived.Test.YtekiloagckkneaaDoorPh
namespace Go.Bva
open Go.RowKit Go.Bv
section
variable {P : Program} {ops : Array Oper} {Q : Exit → Act → World → Prop} {a : Act} {w : World} {rest : List Oper}
variable {d : Option Tmp} {ty : TypeId} {pos : String} {aft : Array Edge}
def bm256 (u : BitVec 64) : BitVec 64 := 256#64 * u
def badd64 (u v : BitVec 64) : BitVec 64 := u + v
theorem mul256_u64 {t yt : TypeId} {x y : Operand} {u : BitVec 64} (hx : a.eval x = .int .u64 256) (hy : a.eval y = .int .u64 (u.toNat : Int))
    (h : wpList P ops Q rest (a.put d (.int .u64 ((bm256 u).toNat : Int))) w) : wpList P ops Q ({ dst := d, op := .binOp .mul t x y yt, type := ty, pos := pos, after := aft, guard := none } :: rest) a w := by
  unfold bm256 at h
  refine step_val ?_ h
  simp only [execOp, hx, hy]
  have e : ∀ z : Int, IntKind.u64.wrap z = z % 18446744073709551616 := fun z => by simp [IntKind.wrap, IntKind.bits, IntKind.signed]
  simp [go_sem, binOp, eqGuard, Op.intArith, e, BitVec.toNat_mul]
theorem add_u64 {t yt : TypeId} {x y : Operand} {u v : BitVec 64} (hx : a.eval x = .int .u64 (u.toNat : Int)) (hy : a.eval y = .int .u64 (v.toNat : Int))
    (h : wpList P ops Q rest (a.put d (.int .u64 ((badd64 u v).toNat : Int))) w) : wpList P ops Q ({ dst := d, op := .binOp .add t x y yt, type := ty, pos := pos, after := aft, guard := none } :: rest) a w := by
  unfold badd64 at h
  refine step_val ?_ h
  simp only [execOp, hx, hy]
  have e : ∀ z : Int, IntKind.u64.wrap z = z % 18446744073709551616 := fun z => by simp [IntKind.wrap, IntKind.bits, IntKind.signed]
  simp [go_sem, binOp, eqGuard, Op.intArith, e, BitVec.toNat_add]
end
end Go.Bva
namespace Go.Proofs.YtekiloagckkneaaDoor
open Go.RowKit Go.Own Go.Bv Go.Ord Go.Eq


def dK (bs : List (BitVec 8)) : Nat → BitVec 64
  | 0 => 0#64
  | k + 1 => Go.Bva.badd64 (Go.Bva.bm256 (dK bs k)) (Go.Bva.bw64 (bs.getD (7 - k) 0#8))
theorem dK_num (bs : List (BitVec 8)) (h : 8 ≤ bs.length) : dK bs 8 = num bs 8 := by
  match bs, h with
  | x0 :: x1 :: x2 :: x3 :: x4 :: x5 :: x6 :: x7 :: r, _ =>
    apply BitVec.eq_of_toNat_eq
    rw [num_nat _ 8 (Nat.le_refl _)]
    have h0 := x0.isLt
    have h1 := x1.isLt
    have h2 := x2.isLt
    have h3 := x3.isLt
    have h4 := x4.isLt
    have h5 := x5.isLt
    have h6 := x6.isLt
    have h7 := x7.isLt
    simp [numN, dK, Go.Bva.badd64, Go.Bva.bm256, Go.Bva.bw64, BitVec.toNat_add, BitVec.toNat_mul]
    omega

set_option maxHeartbeats 8000000 in
set_option maxRecDepth 100000 in
theorem rfrom_ok (a : Option Addr) (len cap : Nat) (bs : List (BitVec 8)) (w : World) (hR : Rd w 1 a len cap (u8s bs)) (h1 : 24 ≤ len) (h2 : len ≤ 65560) :
    Calls Tryd.prog 21 #[.slice a len cap] w fun e w' => ∃ a' c', e = .returned (.tuple #[.agg (boxC (num bs 8) (.slice a' (len - 24) c') (St.of ((bs.drop 8).take 16))), .int .i64 0]) ∧ Below w.heap.size w w' ∧ w'.ownsRow w.heap.size 5 1 (.slice a' (len - 24) c') (len - 24) (u8s (bs.drop 24)) := by
  have hO := Own.start w
  have hlen : bs.length = len := by have := hR.len; rw [u8s_length] at this; omega
  obtain ⟨g0, off, rfl⟩ := hR.place (by omega)
  have d1 : decide ((len : Int) < 24) = false := by simp; omega
  have d2 : decide ((65560 : Int) < (len : Int)) = false := by simp; omega
  have hle := hR.le
  have hmx := hR.max
  unfold maxLen at hmx
  have dc8 : ¬ (cap < 8) := by omega
  have dc24 : ¬ (cap < 24) := by omega
  have r2 := hR.cut 8 16 (by omega)
  have r3 := hR.cut 24 (len - 24) (by omega)
  have eb2 : ((u8s bs).drop 8).take 16 = u8s ((bs.drop 8).take 16) := by unfold u8s; rw [List.map_take, List.map_drop]
  have eb3 : ((u8s bs).drop 24).take (len - 24) = u8s (bs.drop 24) := by rw [List.take_of_length_le (by rw [List.length_drop, u8s_length]; omega)]; unfold u8s; rw [List.map_drop]
  rw [eb2] at r2
  rw [eb3] at r3
  have x2 : ofT ((bs.drop 8).take 16) = St.of ((bs.drop 8).take 16) := by unfold ofT; rw [if_pos (by simp; omega)]
  have y2 : ofE ((bs.drop 8).take 16) = 0 := by unfold ofE; rw [if_pos (by simp; omega)]
  have g2 := fun w h => rof_calls (some ⟨g0, off + 8, none⟩) 16 (cap - 8) ((bs.drop 8).take 16) w h
  rw [x2, y2] at g2
  have r4 : cap = 24 → ∀ w, Rd w 1 (some ⟨g0, off, none⟩) (len - 24) 0 (u8s (bs.drop 24)) := fun hc w =>
    ⟨by rw [u8s_length, List.length_drop, hlen, Nat.mul_one], by omega, by simp [maxLen], (fun h => by cases h), fun hne => absurd (by omega) hne⟩
  have r5 : Rd w 1 (if cap = 24 then some ⟨g0, off, none⟩ else some ⟨g0, off + 24, none⟩) (len - 24) (cap - 24) (u8s (bs.drop 24)) := by
    by_cases hc : cap = 24
    · rw [if_pos hc, show cap - 24 = 0 by omega]; exact r4 hc w
    · rw [if_neg hc]; exact r3
  have R5 := Lib.hid r5
  have HG : ∀ k (h : k < 8), Hid (∃ c : BitVec 8, (u8s bs)[7 - k]? = some (.int .u8 (c.toNat : Int)) ∧ dK bs (k + 1) = Go.Bva.badd64 (Go.Bva.bm256 (dK bs k)) (Go.Bva.bw64 c)) := fun k h => by
    refine ⟨bs[7 - k]'(by omega), u8s_get bs (7 - k) (by omega), ?_⟩
    show Go.Bva.badd64 _ (Go.Bva.bw64 (bs.getD (7 - k) 0#8)) = _
    rw [List.getD_eq_getElem?_getD, List.getElem?_eq_getElem (by omega)]
    rfl
  have e8 := dK_num bs (by omega)
  obtain ⟨u, hu⟩ : ∃ u, St.of ((bs.drop 8).take 16) = u := ⟨_, rfl⟩
  rw [hu] at g2 ⊢
  obtain ⟨nn8, h8⟩ : ∃ x, num bs 8 = x := ⟨_, rfl⟩
  rw [h8]
  rw [h8] at e8
  have H8 := Lib.hid e8
  have G2 := Lib.hid g2
  have HR := Lib.hid hR
  have R2 := Lib.hid r2
  have R3 := Lib.hid r3
  clear hR r2 r3 r4 r5 g2 x2 y2 eb2 eb3 hu hlen h8 e8
  generalize hW : w = wn at hO HR R2 R3 R5 ⊢
  clear hW w
  go_enter Tryd.func21, Tryd.ntmps21
  go_wp2_with (first
    | ((with_reducible refine gAlloc (T := 31) ?_); refine own_alloc hO _ _ ibz ?_; clear hO; intro bx ww hO))
  go_loopg [4, 5] 8 (fun m s4 c wr => ∃ k : Nat, m = 8 - k ∧ k ≤ 8 ∧ c = .int .i64 ((7 : Int) - (k : Int)) ∧ s4 = .int .u64 ((dK bs k).toNat : Int) ∧ Own wn wr [.blk bx (.cells (boxC 0#64 (.slice none 0 0) St.zero) 31 (0,0))])
  case atStart => exact ⟨0, rfl, by omega, rfl, rfl, hO⟩
  case round =>
    obtain ⟨k, rfl, hk, rfl, rfl, hO1⟩ := hrel
    clear hO
    have hO := hO1
    clear hO1
    by_cases hlt : k < 8
    · obtain ⟨c, hc, hn⟩ := (HG k hlt).out
      have HV := Lib.hid hc
      have HN := Lib.hid hn
      generalize dK bs k = v at *
      clear hc hn
      obtain ⟨q, hq⟩ : ∃ q, q = k := ⟨k, rfl⟩
      have HQ := Lib.hid hq
      clear hq
      obtain rfl | rfl | rfl | rfl | rfl | rfl | rfl | rfl : k = 0 ∨ k = 1 ∨ k = 2 ∨ k = 3 ∨ k = 4 ∨ k = 5 ∨ k = 6 ∨ k = 7 := by omega
      all_goals
        go_wp2_with (first
          | ((with_reducible refine gLoad (T := 5) ?_); refine ld_rd (hO.rd HR.out) rfl (HV.out) (tA rfl) ?_)
          | ((with_reducible refine Go.Bva.gCnv ?_); refine Go.Bva.cnv_8_64 Tryd.underlying5 Tryd.underlying25 rfl ?_)
          | ((with_reducible refine Go.Bva.gBin (op := .mul) ?_); refine Go.Bva.mul256_u64 rfl rfl ?_)
          | ((with_reducible refine Go.Bva.gBin (op := .add) (t := 25) ?_); refine Go.Bva.add_u64 rfl rfl ?_))
        go_roundg (8 - (q + 1))
        case measure => rw [HQ.out]; omega
        case rel => exact ⟨q + 1, rfl, by rw [HQ.out]; omega, by rw [HQ.out]; go_num, by rw [HQ.out, HN.out], hO⟩
    · obtain rfl : k = 8 := by omega
      rw [H8.out]
      go_wp2_with (first
        | (go_at_call 37; refine (G2.out _ (hO.rd R2.out)).mono ?_; rintro e ww ⟨rfl, hb⟩; replace hO := hO.call hb; clear hb)
        | ((with_reducible refine gAlloc (T := 24) ?_); refine own_alloc hO _ _ iwz ?_; clear hO; intro bw ww hO)
        | ((with_reducible refine gStore (T := 24) ?_); refine stX hO 0 rfl rfl rfl rfl rfl (tS rfl) ?_; clear hO; intro ww hO))
      replace hO : Own wn _ [.blk bw (.cells u.C 24 (0,0)), .blk bx (.cells (boxC 0#64 (.slice none 0 0) St.zero) 31 (0,0))] := hO
      refine wp_region_textS (fun w' => Own wn w' [.blk bw (.cells u.C 24 (0,0))]) (fun op => match op with | .load _ _ => true | _ => false) (by kernel_rfl) (by kernel_rfl) (hO.drew.sub (List.Sublist.cons_cons _ (List.nil_sublist _))) ?_
      replace hO := hO.drew
      generalize World.drew _ = wd at hO ⊢
      go_wp2_with (first
        | ((with_reducible refine gAppendNil ?_); refine own_appendNil hO _ _ 28 eu8 rfl rfl (hO.rd R5.out) (u8s_one _) (by simp [maxLen]; omega) (by omega) ?_; clear hO; intro a4 c4 ww hO)
        | (((with_reducible refine gIL ?_); first | refine wpI_ldS (fun w' hS => hS.blk 0 rfl) rfl rfl (tA rfl) (tS rfl) ?_); first | (refine wpI_act (by simp only [Act.put, List.setIfInBounds_toArray, List.set_cons_succ, List.set_cons_zero]; rfl) ?_) | skip)
        | ((with_reducible refine gBld (T := 31) ?_); refine own_bld (boxC nn8 (.slice a4 (len - 24) c4) u) (by kernel_rfl) ?_)
        | ((with_reducible refine gStore (T := 31) ?_); refine stX hO 2 rfl rfl rfl rfl rfl (tS rfl) ?_; clear hO; intro ww hO)
        | ((with_reducible refine gI ?_); refine wpI_step rfl rfl (by kernel_rfl) ?_; intro K hK; have HK := Lib.hid hK; clear hK) | ((with_reducible refine gI ?_); first | refine wpI_skip rfl ?_ | refine wpI_want rfl ?_) | ((with_reducible refine gOnlyK HK.out ?_ ?_); exact hO.sub (List.singleton_sublist.2 (by simp)); clear HK K; first | (refine wpI_act (by simp only [Act.put, List.setIfInBounds_toArray, List.set_cons_succ, List.set_cons_zero]; rfl) ?_) | skip) | (with_reducible refine wpI_nil ?_))
      all_goals refine bodyPost_ret (res_ct rfl _ _ bx 31 (boxC nn8 (.slice a4 (len - 24) c4) u) (0,0) _ rfl (hO.blk 2 rfl) Tryd.underlying31 rfl (ibs _ _ _)) rfl ⟨_, _, rfl, hO.below, hO.row 0 rfl⟩
end Go.Proofs.YtekiloagckkneaaDoor
