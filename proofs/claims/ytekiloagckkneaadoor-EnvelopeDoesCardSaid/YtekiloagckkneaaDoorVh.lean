/- Walks: envelope's head, Stream, Tag. -/
import Derived.Test.YtekiloagckkneaaDoorVm
import Derived.Test.YtekiloagckkneaaDoorPk
import Derived.Test.YtekiloagckkneaaDoorHs
import Derived.Test.YtekiloagckkneaaDoorOF
namespace Go.Proofs.YtekiloagckkneaaDoor
open Go.RowKit Go.Own Go.Bv Go.Ord Go.Eq

theorem hi56 (n : BitVec 64) : (n.toNat : Int) / 72057594037927936 % 256 = (n.toNat : Int) / 72057594037927936 := by have := n.isLt; omega
theorem made_take8 (m : Nat) (h : 8 ≤ m) : (madeCells (Value.int .u8 0).cells m).toList.take 8 = List.replicate 8 (Value.int .u8 0) := by
  have := made_u8 m
  rw [Nat.mul_one] at this
  rw [this, List.take_replicate, Nat.min_eq_left h]

set_option maxHeartbeats 4000000 in
set_option maxRecDepth 100000 in
theorem head_calls (n : BitVec 64) (a : Option Addr) (len cap : Nat) (kind : List (BitVec 8)) (w : World) (hR : Rd w 1 a len cap (u8s kind)) (hk : len ≤ 100) :
    Calls Tryd.prog 27 #[.int .u64 (n.toNat : Int), .slice a len cap] w fun e w' => ∃ a' c', e = .returned (.slice a' (8 + len) c') ∧ Below w.heap.size w w' ∧ w'.ownsRow w.heap.size 5 1 (.slice a' (8 + len) c') (8 + len) (u8s (eight n ++ kind)) := by
  have hO := Own.start w
  have HR := Lib.hid hR
  have n0 := nn n
  have n1 : (n.toNat : Int) < 18446744073709551616 := by have := n.isLt; omega
  clear hR
  generalize hW : w = wn at hO HR ⊢
  clear hW w
  go_enter Tryd.func27, Tryd.ntmps27
  go_wp2_with (first
    | ((with_reducible refine gMake ?_); refine own_makeC hO _ _ 28 eu8 8 (8 + len) rfl rfl rfl (by go_num) (by omega) (by omega) (by simp [maxLen]; omega) ?_; clear hO; intro g ww hO))
  replace hO : Own wn ww [.sl 5 1 (.slice (some ⟨g, 0, none⟩) 8 (8 + len)) 8 (fillK (u8s (eight n)) (.int .u8 0) 0)] := by
    rw [fillK_zero, u8s_length, eight_length, ← made_take8 (8 + len) (by omega)]; exact hO
  go_loopg [6, 13] 8 (fun m s6 c wr => ∃ k : Nat, m = 8 - k ∧ k ≤ 8 ∧ c = .int .i64 k ∧ Own wn wr [.sl 5 1 (.slice (some ⟨g, 0, none⟩) 8 (8 + len)) 8 (fillK (u8s (eight n)) (.int .u8 0) k)])
  case atStart => exact ⟨0, rfl, by omega, rfl, hO⟩
  case round =>
    obtain ⟨k, rfl, hk8, rfl, hO1⟩ := hrel
    clear hO
    have hO := hO1
    clear hO1
    by_cases hlt : k < 8
    · have hg := eight_get n k hlt
      obtain ⟨q, hq⟩ : ∃ q, q = k := ⟨k, rfl⟩
      have HQ := Lib.hid hq
      clear hq
      obtain rfl | rfl | rfl | rfl | rfl | rfl | rfl | rfl : k = 0 ∨ k = 1 ∨ k = 2 ∨ k = 3 ∨ k = 4 ∨ k = 5 ∨ k = 6 ∨ k = 7 := by omega
      all_goals
        simp [hi56] at hg
        have HG := Lib.hid hg
        clear hg
        go_wp2_with ((with_reducible refine gStore ?_); refine own_setElem hO 0 5 _ _ _ rfl rfl rfl (by omega) iu8s rfl ?_; clear hO; intro ww hO)
        go_roundg (8 - (q + 1))
        case measure => rw [HQ.out]; omega
        case rel =>
          refine ⟨q + 1, rfl, by rw [HQ.out]; omega, by rw [HQ.out]; go_num, ?_⟩
          rw [HQ.out, ← fillK_set _ _ _ _ HG.out]
          exact hO
    · obtain rfl : k = 8 := by omega
      have hall := fillK_all (u8s (eight n)) (.int .u8 0)
      rw [u8s_length, eight_length] at hall
      rw [hall] at hO
      clear hall
      go_wp2_with (first
        | ((with_reducible refine gAppend ?_); refine own_append hO 0 _ _ 28 eu8 rfl rfl rfl (hO.rd HR.out) (u8s_one _) (8 + len) rfl (by simp [maxLen]; omega) (by omega) ?_; clear hO; intro a2 c2 ww hO))
      go_ret
      refine ⟨a2, c2, rfl, hO.below, ?_⟩
      rw [u8s_append]
      exact hO.row 0 rfl

/-- what is handed back: octets in a block of its own -/
def BkRet (w : World) (X : List (BitVec 8)) (n : Nat) (e : Ending) (w' : World) : Prop :=
  ∃ g C, e = .returned (.tuple #[.slice (some ⟨g, 0, none⟩) n n, .int .i64 0]) ∧ Below w.heap.size w w' ∧ Res.holds w.heap.size w' (.blk g (.cells C 5 (0,0))) ∧ C.toList.take n = u8s X

theorem len9 (n : BitVec 64) (k : BitVec 8) : (eight n ++ [k]).length = 9 := rfl

set_option maxHeartbeats 4000000 in
set_option maxRecDepth 100000 in
theorem stream_ok (key : St) (n : BitVec 64) (m : Nat) (hm : m ≤ 65536) (w : World) (hT : Turns w) :
    Calls Tryd.prog 14 #[.agg key.C, .int .u64 (n.toNat : Int), .int .i64 (m : Int)] w (BkRet w (key.stream n m) m) := by
  have hO := Own.start w
  obtain ⟨L9, hL9⟩ : ∃ L, eight n ++ [1#8] = L := ⟨_, rfl⟩
  obtain ⟨u, hu⟩ : ∃ u, key.absorb L9 = u := ⟨_, rfl⟩
  obtain ⟨X, hX⟩ : ∃ X, u.squeeze m = X := ⟨_, rfl⟩
  have hS : key.stream n m = X := by rw [← hX, ← hu, ← hL9]; rfl
  have g1 := fun w a c hR => head_calls n a 1 c [1#8] w hR (by omega)
  have g2 := fun w a c hR hT => absorb1_calls key a 9 c L9 w hR hT (by omega)
  have g3 := fun w hT => squeeze_calls u m (by omega) w hT
  rw [hL9] at g1
  rw [hu] at g2
  unfold SqRet at g3
  rw [hX] at g3
  rw [hS]
  have G1 := Lib.hid g1
  have G2 := Lib.hid g2
  have G3 := Lib.hid g3
  have HT := Lib.hid hT
  have d1 : decide ((65536 : Int) < (m : Int)) = false := by simp; omega
  clear hT g1 g2 g3 hL9 hu hX hS
  generalize hW : w = wn at hO HT ⊢
  clear hW w
  go_enter Tryd.func14, Tryd.ntmps14
  go_wp2_with (first | ((with_reducible refine gBox ?_); first | (refine bxA hO rfl ?_; clear hO; intro b ww hO) | (refine bx1 hO rfl rfl ?_; clear hO; intro b ww hO)))
  replace hO : Own wn _ [.blk b (.cells key.C 24 (0,0))] := hO
  refine wp_region_float (fun w' => Own wn w' [.blk b (.cells key.C 24 (0,0))]) (fun op => match op with | .load _ _ => true | _ => false) [.n, .n, .b, .b, .b, .m, .n, .n, .z, .n, .n] (by kernel_rfl) (by kernel_rfl) hO.drew ?_
  dsimp only [zipF, zOf]
  replace hO := hO.drew
  generalize World.drew _ = wd at hO ⊢
  go_wp2_with (first
    | (((with_reducible refine gIL ?_); first | refine wpI_ldS (fun w' hS => hS.blk 0 rfl) rfl rfl (tA rfl) (tS rfl) ?_); first | (refine wpI_act (by simp only [Act.put, List.setIfInBounds_toArray, List.set_cons_succ, List.set_cons_zero]; rfl) ?_) | skip)
    | ((with_reducible refine gLoad ?_); first | refine ldX hO 0 rfl rfl (tA rfl) (tS rfl) ?_ | refine ldC hO 0 rfl rfl (tA rfl) rfl ?_ | refine ldX hO 1 rfl rfl (tA rfl) (tS rfl) ?_ | refine ldC hO 1 rfl rfl (tA rfl) rfl ?_ | refine ldX hO 2 rfl rfl (tA rfl) (tS rfl) ?_ | refine ldC hO 2 rfl rfl (tA rfl) rfl ?_ | refine ldX hO 3 rfl rfl (tA rfl) (tS rfl) ?_ | refine ldC hO 3 rfl rfl (tA rfl) rfl ?_ | refine ldX hO 4 rfl rfl (tA rfl) (tS rfl) ?_ | refine ldC hO 4 rfl rfl (tA rfl) rfl ?_)
    | ((with_reducible refine gStore ?_); first | (refine stX hO 0 rfl rfl rfl rfl rfl (tS rfl) ?_; clear hO; intro ww hO) | (refine stC hO 0 rfl rfl rfl (ltb rfl) rfl (tS rfl) ?_; clear hO; intro ww hO) | (refine stX hO 1 rfl rfl rfl rfl rfl (tS rfl) ?_; clear hO; intro ww hO) | (refine stC hO 1 rfl rfl rfl (ltb rfl) rfl (tS rfl) ?_; clear hO; intro ww hO) | (refine stX hO 2 rfl rfl rfl rfl rfl (tS rfl) ?_; clear hO; intro ww hO) | (refine stC hO 2 rfl rfl rfl (ltb rfl) rfl (tS rfl) ?_; clear hO; intro ww hO) | (refine stX hO 3 rfl rfl rfl rfl rfl (tS rfl) ?_; clear hO; intro ww hO) | (refine stC hO 3 rfl rfl rfl (ltb rfl) rfl (tS rfl) ?_; clear hO; intro ww hO))
    | ((with_reducible refine gAlloc ?_); refine own_alloc hO _ _ iwz ?_; clear hO; intro bb ww hO)
    | ((with_reducible refine gBuild ?_); refine own_build hO 28 1 _ eu8 (u8s [1#8]).toArray (by omega) (by omega) (by simp [go_sem, Instr.fill, u8s]) rfl ?_; clear hO; intro g ww hO)
    | (go_at_call 27; (first | refine (G1.out _ _ _ (hO.rdAt 0 rfl)).mono ?_ | refine (G1.out _ _ _ (hO.rdAt 1 rfl)).mono ?_); rintro e ww ⟨a2, c2, rfl, hb, hr⟩; replace hO := hO.addRow hb hr; clear hb hr)
    | (go_at_call 26; (first | refine (G2.out _ _ _ (hO.rdAt 0 rfl) (HT.out.own hO)).mono ?_ | refine (G2.out _ _ _ (hO.rdAt 1 rfl) (HT.out.own hO)).mono ?_); rintro e ww ⟨rfl, hb⟩; replace hO := hO.call hb; clear hb)
    | (go_at_call 28; refine (G3.out _ (HT.out.own hO)).mono ?_; rintro e ww ⟨g, C, rfl, hb, hh, hC⟩; have HH := Lib.hid (hh.mono hO.size); replace hO := hO.call hb; clear hb hh)
    | ((with_reducible refine wpF_n ?_ ?_); exact hO.sub (by repeat first | exact List.Sublist.refl _ | apply List.Sublist.cons)) | ((with_reducible refine wpF_b ?_ ?_ ?_); exact hO.sub (by repeat first | exact List.Sublist.refl _ | apply List.Sublist.cons); dsimp only [List.map]) | ((with_reducible refine wpF_m ?_); dsimp only [List.map]) | ((with_reducible refine wpI_nilS ?_ ?_); exact hO.sub (by repeat first | exact List.Sublist.refl _ | apply List.Sublist.cons))
    | ((with_reducible refine gI ?_); refine wpI_step rfl rfl (by kernel_rfl) ?_; intro K hK; have HK := Lib.hid hK; clear hK) | ((with_reducible refine gI ?_); first | refine wpI_skip rfl ?_ | refine wpI_want rfl ?_) | ((with_reducible refine gOnlyK HK.out ?_ ?_); exact hO.sub (by repeat first | exact List.Sublist.refl _ | apply List.Sublist.cons); clear HK K; first | (refine wpI_act (by simp only [Act.put, List.setIfInBounds_toArray, List.set_cons_succ, List.set_cons_zero]; rfl) ?_) | skip) | (with_reducible refine wpI_nil ?_))
  all_goals
    go_ret2
    exact ⟨g, C, rfl, hO.below, HH.out, hC⟩

set_option maxHeartbeats 4000000 in
set_option maxRecDepth 100000 in
theorem tag_ok (key : St) (n : BitVec 64) (a : Option Addr) (len cap : Nat) (t : List (BitVec 8)) (w : World) (hR : Rd w 1 a len cap (u8s t)) (hl : len ≤ 65536) (hT : Turns w) :
    Calls Tryd.prog 12 #[.agg key.C, .int .u64 (n.toNat : Int), .slice a len cap] w fun e w' => e = .returned (.tuple #[.agg (key.tag n t).C, .int .i64 0]) ∧ Below w.heap.size w w' := by
  have hO := Own.start w
  obtain ⟨L9, hL9⟩ : ∃ L, eight n ++ [2#8] = L := ⟨_, rfl⟩
  obtain ⟨L, hL⟩ : ∃ L, L9 ++ t = L := ⟨_, rfl⟩
  obtain ⟨u, hu⟩ : ∃ u, key.absorb L = u := ⟨_, rfl⟩
  have hS : key.tag n t = u := by rw [← hu, ← hL, ← hL9]; rfl
  have g1 := fun w a c hR => head_calls n a 1 c [2#8] w hR (by omega)
  have g2 := fun w a c hR hT => absorb1_calls key a (9 + len) c L w hR hT (by omega)
  rw [hL9] at g1
  rw [hu] at g2
  rw [hS]
  have HL : Hid (u8s L = u8s L9 ++ u8s t) := by show _ = _; rw [← hL, u8s_append]
  have G1 := Lib.hid g1
  have G2 := Lib.hid g2
  have HT := Lib.hid hT
  have HR := Lib.hid hR
  have d1 : decide ((65536 : Int) < (len : Int)) = false := by simp; omega
  clear hT hR g1 g2 hL9 hL hu hS
  generalize hW : w = wn at hO HT HR ⊢
  clear hW w
  go_enter Tryd.func12, Tryd.ntmps12
  go_wp2_with (first | ((with_reducible refine gBox ?_); first | (refine bxA hO rfl ?_; clear hO; intro b ww hO) | (refine bx1 hO rfl rfl ?_; clear hO; intro b ww hO)) | ((with_reducible refine gAlloc ?_); refine own_alloc hO _ _ iwz ?_; clear hO; intro rr ww hO))
  replace hO : Own wn _ [.blk rr (.cells St.zero.C 24 (0,0)), .blk b (.cells key.C 24 (0,0))] := hO
  refine wp_region_textS (fun w' => Own wn w' [.blk b (.cells key.C 24 (0,0))]) (fun op => match op with | .load _ _ => true | _ => false) (by kernel_rfl) (by kernel_rfl) (hO.drew.sub (by repeat first | exact List.Sublist.refl _ | apply List.Sublist.cons)) ?_
  replace hO := hO.drew
  generalize World.drew _ = wd at hO ⊢
  go_wp2_with (first
    | (((with_reducible refine gIL ?_); first | refine wpI_ldS (fun w' hS => hS.blk 0 rfl) rfl rfl (tA rfl) (tS rfl) ?_); first | (refine wpI_act (by simp only [Act.put, List.setIfInBounds_toArray, List.set_cons_succ, List.set_cons_zero]; rfl) ?_) | skip)
    | ((with_reducible refine gStore ?_); refine stX hO 2 rfl rfl rfl rfl rfl (tS rfl) ?_; clear hO; intro ww hO)
    | ((with_reducible refine gBuild ?_); refine own_build hO 28 1 _ eu8 (u8s [2#8]).toArray (by omega) (by omega) (by simp [go_sem, Instr.fill, u8s]) rfl ?_; clear hO; intro g ww hO)
    | (go_at_call 27; refine (G1.out _ _ _ (hO.rdAt 0 rfl)).mono ?_; rintro e ww ⟨a2, c2, rfl, hb, hr⟩; replace hO := hO.addRow hb hr; clear hb hr)
    | ((with_reducible refine gAppend ?_); refine own_append hO 0 _ _ 28 eu8 rfl rfl rfl (hO.rd HR.out) (u8s_one _) (9 + len) rfl (by simp [maxLen]; omega) (by omega) ?_; clear hO; intro a3 c3 ww hO)
    | (go_at_call 26; refine (G2.out _ _ _ (by rw [HL.out]; exact hO.rdAt 0 rfl) (HT.out.own hO)).mono ?_; rintro e ww ⟨rfl, hb⟩; replace hO := hO.call hb; clear hb)
    | ((with_reducible refine gI ?_); refine wpI_step rfl rfl (by kernel_rfl) ?_; intro K hK; have HK := Lib.hid hK; clear hK) | ((with_reducible refine gI ?_); first | refine wpI_skip rfl ?_ | refine wpI_want rfl ?_) | ((with_reducible refine gOnlyK HK.out ?_ ?_); exact hO.sub (by repeat first | exact List.Sublist.refl _ | apply List.Sublist.cons); clear HK K; first | (refine wpI_act (by simp only [Act.put, List.setIfInBounds_toArray, List.set_cons_succ, List.set_cons_zero]; rfl) ?_) | skip) | (with_reducible refine wpI_nil ?_))
  refine bodyPost_ret (res_ct rfl _ _ rr 24 u.C (0,0) _ rfl (hO.blk 2 rfl) Tryd.underlying24 rfl (iws' _)) rfl ⟨rfl, hO.below⟩
set_option maxHeartbeats 1000000 in
theorem tag_no (key : St) (n : BitVec 64) (a : Option Addr) (len cap : Nat) (w : World) (hl : 65536 < len) :
    Calls Tryd.prog 12 #[.agg key.C, .int .u64 (n.toNat : Int), .slice a len cap] w fun e w' => e = .returned (.tuple #[.agg St.zero.C, .int .i64 3]) ∧ Below w.heap.size w w' := by
  have hO := Own.start w
  have d1 : decide ((65536 : Int) < (len : Int)) = true := by simp; omega
  generalize hW : w = wn at hO ⊢
  clear hW w
  go_enter Tryd.func12, Tryd.ntmps12
  go_wp2_with (first | ((with_reducible refine gBox ?_); first | (refine bxA hO rfl ?_; clear hO; intro b ww hO) | (refine bx1 hO rfl rfl ?_; clear hO; intro b ww hO)) | ((with_reducible refine gAlloc ?_); refine own_alloc hO _ _ iwz ?_; clear hO; intro rr ww hO) | ((with_reducible refine gStore ?_); first | (refine stX hO 0 rfl rfl rfl rfl rfl (tS rfl) ?_; clear hO; intro ww hO) | (refine stC hO 0 rfl rfl rfl (ltb rfl) rfl (tS rfl) ?_; clear hO; intro ww hO)))
  refine bodyPost_ret (res_ct rfl _ _ rr 24 St.zero.C (0,0) _ rfl (hO.blk 0 rfl) Tryd.underlying24 rfl (iws' _)) rfl ⟨rfl, hO.below⟩
end Go.Proofs.YtekiloagckkneaaDoor
