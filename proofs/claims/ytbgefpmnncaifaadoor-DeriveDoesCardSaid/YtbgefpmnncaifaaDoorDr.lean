/- The walks of the document's Start, Go, Key, Mark; and of both, for whatever comes in. -/
import Derived.Test.YtbgefpmnncaifaaDoorDMark
import Derived.Test.YtbgefpmnncaifaaDoorPk
namespace Go.Proofs.YtbgefpmnncaifaaDoor
open Go.RowKit Go.Own Go.Bv Go.Ord Go.Eq

set_option maxHeartbeats 1000000 in
set_option maxRecDepth 100000 in
theorem rmark_calls (s : St) (w : World) :
    Calls Tryd.prog 16 #[.agg s.C] w fun e w' => e = .returned (.int .u32 (s.mark.toNat : Int)) ∧ Below w.heap.size w w' := by
  have hO := Own.start w
  obtain ⟨u, hu⟩ : ∃ u, s.perm = u := ⟨_, rfl⟩
  have HM : Hid (s.mark = Go.Bva.bxor u.a s.d) := by show _ = _; unfold St.mark; rw [hu]
  rw [HM.out]
  have HU := Lib.hid hu
  clear hu
  have i0 : ∀ w, (Instr.index 24 (.agg u.C) (.int .i64 0)).run Tryd.prog w = .ok (.int .u32 (u.a.toNat : Int)) w := fun _ => by kernel_rfl
  generalize hW : w = wn at hO ⊢
  clear hW w
  go_enter Tryd.func16, Tryd.ntmps16
  go_wp2_with (first | ((with_reducible refine gBox ?_); first | (refine bxA hO rfl ?_; clear hO; intro b ww hO) | (refine bx1 hO rfl rfl ?_; clear hO; intro b ww hO)))
  replace hO : Own wn _ [.blk b (.cells s.C 24 (0,0))] := hO
  refine wp_region_textS (fun w' => Own wn w' [.blk b (.cells s.C 24 (0,0))]) (fun op => match op with | .load _ _ => true | _ => false) (by kernel_rfl) (by kernel_rfl) hO.drew ?_
  replace hO := hO.drew
  generalize World.drew _ = wd at hO ⊢
  go_wp2_with (first
    | (((with_reducible refine gIL ?_); first | refine wpI_ldS (fun w' hS => hS.blk 0 rfl) rfl rfl (tA rfl) (tS rfl) ?_); first | (refine wpI_act (by simp only [Act.put, List.setIfInBounds_toArray, List.set_cons_succ, List.set_cons_zero]; rfl) ?_) | skip)
    | (((with_reducible refine gIL ?_); first | refine wpI_ldcS (fun w' hS => hS.blk 0 rfl) rfl rfl (tA rfl) rfl ?_); first | (refine wpI_act (by simp only [Act.put, List.setIfInBounds_toArray, List.set_cons_succ, List.set_cons_zero]; rfl) ?_) | skip)
    | (go_at_call 21; refine (rperm_calls s _).mono ?_; rw [HU.out]; rintro e ww ⟨rfl, hb⟩; replace hO := hO.call hb; clear hb)
    | ((with_reducible refine Go.Bva.gBin (op := .xor) ?_); refine Go.Bva.xor_u32 rfl rfl ?_)
    | ((with_reducible refine gI ?_); refine wpI_step rfl rfl (by kernel_rfl) ?_; intro K hK; have HK := Lib.hid hK; clear hK) | ((with_reducible refine gI ?_); first | refine wpI_skip rfl ?_ | refine wpI_want rfl ?_) | ((with_reducible refine gOnlyK HK.out ?_ ?_); exact hO; clear HK K; first | (refine wpI_act (by simp only [Act.put, List.setIfInBounds_toArray, List.set_cons_succ, List.set_cons_zero]; rfl) ?_) | skip) | (with_reducible refine wpI_nil ?_))
  go_ret
  exact ⟨rfl, hO.below⟩

set_option maxHeartbeats 1000000 in
set_option maxRecDepth 100000 in
theorem rstart_ok (a1 : Option Addr) (n1 c1 : Nat) (word : List (BitVec 8)) (a2 : Option Addr) (n2 c2 : Nat) (salt : List (BitVec 8)) (w : World) (hR1 : Rd w 1 a1 n1 c1 (u8s word)) (hR2 : Rd w 1 a2 n2 c2 (u8s salt)) (h1 : n1 ≤ 64) (h2 : n2 ≤ 64) :
    Calls Tryd.prog 12 #[.slice a1 n1 c1, .slice a2 n2 c2] w fun e w' => e = .returned (.tuple #[.agg (St.startOf word salt).C, .int .i64 0]) ∧ Below w.heap.size w w' := by
  have hO := Own.start w
  obtain ⟨u1, e1⟩ : ∃ u, St.zero.absorb salt = u := ⟨_, rfl⟩
  obtain ⟨u2, e2⟩ : ∃ u, u1.absorb word = u := ⟨_, rfl⟩
  have HS : Hid (St.startOf word salt = u2) := by show _ = _; unfold St.startOf; rw [e1, e2]
  rw [HS.out]
  have g1 := fun w hR => rabsorb_ok St.zero a2 n2 c2 salt w hR (by omega)
  have g2 := fun w hR => rabsorb_ok u1 a1 n1 c1 word w hR (by omega)
  rw [e1] at g1
  rw [e2] at g2
  have G1 : Hid (∀ w, Rd w 1 a2 n2 c2 (u8s salt) → Calls Tryd.prog 19 #[.agg #[.int .u32 0, .int .u32 0, .int .u32 0, .int .u32 0], .slice a2 n2 c2] w fun e w' => e = .returned (.tuple #[.agg u1.C, .int .i64 0]) ∧ Below w.heap.size w w') := g1
  have G2 := Lib.hid g2
  have HR1 := Lib.hid hR1
  have HR2 := Lib.hid hR2
  have d1 : decide ((64 : Int) < (n1 : Int)) = false := by simp; omega
  have d2 : decide ((64 : Int) < (n2 : Int)) = false := by simp; omega
  clear hR1 hR2 g1 g2 e1 e2
  generalize hW : w = wn at hO HR1 HR2 ⊢
  clear hW w
  go_enter Tryd.func12, Tryd.ntmps12
  go_wp2_with (first
    | ((with_reducible refine gAlloc ?_); refine own_alloc hO _ _ iwz ?_; clear hO; intro rr ww hO)
    | ((with_reducible refine gG ?_); refine wpList_want rfl ?_)
    | ((with_reducible refine gLoad ?_); first | refine ldX hO 0 rfl rfl (tA rfl) (tS rfl) ?_ | refine ldC hO 0 rfl rfl (tA rfl) rfl ?_ | refine ldX hO 1 rfl rfl (tA rfl) (tS rfl) ?_ | refine ldC hO 1 rfl rfl (tA rfl) rfl ?_)
    | ((with_reducible refine gStore ?_); first | (refine stX hO 0 rfl rfl rfl rfl rfl (tS rfl) ?_; clear hO; intro ww hO) | (refine stC hO 0 rfl rfl rfl (ltb rfl) rfl (tS rfl) ?_; clear hO; intro ww hO) | (refine stX hO 1 rfl rfl rfl rfl rfl (tS rfl) ?_; clear hO; intro ww hO) | (refine stC hO 1 rfl rfl rfl (ltb rfl) rfl (tS rfl) ?_; clear hO; intro ww hO))
    | (go_at_call 19; (with_reducible refine gCall #[.agg u1.C, .slice a1 n1 c1] ?_); refine (G2.out _ (hO.rd HR1.out)).mono ?_; rintro e ww ⟨rfl, hb⟩; replace hO := hO.call hb; clear hb)
    | (go_at_call 19; refine (G1.out _ (hO.rd HR2.out)).mono ?_; rintro e ww ⟨rfl, hb⟩; replace hO := hO.call hb; clear hb))
  refine bodyPost_ret (res_ct rfl _ _ _ 24 u2.C (0,0) _ rfl (hO.blk 1 rfl) Tryd.underlying24 rfl (iws' _)) rfl ⟨rfl, hO.below⟩

set_option maxHeartbeats 1000000 in
set_option maxRecDepth 100000 in
theorem rstart_long (a1 : Option Addr) (n1 c1 : Nat) (a2 : Option Addr) (n2 c2 : Nat) (w : World) (hn : 64 < n1 ∨ 64 < n2) :
    Calls Tryd.prog 12 #[.slice a1 n1 c1, .slice a2 n2 c2] w fun e w' => e = .returned (.tuple #[.agg St.zero.C, .int .i64 3]) ∧ Below w.heap.size w w' := by
  have hO := Own.start w
  generalize hW : w = wn at hO ⊢
  clear hW w
  by_cases h1 : 64 < n1
  · have d1 : decide ((64 : Int) < (n1 : Int)) = true := by simp; omega
    go_enter Tryd.func12, Tryd.ntmps12
    go_wp2_with (first | ((with_reducible refine gAlloc ?_); refine own_alloc hO _ _ iwz ?_; clear hO; intro rr ww hO) | ((with_reducible refine gG ?_); refine wpList_want rfl ?_) | ((with_reducible refine gStore ?_); first | (refine stX hO 0 rfl rfl rfl rfl rfl (tS rfl) ?_; clear hO; intro ww hO) | (refine stC hO 0 rfl rfl rfl (ltb rfl) rfl (tS rfl) ?_; clear hO; intro ww hO)))
    refine bodyPost_ret (res_ct rfl _ _ rr 24 St.zero.C (0,0) _ rfl (hO.blk 0 rfl) Tryd.underlying24 rfl (iws' _)) rfl ⟨rfl, hO.below⟩
  · have d1 : decide ((64 : Int) < (n1 : Int)) = false := by simp; omega
    have d2 : decide ((64 : Int) < (n2 : Int)) = true := by simp; omega
    go_enter Tryd.func12, Tryd.ntmps12
    go_wp2_with (first | ((with_reducible refine gAlloc ?_); refine own_alloc hO _ _ iwz ?_; clear hO; intro rr ww hO) | ((with_reducible refine gG ?_); refine wpList_want rfl ?_) | ((with_reducible refine gStore ?_); first | (refine stX hO 0 rfl rfl rfl rfl rfl (tS rfl) ?_; clear hO; intro ww hO) | (refine stC hO 0 rfl rfl rfl (ltb rfl) rfl (tS rfl) ?_; clear hO; intro ww hO)))
    refine bodyPost_ret (res_ct rfl _ _ rr 24 St.zero.C (0,0) _ rfl (hO.blk 0 rfl) Tryd.underlying24 rfl (iws' _)) rfl ⟨rfl, hO.below⟩

set_option maxHeartbeats 2000000 in
set_option maxRecDepth 100000 in
theorem rgo_ok (s : St) (a : Option Addr) (n cap : Nat) (bs : List (BitVec 8)) (r : Nat) (w : World) (hR : Rd w 1 a n cap (u8s bs)) (hn : n ≤ 64) (hr : r ≤ 4096) :
    Calls Tryd.prog 13 #[.agg s.C, .slice a n cap, .int .i64 (r : Int)] w fun e w' => e = .returned (.tuple #[.agg (s.goN bs r).C, .int .i64 0]) ∧ Below w.heap.size w w' := by
  have hO := Own.start w
  have HR := Lib.hid hR
  have d0 : decide ((r : Int) < 0) = false := by simp
  have d1 : decide ((4096 : Int) < (r : Int)) = false := by simp; omega
  have d2 : decide ((64 : Int) < (n : Int)) = false := by simp; omega
  clear hR
  generalize hW : w = wn at hO HR ⊢
  clear hW w
  go_enter Tryd.func13, Tryd.ntmps13
  go_wp2_with (first
    | ((with_reducible refine gBox ?_); first | (refine bxA hO rfl ?_; clear hO; intro b ww hO) | (refine bx1 hO rfl rfl ?_; clear hO; intro b ww hO))
    | ((with_reducible refine gAlloc ?_); refine own_alloc hO _ _ iwz ?_; clear hO; intro rr ww hO))
  replace hO : Own wn ww [.blk rr (.cells St.zero.C 24 (0,0)), .blk b (.cells s.C 24 (0,0))] := hO
  go_loopg [20] r (fun m c wr => ∃ k : Nat, m = r - k ∧ k ≤ r ∧ c = .int .i64 (k : Int) ∧ Own wn wr [.blk rr (.cells St.zero.C 24 (0,0)), .blk b (.cells (s.goN bs k).C 24 (0,0))])
  case atStart => exact ⟨0, rfl, by omega, rfl, hO⟩
  case round =>
    obtain ⟨k, rfl, hk, rfl, hO1⟩ := hrel
    clear hO
    have hO := hO1
    clear hO1
    by_cases hlt : k < r
    · have hb0 : decide ((k : Int) < (r : Int)) = true := by simp; omega
      have HS : Hid (s.goN bs (k + 1) = (s.goN bs k).absorb bs) := rfl
      generalize s.goN bs k = u at *
      obtain ⟨v, hv⟩ : ∃ v, u.absorb bs = v := ⟨_, rfl⟩
      have HV := Lib.hid hv
      clear hv
      go_wp2_with (first
        | ((with_reducible refine gLoad ?_); first | refine ldX hO 0 rfl rfl (tA rfl) (tS rfl) ?_ | refine ldC hO 0 rfl rfl (tA rfl) rfl ?_ | refine ldX hO 1 rfl rfl (tA rfl) (tS rfl) ?_ | refine ldC hO 1 rfl rfl (tA rfl) rfl ?_)
        | ((with_reducible refine gStore ?_); first | (refine stX hO 0 rfl rfl rfl rfl rfl (tS rfl) ?_; clear hO; intro ww hO) | (refine stC hO 0 rfl rfl rfl (ltb rfl) rfl (tS rfl) ?_; clear hO; intro ww hO) | (refine stX hO 1 rfl rfl rfl rfl rfl (tS rfl) ?_; clear hO; intro ww hO) | (refine stC hO 1 rfl rfl rfl (ltb rfl) rfl (tS rfl) ?_; clear hO; intro ww hO))
        | (go_at_call 19; refine (rabsorb_ok u _ _ _ bs _ (hO.rd HR.out) (by omega)).mono ?_; rw [HV.out]; rintro e ww ⟨rfl, hb⟩; replace hO := hO.call hb; clear hb))
      go_roundg (r - (k + 1))
      case measure => omega
      case rel => exact ⟨k + 1, rfl, by omega, by go_num, by rw [HS.out, HV.out]; exact hO⟩
    · have hb0 : decide ((k : Int) < (r : Int)) = false := by simp; omega
      obtain rfl : k = r := by omega
      obtain ⟨u, hu⟩ : ∃ u, s.goN bs k = u := ⟨_, rfl⟩
      rw [hu] at hO
      have HU := Lib.hid hu
      clear hu
      go_wp2_with (first
        | ((with_reducible refine gLoad ?_); first | refine ldX hO 0 rfl rfl (tA rfl) (tS rfl) ?_ | refine ldC hO 0 rfl rfl (tA rfl) rfl ?_ | refine ldX hO 1 rfl rfl (tA rfl) (tS rfl) ?_ | refine ldC hO 1 rfl rfl (tA rfl) rfl ?_)
        | ((with_reducible refine gStore ?_); first | (refine stX hO 0 rfl rfl rfl rfl rfl (tS rfl) ?_; clear hO; intro ww hO) | (refine stC hO 0 rfl rfl rfl (ltb rfl) rfl (tS rfl) ?_; clear hO; intro ww hO) | (refine stX hO 1 rfl rfl rfl rfl rfl (tS rfl) ?_; clear hO; intro ww hO) | (refine stC hO 1 rfl rfl rfl (ltb rfl) rfl (tS rfl) ?_; clear hO; intro ww hO)))
      refine bodyPost_ret (res_ct rfl _ _ rr 24 u.C (0,0) _ rfl (hO.blk 0 rfl) Tryd.underlying24 rfl (iws' _)) rfl ⟨by rw [HU.out]; rfl, hO.below⟩

set_option maxHeartbeats 1000000 in
set_option maxRecDepth 100000 in
theorem rgo_no (s : St) (a : Option Addr) (n cap : Nat) (r : Int) (w : World) (h : 64 < n ∨ r < 0 ∨ 4096 < r) :
    Calls Tryd.prog 13 #[.agg s.C, .slice a n cap, .int .i64 r] w fun e w' => e = .returned (.tuple #[.agg St.zero.C, .int .i64 (if 64 < n then 3 else 1)]) ∧ Below w.heap.size w w' := by
  have hO := Own.start w
  generalize hW : w = wn at hO ⊢
  clear hW w
  by_cases hn : 64 < n
  · have d2 : decide ((64 : Int) < (n : Int)) = true := by simp; omega
    rw [if_pos hn]
    clear h
    go_enter Tryd.func13, Tryd.ntmps13
    go_wp2_with (first | ((with_reducible refine gBox ?_); first | (refine bxA hO rfl ?_; clear hO; intro b ww hO) | (refine bx1 hO rfl rfl ?_; clear hO; intro b ww hO)) | ((with_reducible refine gAlloc ?_); refine own_alloc hO _ _ iwz ?_; clear hO; intro rr ww hO) | ((with_reducible refine gStore ?_); first | (refine stX hO 0 rfl rfl rfl rfl rfl (tS rfl) ?_; clear hO; intro ww hO) | (refine stC hO 0 rfl rfl rfl (ltb rfl) rfl (tS rfl) ?_; clear hO; intro ww hO)))
    refine bodyPost_ret (res_ct rfl _ _ rr 24 St.zero.C (0,0) _ rfl (hO.blk 0 rfl) Tryd.underlying24 rfl (iws' _)) rfl ⟨rfl, hO.below⟩
  · have d2 : decide ((64 : Int) < (n : Int)) = false := by simp; omega
    rw [if_neg hn]
    by_cases hr : r < 0
    · have d0 : decide (r < 0) = true := by simp; omega
      clear h
      go_enter Tryd.func13, Tryd.ntmps13
      go_wp2_with (first | ((with_reducible refine gBox ?_); first | (refine bxA hO rfl ?_; clear hO; intro b ww hO) | (refine bx1 hO rfl rfl ?_; clear hO; intro b ww hO)) | ((with_reducible refine gAlloc ?_); refine own_alloc hO _ _ iwz ?_; clear hO; intro rr ww hO) | ((with_reducible refine gStore ?_); first | (refine stX hO 0 rfl rfl rfl rfl rfl (tS rfl) ?_; clear hO; intro ww hO) | (refine stC hO 0 rfl rfl rfl (ltb rfl) rfl (tS rfl) ?_; clear hO; intro ww hO)))
      refine bodyPost_ret (res_ct rfl _ _ rr 24 St.zero.C (0,0) _ rfl (hO.blk 0 rfl) Tryd.underlying24 rfl (iws' _)) rfl ⟨rfl, hO.below⟩
    · have d0 : decide (r < 0) = false := by simp; omega
      have d1 : decide (4096 < r) = true := by simp; omega
      clear h
      go_enter Tryd.func13, Tryd.ntmps13
      go_wp2_with (first | ((with_reducible refine gBox ?_); first | (refine bxA hO rfl ?_; clear hO; intro b ww hO) | (refine bx1 hO rfl rfl ?_; clear hO; intro b ww hO)) | ((with_reducible refine gAlloc ?_); refine own_alloc hO _ _ iwz ?_; clear hO; intro rr ww hO) | ((with_reducible refine gStore ?_); first | (refine stX hO 0 rfl rfl rfl rfl rfl (tS rfl) ?_; clear hO; intro ww hO) | (refine stC hO 0 rfl rfl rfl (ltb rfl) rfl (tS rfl) ?_; clear hO; intro ww hO)) | ((with_reducible refine gG ?_); refine wpList_want rfl ?_))
      refine bodyPost_ret (res_ct rfl _ _ rr 24 St.zero.C (0,0) _ rfl (hO.blk 0 rfl) Tryd.underlying24 rfl (iws' _)) rfl ⟨rfl, hO.below⟩

/-! ### for whatever comes in -/
def startT (word salt : List (BitVec 8)) : St := if word.length ≤ 64 ∧ salt.length ≤ 64 then St.startOf word salt else St.zero
def startE (word salt : List (BitVec 8)) : Int := if word.length ≤ 64 ∧ salt.length ≤ 64 then 0 else 3
def goT (s : St) (word : List (BitVec 8)) (r : Int) : St := if word.length ≤ 64 ∧ 0 ≤ r ∧ r ≤ 4096 then s.goN word r.toNat else St.zero
def goE (word : List (BitVec 8)) (r : Int) : Int := if 64 < word.length then 3 else if r < 0 ∨ 4096 < r then 1 else 0
theorem rstart_calls (a1 : Option Addr) (n1 c1 : Nat) (word : List (BitVec 8)) (a2 : Option Addr) (n2 c2 : Nat) (salt : List (BitVec 8)) (w : World) (hR1 : Rd w 1 a1 n1 c1 (u8s word)) (hR2 : Rd w 1 a2 n2 c2 (u8s salt)) :
    Calls Tryd.prog 12 #[.slice a1 n1 c1, .slice a2 n2 c2] w fun e w' => e = .returned (.tuple #[.agg (startT word salt).C, .int .i64 (startE word salt)]) ∧ Below w.heap.size w w' := by
  have l1 : word.length = n1 := by have := hR1.len; rw [u8s_length] at this; omega
  have l2 : salt.length = n2 := by have := hR2.len; rw [u8s_length] at this; omega
  unfold startT startE
  by_cases h : n1 ≤ 64 ∧ n2 ≤ 64
  · rw [if_pos (by omega), if_pos (by omega)]
    exact rstart_ok a1 n1 c1 word a2 n2 c2 salt w hR1 hR2 h.1 h.2
  · rw [if_neg (by omega), if_neg (by omega)]
    exact rstart_long a1 n1 c1 a2 n2 c2 w (by omega)
theorem start_calls (a1 : Option Addr) (n1 c1 : Nat) (word : List (BitVec 8)) (a2 : Option Addr) (n2 c2 : Nat) (salt : List (BitVec 8)) (w : World) (hR1 : Rd w 1 a1 n1 c1 (u8s word)) (hR2 : Rd w 1 a2 n2 c2 (u8s salt)) (hT : Turns w) :
    Calls Tryd.prog 10 #[.slice a1 n1 c1, .slice a2 n2 c2] w fun e w' => e = .returned (.tuple #[.agg (startT word salt).C, .int .i64 (startE word salt)]) ∧ Below w.heap.size w w' := by
  have l1 : word.length = n1 := by have := hR1.len; rw [u8s_length] at this; omega
  have l2 : salt.length = n2 := by have := hR2.len; rw [u8s_length] at this; omega
  unfold startT startE
  by_cases h : n1 ≤ 64 ∧ n2 ≤ 64
  · rw [if_pos (by omega), if_pos (by omega)]
    exact start_ok a1 n1 c1 word a2 n2 c2 salt w hR1 hR2 h.1 h.2 hT
  · rw [if_neg (by omega), if_neg (by omega)]
    exact start_long a1 n1 c1 a2 n2 c2 w (rd_le hR1) (rd_le hR2) (by omega)
theorem rgo_calls (s : St) (a : Option Addr) (n cap : Nat) (bs : List (BitVec 8)) (r : Int) (w : World) (hR : Rd w 1 a n cap (u8s bs)) :
    Calls Tryd.prog 13 #[.agg s.C, .slice a n cap, .int .i64 r] w fun e w' => e = .returned (.tuple #[.agg (goT s bs r).C, .int .i64 (goE bs r)]) ∧ Below w.heap.size w w' := by
  have l1 : bs.length = n := by have := hR.len; rw [u8s_length] at this; omega
  unfold goT goE
  rw [l1]
  by_cases h : n ≤ 64 ∧ 0 ≤ r ∧ r ≤ 4096
  · obtain ⟨m, rfl⟩ : ∃ m : Nat, r = (m : Int) := ⟨r.toNat, by omega⟩
    rw [if_pos (by omega), if_neg (by omega), if_neg (by omega)]
    exact rgo_ok s a n cap bs m w hR h.1 (by omega)
  · have := rgo_no s a n cap r w (by omega)
    rw [if_neg h]
    by_cases h1 : 64 < n
    · rw [if_pos h1] at this ⊢; exact this
    · rw [if_neg h1] at this ⊢; rw [if_pos (by omega)]; exact this
theorem go_calls (s : St) (a : Option Addr) (n cap : Nat) (bs : List (BitVec 8)) (r : Int) (w : World) (hR : Rd w 1 a n cap (u8s bs)) (hT : Turns w) :
    Calls Tryd.prog 9 #[.agg s.C, .slice a n cap, .int .i64 r] w fun e w' => e = .returned (.tuple #[.agg (goT s bs r).C, .int .i64 (goE bs r)]) ∧ Below w.heap.size w w' := by
  have l1 : bs.length = n := by have := hR.len; rw [u8s_length] at this; omega
  unfold goT goE
  rw [l1]
  by_cases h : n ≤ 64 ∧ 0 ≤ r ∧ r ≤ 4096
  · obtain ⟨m, rfl⟩ : ∃ m : Nat, r = (m : Int) := ⟨r.toNat, by omega⟩
    rw [if_pos (by omega), if_neg (by omega), if_neg (by omega)]
    exact go_ok s a n cap bs m w hR h.1 (by omega) hT
  · rw [if_neg h]
    by_cases h1 : 64 < n
    · rw [if_pos h1]; exact go_long s a n cap r w (rd_le hR) h1
    · rw [if_neg h1, if_pos (by omega)]; exact go_arg s a n cap r w (rd_le hR) (by omega) (by omega)
def keyT (word salt : List (BitVec 8)) (r : Int) : St := if startE word salt = 0 ∧ 1 ≤ r then goT (startT word salt) word r else St.zero
def keyE (word salt : List (BitVec 8)) (r : Int) : Int := if startE word salt = 0 then (if r < 1 then 1 else goE word r) else startE word salt

set_option maxHeartbeats 1000000 in
set_option maxRecDepth 100000 in
theorem key_calls (a1 : Option Addr) (n1 c1 : Nat) (word : List (BitVec 8)) (a2 : Option Addr) (n2 c2 : Nat) (salt : List (BitVec 8)) (r : Int) (w : World) (hR1 : Rd w 1 a1 n1 c1 (u8s word)) (hR2 : Rd w 1 a2 n2 c2 (u8s salt)) (hT : Turns w) :
    Calls Tryd.prog 11 #[.slice a1 n1 c1, .slice a2 n2 c2, .int .i64 r] w fun e w' => e = .returned (.tuple #[.agg (keyT word salt r).C, .int .i64 (keyE word salt r)]) ∧ Below w.heap.size w w' := by
  have hO := Own.start w
  have g1 := fun w hR1 hR2 hT => start_calls a1 n1 c1 word a2 n2 c2 salt w hR1 hR2 hT
  have g2 := fun w hR hT => go_calls (startT word salt) a1 n1 c1 word r w hR hT
  unfold keyT keyE
  obtain ⟨X, hX⟩ : ∃ X, startT word salt = X := ⟨_, rfl⟩
  obtain ⟨Y, hY⟩ : ∃ Y, goT X word r = Y := ⟨_, rfl⟩
  obtain ⟨F, hF⟩ : ∃ F, goE word r = F := ⟨_, rfl⟩
  have hE3 : startE word salt = 0 ∨ startE word salt = 3 := by unfold startE; split <;> simp
  rw [hX] at g1 g2
  rw [hX, hF, hY]
  rw [hY, hF] at g2
  have G2 := Lib.hid g2
  have HR1 := Lib.hid hR1
  have HR2 := Lib.hid hR2
  have HT := Lib.hid hT
  rcases hE3 with hE | hE
  · rw [hE] at g1
    rw [hE, if_pos rfl]
    have G1 := Lib.hid g1
    clear hR1 hR2 hT g1 g2 hX hY hF hE
    by_cases hr : r < 1
    · have d1 : decide (r < 1) = true := by simp; omega
      rw [if_neg (by omega), if_pos hr]
      generalize hW : w = wn at hO HR1 HR2 HT ⊢
      clear hW w
      go_enter Tryd.func11, Tryd.ntmps11
      go_wp2_with (first
        | ((with_reducible refine gAlloc ?_); refine own_alloc hO _ _ iwz ?_; clear hO; intro rr ww hO)
        | ((with_reducible refine gLoad ?_); first | refine ldX hO 0 rfl rfl (tA rfl) (tS rfl) ?_ | refine ldC hO 0 rfl rfl (tA rfl) rfl ?_ | refine ldX hO 1 rfl rfl (tA rfl) (tS rfl) ?_ | refine ldC hO 1 rfl rfl (tA rfl) rfl ?_)
        | ((with_reducible refine gStore ?_); first | (refine stX hO 0 rfl rfl rfl rfl rfl (tS rfl) ?_; clear hO; intro ww hO) | (refine stC hO 0 rfl rfl rfl (ltb rfl) rfl (tS rfl) ?_; clear hO; intro ww hO) | (refine stX hO 1 rfl rfl rfl rfl rfl (tS rfl) ?_; clear hO; intro ww hO) | (refine stC hO 1 rfl rfl rfl (ltb rfl) rfl (tS rfl) ?_; clear hO; intro ww hO))
        | (go_at_call 10; refine (G1.out _ (hO.rd HR1.out) (hO.rd HR2.out) (HT.out.own hO)).mono ?_; rintro e ww ⟨rfl, hb⟩; replace hO := hO.call hb; clear hb))
      refine bodyPost_ret (res_ct rfl _ _ _ 24 St.zero.C (0,0) _ rfl (hO.blk 1 rfl) Tryd.underlying24 rfl (iws' _)) rfl ⟨rfl, hO.below⟩
    · have d1 : decide (r < 1) = false := by simp; omega
      rw [if_pos (by omega), if_neg hr]
      generalize hW : w = wn at hO HR1 HR2 HT ⊢
      clear hW w
      go_enter Tryd.func11, Tryd.ntmps11
      go_wp2_with (first
        | ((with_reducible refine gAlloc ?_); refine own_alloc hO _ _ iwz ?_; clear hO; intro rr ww hO)
        | ((with_reducible refine gLoad ?_); first | refine ldX hO 0 rfl rfl (tA rfl) (tS rfl) ?_ | refine ldC hO 0 rfl rfl (tA rfl) rfl ?_ | refine ldX hO 1 rfl rfl (tA rfl) (tS rfl) ?_ | refine ldC hO 1 rfl rfl (tA rfl) rfl ?_)
        | ((with_reducible refine gStore ?_); first | (refine stX hO 0 rfl rfl rfl rfl rfl (tS rfl) ?_; clear hO; intro ww hO) | (refine stC hO 0 rfl rfl rfl (ltb rfl) rfl (tS rfl) ?_; clear hO; intro ww hO) | (refine stX hO 1 rfl rfl rfl rfl rfl (tS rfl) ?_; clear hO; intro ww hO) | (refine stC hO 1 rfl rfl rfl (ltb rfl) rfl (tS rfl) ?_; clear hO; intro ww hO))
        | (go_at_call 10; refine (G1.out _ (hO.rd HR1.out) (hO.rd HR2.out) (HT.out.own hO)).mono ?_; rintro e ww ⟨rfl, hb⟩; replace hO := hO.call hb; clear hb)
        | (go_at_call 9; refine (G2.out _ (hO.rd HR1.out) (HT.out.own hO)).mono ?_; rintro e ww ⟨rfl, hb⟩; replace hO := hO.call hb; clear hb))
      refine bodyPost_ret (res_ct rfl _ _ _ 24 Y.C (0,0) _ rfl (hO.blk 1 rfl) Tryd.underlying24 rfl (iws' _)) rfl ⟨rfl, hO.below⟩
  · rw [hE] at g1
    rw [hE, if_neg (by omega), if_neg (by omega)]
    have G1 := Lib.hid g1
    clear hR1 hR2 hT g1 g2 hX hY hF hE
    generalize hW : w = wn at hO HR1 HR2 HT ⊢
    clear hW w
    go_enter Tryd.func11, Tryd.ntmps11
    go_wp2_with (first
      | ((with_reducible refine gAlloc ?_); refine own_alloc hO _ _ iwz ?_; clear hO; intro rr ww hO)
      | ((with_reducible refine gLoad ?_); first | refine ldX hO 0 rfl rfl (tA rfl) (tS rfl) ?_ | refine ldC hO 0 rfl rfl (tA rfl) rfl ?_ | refine ldX hO 1 rfl rfl (tA rfl) (tS rfl) ?_ | refine ldC hO 1 rfl rfl (tA rfl) rfl ?_)
      | ((with_reducible refine gStore ?_); first | (refine stX hO 0 rfl rfl rfl rfl rfl (tS rfl) ?_; clear hO; intro ww hO) | (refine stC hO 0 rfl rfl rfl (ltb rfl) rfl (tS rfl) ?_; clear hO; intro ww hO) | (refine stX hO 1 rfl rfl rfl rfl rfl (tS rfl) ?_; clear hO; intro ww hO) | (refine stC hO 1 rfl rfl rfl (ltb rfl) rfl (tS rfl) ?_; clear hO; intro ww hO))
      | (go_at_call 10; refine (G1.out _ (hO.rd HR1.out) (hO.rd HR2.out) (HT.out.own hO)).mono ?_; rintro e ww ⟨rfl, hb⟩; replace hO := hO.call hb; clear hb))
    refine bodyPost_ret (res_ct rfl _ _ _ 24 St.zero.C (0,0) _ rfl (hO.blk 1 rfl) Tryd.underlying24 rfl (iws' _)) rfl ⟨rfl, hO.below⟩

set_option maxHeartbeats 1000000 in
set_option maxRecDepth 100000 in
theorem rkey_calls (a1 : Option Addr) (n1 c1 : Nat) (word : List (BitVec 8)) (a2 : Option Addr) (n2 c2 : Nat) (salt : List (BitVec 8)) (r : Int) (w : World) (hR1 : Rd w 1 a1 n1 c1 (u8s word)) (hR2 : Rd w 1 a2 n2 c2 (u8s salt)) :
    Calls Tryd.prog 14 #[.slice a1 n1 c1, .slice a2 n2 c2, .int .i64 r] w fun e w' => e = .returned (.tuple #[.agg (keyT word salt r).C, .int .i64 (keyE word salt r)]) ∧ Below w.heap.size w w' := by
  have hO := Own.start w
  have g1 := fun w hR1 hR2 => rstart_calls a1 n1 c1 word a2 n2 c2 salt w hR1 hR2
  have g2 := fun w hR => rgo_calls (startT word salt) a1 n1 c1 word r w hR
  unfold keyT keyE
  obtain ⟨X, hX⟩ : ∃ X, startT word salt = X := ⟨_, rfl⟩
  have hneg : startE word salt = 0 → r < 0 → goT X word r = St.zero ∧ goE word r = 1 := fun h0 h => by
    have hl : word.length ≤ 64 := by
      unfold startE at h0
      split at h0
      · rename_i h1; exact h1.1
      · omega
    unfold goT goE
    rw [if_neg (by omega), if_neg (by omega), if_pos (by omega)]
    exact ⟨rfl, rfl⟩
  obtain ⟨Y, hY⟩ : ∃ Y, goT X word r = Y := ⟨_, rfl⟩
  obtain ⟨F, hF⟩ : ∃ F, goE word r = F := ⟨_, rfl⟩
  have hE3 : startE word salt = 0 ∨ startE word salt = 3 := by unfold startE; split <;> simp
  rw [hX] at g1 g2
  rw [hY, hF] at hneg
  rw [hX, hF, hY]
  rw [hY, hF] at g2
  have HR1 := Lib.hid hR1
  have HR2 := Lib.hid hR2
  rcases hE3 with hE | hE
  · rw [hE] at g1
    have hneg := hneg hE
    rw [hE, if_pos rfl]
    have G1 := Lib.hid g1
    by_cases hr : r = 0
    · subst hr
      clear hR1 hR2 g1 g2 hX hY hF hE hneg
      rw [if_neg (by omega), if_pos (by omega)]
      generalize hW : w = wn at hO HR1 HR2 ⊢
      clear hW w
      go_enter Tryd.func14, Tryd.ntmps14
      go_wp2_with (first
        | ((with_reducible refine gAlloc ?_); refine own_alloc hO _ _ iwz ?_; clear hO; intro rr ww hO)
        | ((with_reducible refine gLoad ?_); first | refine ldX hO 0 rfl rfl (tA rfl) (tS rfl) ?_ | refine ldC hO 0 rfl rfl (tA rfl) rfl ?_ | refine ldX hO 1 rfl rfl (tA rfl) (tS rfl) ?_ | refine ldC hO 1 rfl rfl (tA rfl) rfl ?_)
        | ((with_reducible refine gStore ?_); first | (refine stX hO 0 rfl rfl rfl rfl rfl (tS rfl) ?_; clear hO; intro ww hO) | (refine stC hO 0 rfl rfl rfl (ltb rfl) rfl (tS rfl) ?_; clear hO; intro ww hO) | (refine stX hO 1 rfl rfl rfl rfl rfl (tS rfl) ?_; clear hO; intro ww hO) | (refine stC hO 1 rfl rfl rfl (ltb rfl) rfl (tS rfl) ?_; clear hO; intro ww hO))
        | (go_at_call 12; refine (G1.out _ (hO.rd HR1.out) (hO.rd HR2.out)).mono ?_; rintro e ww ⟨rfl, hb⟩; replace hO := hO.call hb; clear hb))
      refine bodyPost_ret (res_ct rfl _ _ _ 24 St.zero.C (0,0) _ rfl (hO.blk 1 rfl) Tryd.underlying24 rfl (iws' _)) rfl ⟨rfl, hO.below⟩
    · have d1 : (r == 0) = false := by simp; omega
      have e1 : (if (0 : Int) = 0 ∧ 1 ≤ r then Y else St.zero) = Y := by
        by_cases h1 : 1 ≤ r
        · rw [if_pos ⟨rfl, h1⟩]
        · rw [if_neg (by omega), (hneg (by omega)).1]
      have e2 : (if r < 1 then 1 else F) = F := by
        by_cases h1 : 1 ≤ r
        · rw [if_neg (by omega)]
        · rw [if_pos (by omega), (hneg (by omega)).2]
      rw [e1, e2]
      have G2 := Lib.hid g2
      clear hR1 hR2 g1 g2 hX hY hF hE hneg e1 e2
      generalize hW : w = wn at hO HR1 HR2 ⊢
      clear hW w
      go_enter Tryd.func14, Tryd.ntmps14
      go_wp2_with (first
        | ((with_reducible refine gAlloc ?_); refine own_alloc hO _ _ iwz ?_; clear hO; intro rr ww hO)
        | ((with_reducible refine gLoad ?_); first | refine ldX hO 0 rfl rfl (tA rfl) (tS rfl) ?_ | refine ldC hO 0 rfl rfl (tA rfl) rfl ?_ | refine ldX hO 1 rfl rfl (tA rfl) (tS rfl) ?_ | refine ldC hO 1 rfl rfl (tA rfl) rfl ?_)
        | ((with_reducible refine gStore ?_); first | (refine stX hO 0 rfl rfl rfl rfl rfl (tS rfl) ?_; clear hO; intro ww hO) | (refine stC hO 0 rfl rfl rfl (ltb rfl) rfl (tS rfl) ?_; clear hO; intro ww hO) | (refine stX hO 1 rfl rfl rfl rfl rfl (tS rfl) ?_; clear hO; intro ww hO) | (refine stC hO 1 rfl rfl rfl (ltb rfl) rfl (tS rfl) ?_; clear hO; intro ww hO))
        | (go_at_call 12; refine (G1.out _ (hO.rd HR1.out) (hO.rd HR2.out)).mono ?_; rintro e ww ⟨rfl, hb⟩; replace hO := hO.call hb; clear hb)
        | (go_at_call 13; refine (G2.out _ (hO.rd HR1.out)).mono ?_; rintro e ww ⟨rfl, hb⟩; replace hO := hO.call hb; clear hb))
      refine bodyPost_ret (res_ct rfl _ _ _ 24 Y.C (0,0) _ rfl (hO.blk 1 rfl) Tryd.underlying24 rfl (iws' _)) rfl ⟨rfl, hO.below⟩
  · rw [hE] at g1
    rw [hE, if_neg (by omega), if_neg (by omega)]
    have G1 := Lib.hid g1
    clear hR1 hR2 g1 g2 hX hY hF hE hneg
    generalize hW : w = wn at hO HR1 HR2 ⊢
    clear hW w
    go_enter Tryd.func14, Tryd.ntmps14
    go_wp2_with (first
      | ((with_reducible refine gAlloc ?_); refine own_alloc hO _ _ iwz ?_; clear hO; intro rr ww hO)
      | ((with_reducible refine gLoad ?_); first | refine ldX hO 0 rfl rfl (tA rfl) (tS rfl) ?_ | refine ldC hO 0 rfl rfl (tA rfl) rfl ?_ | refine ldX hO 1 rfl rfl (tA rfl) (tS rfl) ?_ | refine ldC hO 1 rfl rfl (tA rfl) rfl ?_)
      | ((with_reducible refine gStore ?_); first | (refine stX hO 0 rfl rfl rfl rfl rfl (tS rfl) ?_; clear hO; intro ww hO) | (refine stC hO 0 rfl rfl rfl (ltb rfl) rfl (tS rfl) ?_; clear hO; intro ww hO) | (refine stX hO 1 rfl rfl rfl rfl rfl (tS rfl) ?_; clear hO; intro ww hO) | (refine stC hO 1 rfl rfl rfl (ltb rfl) rfl (tS rfl) ?_; clear hO; intro ww hO))
      | (go_at_call 12; refine (G1.out _ (hO.rd HR1.out) (hO.rd HR2.out)).mono ?_; rintro e ww ⟨rfl, hb⟩; replace hO := hO.call hb; clear hb))
    refine bodyPost_ret (res_ct rfl _ _ _ 24 St.zero.C (0,0) _ rfl (hO.blk 1 rfl) Tryd.underlying24 rfl (iws' _)) rfl ⟨rfl, hO.below⟩
end Go.Proofs.YtbgefpmnncaifaaDoor
