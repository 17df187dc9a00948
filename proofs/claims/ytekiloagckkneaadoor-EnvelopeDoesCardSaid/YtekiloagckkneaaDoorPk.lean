/- The walk of the document's Squeeze; of Absorb and Squeeze, of both, for whatever comes in. -/
import Derived.Test.YtekiloagckkneaaDoorPj
import Derived.Test.YtekiloagckkneaaDoorPSq
namespace Go.Proofs.YtekiloagckkneaaDoor
open Go.RowKit Go.Own Go.Bv Go.Ord Go.Eq

set_option maxHeartbeats 2000000 in
set_option maxRecDepth 100000 in
theorem rsqueeze_ok (s : St) (n : Nat) (hn : n ≤ 131072) (w : World) :
    Calls Tryd.prog 39 #[.agg s.C, .int .i64 (n : Int)] w fun e w' => ∃ a c, e = .returned (.tuple #[.slice a n c, .int .i64 0]) ∧ Below w.heap.size w w' ∧ Rd w' 1 a n c (u8s (s.squeeze n)) := by
  have hO := Own.start w
  generalize hW : w = wn at hO ⊢
  clear hW w
  have hb0 : decide ((n : Int) < 0) = false := by simp
  have hb1 : decide ((131072 : Int) < (n : Int)) = false := by simp; omega
  go_enter Tryd.func39, Tryd.ntmps39
  go_wp2_with (first | ((with_reducible refine gBox ?_); first | (refine bxA hO rfl ?_; clear hO; intro b ww hO) | (refine bx1 hO rfl rfl ?_; clear hO; intro b ww hO)))
  replace hO : Own wn ww [.sl 5 1 (.slice none 0 0) 0 [], .blk b (.cells s.C 24 (0,0))] := hO.add (Below.refl _ _) (World.ownsRow_nil _ _ _ _)
  go_loopg [6] (n + 1) (fun m v wr => ∃ (k : Nat) (a : Option Addr) (cp : Nat), m = (n + 1) - 8 * k ∧ 8 * k < n + 8 ∧ v = .slice a (8 * k) cp ∧ Own wn wr [.sl 5 1 (.slice a (8 * k) cp) (8 * k) (u8s (s.sqK k)), .blk b (.cells (St.permN k s).C 24 (0,0))])
  case atStart => exact ⟨0, none, 0, rfl, by omega, rfl, hO⟩
  case round =>
    obtain ⟨k, a, cp, rfl, hk, rfl, hO1⟩ := hrel
    clear hO
    have hO := hO1
    clear hO1
    by_cases hlt : 8 * k < n
    · have hb2 : decide (((8 * k : Nat) : Int) < (n : Int)) = true := by simp; omega
      have HS := Lib.hid (sq_next s k)
      have HP : Hid (St.permN (k + 1) s = (St.permN k s).perm) := rfl
      generalize St.permN k s = u at *
      obtain ⟨v, hv⟩ : ∃ v, u.perm = v := ⟨_, rfl⟩
      have HV := Lib.hid hv
      rw [hv] at HP
      obtain ⟨L, hL⟩ : ∃ L, u8s (s.sqK k) = L := ⟨_, rfl⟩
      rw [hL] at hO
      have HL := Lib.hid hL
      obtain ⟨N, hN⟩ : ∃ N, N = 8 * k := ⟨_, rfl⟩
      rw [← hN] at hO hb2 ⊢
      have hN2 : N ≤ 131072 := by omega
      have hb3 : decide (N < n) = true := by simp; omega
      have HN := Lib.hid hN
      clear hv hL hN
      go_wp2_with (first
        | ((with_reducible refine gLoad ?_); first | refine ldC hO 1 rfl rfl (tA rfl) rfl ?_ | refine ldC hO 2 rfl rfl (tA rfl) rfl ?_ | refine ldX hO 3 rfl rfl (tA rfl) (tS rfl) ?_)
        | ((with_reducible refine gStore ?_); refine stX hO 3 rfl rfl rfl rfl rfl (tS rfl) ?_; clear hO; intro ww hO)
        | (go_at_call 42; (with_reducible refine gCall #[.int .u32 (u.a.toNat : Int)] ?_); refine (oct4_calls u.a _).mono ?_; rintro e ww ⟨g, rfl, hb, hr⟩; replace hO := hO.addRow hb hr; clear hb hr)
        | (go_at_call 42; refine (oct4_calls u.b _).mono ?_; rintro e ww ⟨g, rfl, hb, hr⟩; replace hO := hO.addRow hb hr; clear hb hr)
        | ((with_reducible refine gAppend ?_); first
            | (refine own_append hO 1 _ _ 28 eu8 rfl rfl rfl (hO.rdAt 0 rfl) (u8s_one _) (N + 4) rfl (by simp [maxLen]; omega) (by omega) ?_; clear hO; intro a2 c2 ww hO)
            | (refine own_append hO 2 _ _ 28 eu8 rfl rfl rfl (hO.rdAt 0 rfl) (u8s_one _) (N + 8) rfl (by simp [maxLen]; omega) (by omega) ?_; clear hO; intro a3 c3 ww hO))
        | (go_at_call 44; refine (rperm_calls u _).mono ?_; rw [HV.out]; rintro e ww ⟨rfl, hb⟩; replace hO := hO.call hb; clear hb))
      go_roundg ((n + 1) - 8 * (k + 1))
      case measure => omega
      case rel =>
        refine ⟨k + 1, a3, c3, rfl, by omega, by rw [HN.out]; rfl, ?_⟩
        rw [HS.out, HP.out, u8s_append, u8s_append, HL.out, ← List.append_assoc, show 8 * (k + 1) = N + 8 by have := HN.out; omega]
        exact hO.sub (List.Sublist.cons _ (List.Sublist.cons _ (List.Sublist.refl _)))
    · have hb2 : decide (((8 * k : Nat) : Int) < (n : Int)) = false := by simp; omega
      have HF : Hid (u8s (s.squeeze n) = (u8s (s.sqK k)).take n) := by show _ = _; rw [St.squeeze_of s (by omega : n ≤ 8 * k), u8s_take]
      have HR := Lib.hid ((hO.rdAt 0 rfl).take n (by omega))
      have hle := (hO.rdAt 0 rfl).le
      have hnc : n ≤ cp := by omega
      have hb3 : decide (8 * k < n) = false := by simp; omega
      go_wp2
      go_ret2
      refine ⟨_, _, rfl, hO.below, ?_⟩
      have := HR.out
      rwa [Nat.mul_one, ← HF.out] at this
set_option maxHeartbeats 1000000 in
theorem rsqueeze_no (s : St) (n : Int) (w : World) (h : n < 0 ∨ 131072 < n) :
    Calls Tryd.prog 39 #[.agg s.C, .int .i64 n] w fun e w' => e = .returned (.tuple #[.slice none 0 0, .int .i64 (if n < 0 then 1 else 3)]) ∧ Below w.heap.size w w' := by
  have hO := Own.start w
  generalize hW : w = wn at hO ⊢
  clear hW w
  by_cases h0 : n < 0
  · have hb0 : decide (n < 0) = true := by simp; omega
    rw [if_pos h0]
    clear h
    go_enter Tryd.func39, Tryd.ntmps39
    go_wp2_with (first | ((with_reducible refine gBox ?_); first | (refine bxA hO rfl ?_; clear hO; intro b ww hO) | (refine bx1 hO rfl rfl ?_; clear hO; intro b ww hO)))
    go_ret2
    exact ⟨rfl, hO.below⟩
  · have hb0 : decide (n < 0) = false := by simp; omega
    have hb1 : decide (131072 < n) = true := by simp; omega
    rw [if_neg h0]
    clear h
    go_enter Tryd.func39, Tryd.ntmps39
    go_wp2_with (first | ((with_reducible refine gBox ?_); first | (refine bxA hO rfl ?_; clear hO; intro b ww hO) | (refine bx1 hO rfl rfl ?_; clear hO; intro b ww hO)))
    go_ret2
    exact ⟨rfl, hO.below⟩
set_option maxHeartbeats 1000000 in
theorem squeeze_no (s : St) (n : Int) (w : World) (h : n < 0 ∨ 131072 < n) :
    Calls Tryd.prog 28 #[.agg s.C, .int .i64 n] w fun e w' => e = .returned (.tuple #[.slice none 0 0, .int .i64 (if n < 0 then 1 else 3)]) ∧ Below w.heap.size w w' := by
  have hO := Own.start w
  generalize hW : w = wn at hO ⊢
  clear hW w
  by_cases h0 : n < 0
  · have hb0 : decide (n < 0) = true := by simp; omega
    rw [if_pos h0]
    clear h
    go_enter Tryd.func28, Tryd.ntmps28
    go_wp2_with (first | ((with_reducible refine gBox ?_); first | (refine bxA hO rfl ?_; clear hO; intro b ww hO) | (refine bx1 hO rfl rfl ?_; clear hO; intro b ww hO)))
    go_ret2
    exact ⟨rfl, hO.below⟩
  · have hb0 : decide (n < 0) = false := by simp; omega
    have hb1 : decide (131072 < n) = true := by simp; omega
    rw [if_neg h0]
    clear h
    go_enter Tryd.func28, Tryd.ntmps28
    go_wp2_with (first | ((with_reducible refine gBox ?_); first | (refine bxA hO rfl ?_; clear hO; intro b ww hO) | (refine bx1 hO rfl rfl ?_; clear hO; intro b ww hO)))
    go_ret2
    exact ⟨rfl, hO.below⟩
def sqT (s : St) (n : Int) : List (BitVec 8) := if n < 0 ∨ 131072 < n then [] else s.squeeze n.toNat
def sqE (n : Int) : Int := if n < 0 then 1 else if 131072 < n then 3 else 0
/-- what is squeezed out, or why not -/
def SqOut (w : World) (X : List (BitVec 8)) (E : Int) (e : Ending) (w' : World) : Prop :=
  ∃ a m c, e = .returned (.tuple #[.slice a m c, .int .i64 E]) ∧ Below w.heap.size w w' ∧ Rd w' 1 a m c (u8s X)
theorem rsqueeze_calls (s : St) (n : Int) (w : World) : Calls Tryd.prog 39 #[.agg s.C, .int .i64 n] w (SqOut w (sqT s n) (sqE n)) := by
  by_cases h : n < 0 ∨ 131072 < n
  · refine (rsqueeze_no s n w h).mono fun e w' ⟨h1, h2⟩ => ?_
    have e1 : sqT s n = [] := if_pos h
    have e2 : sqE n = if n < 0 then 1 else 3 := by
      unfold sqE
      by_cases h0 : n < 0
      · rw [if_pos h0, if_pos h0]
      · rw [if_neg h0, if_neg h0, if_pos (by omega)]
    rw [e1, e2]
    exact ⟨none, 0, 0, h1, h2, rd_zero _ _ (by simp [maxLen]) (fun _ => rfl)⟩
  · obtain ⟨m, rfl⟩ : ∃ m : Nat, n = (m : Int) := ⟨n.toNat, by omega⟩
    refine (rsqueeze_ok s m (by omega) w).mono fun e w' ⟨a, c, h1, h2, h3⟩ => ?_
    have e1 : sqT s m = s.squeeze m := if_neg h
    have e2 : sqE m = 0 := by unfold sqE; rw [if_neg (by omega), if_neg (by omega)]
    rw [e1, e2]
    exact ⟨a, m, c, h1, h2, h3⟩
theorem squeeze_calls' (s : St) (n : Int) (w : World) (hT : Turns w) : Calls Tryd.prog 28 #[.agg s.C, .int .i64 n] w (SqOut w (sqT s n) (sqE n)) := by
  by_cases h : n < 0 ∨ 131072 < n
  · refine (squeeze_no s n w h).mono fun e w' ⟨h1, h2⟩ => ?_
    have e1 : sqT s n = [] := if_pos h
    have e2 : sqE n = if n < 0 then 1 else 3 := by
      unfold sqE
      by_cases h0 : n < 0
      · rw [if_pos h0, if_pos h0]
      · rw [if_neg h0, if_neg h0, if_pos (by omega)]
    rw [e1, e2]
    exact ⟨none, 0, 0, h1, h2, rd_zero _ _ (by simp [maxLen]) (fun _ => rfl)⟩
  · obtain ⟨m, rfl⟩ : ∃ m : Nat, n = (m : Int) := ⟨n.toNat, by omega⟩
    refine (squeeze_calls s m (by omega) w hT).mono fun e w' ⟨g, C, h1, h2, h3, h4⟩ => ?_
    have e1 : sqT s m = s.squeeze m := if_neg h
    have e2 : sqE m = 0 := by unfold sqE; rw [if_neg (by omega), if_neg (by omega)]
    rw [e1, e2]
    refine ⟨_, m, m, h1, h2, rd_blk_off h3.2 0 (by rw [List.drop_zero]; exact h4) (by rw [u8s_length, St.squeeze_length]) (Nat.le_refl _) (by unfold maxLen; omega)⟩
set_option maxHeartbeats 1000000 in
theorem absorb_no (s : St) (a : Option Addr) (n cap : Nat) (w : World) (hn : 131072 < n) :
    Calls Tryd.prog 26 #[.agg s.C, .slice a n cap] w fun e w' => e = .returned (.tuple #[.agg St.zero.C, .int .i64 3]) ∧ Below w.heap.size w w' := by
  have hO := Own.start w
  have d1 : decide ((131072 : Int) < (n : Int)) = true := by simp; omega
  generalize hW : w = wn at hO ⊢
  clear hW w
  go_enter Tryd.func26, Tryd.ntmps26
  go_wp2_with (first | ((with_reducible refine gBox ?_); first | (refine bxA hO rfl ?_; clear hO; intro b ww hO) | (refine bx1 hO rfl rfl ?_; clear hO; intro b ww hO)) | ((with_reducible refine gAlloc ?_); refine own_alloc hO _ _ iwz ?_; clear hO; intro rr ww hO) | ((with_reducible refine gStore ?_); first | (refine stX hO 0 rfl rfl rfl rfl rfl (tS rfl) ?_; clear hO; intro ww hO) | (refine stC hO 0 rfl rfl rfl (ltb rfl) rfl (tS rfl) ?_; clear hO; intro ww hO)))
  refine bodyPost_ret (res_ct rfl _ _ rr 24 St.zero.C (0,0) _ rfl (hO.blk 0 rfl) Tryd.underlying24 rfl (iws' _)) rfl ⟨rfl, hO.below⟩
set_option maxHeartbeats 1000000 in
theorem rabsorb_no (s : St) (a : Option Addr) (n cap : Nat) (w : World) (hn : 131072 < n) :
    Calls Tryd.prog 38 #[.agg s.C, .slice a n cap] w fun e w' => e = .returned (.tuple #[.agg St.zero.C, .int .i64 3]) ∧ Below w.heap.size w w' := by
  have hO := Own.start w
  have d1 : decide ((131072 : Int) < (n : Int)) = true := by simp; omega
  generalize hW : w = wn at hO ⊢
  clear hW w
  go_enter Tryd.func38, Tryd.ntmps38
  go_wp2_with (first | ((with_reducible refine gBox ?_); first | (refine bxA hO rfl ?_; clear hO; intro b ww hO) | (refine bx1 hO rfl rfl ?_; clear hO; intro b ww hO)) | ((with_reducible refine gAlloc ?_); refine own_alloc hO _ _ iwz ?_; clear hO; intro rr ww hO) | ((with_reducible refine gStore ?_); first | (refine stX hO 0 rfl rfl rfl rfl rfl (tS rfl) ?_; clear hO; intro ww hO) | (refine stC hO 0 rfl rfl rfl (ltb rfl) rfl (tS rfl) ?_; clear hO; intro ww hO)))
  refine bodyPost_ret (res_ct rfl _ _ rr 24 St.zero.C (0,0) _ rfl (hO.blk 0 rfl) Tryd.underlying24 rfl (iws' _)) rfl ⟨rfl, hO.below⟩
theorem absorb_calls (s : St) (a : Option Addr) (n cap : Nat) (bs : List (BitVec 8)) (w : World) (hR : Rd w 1 a n cap (u8s bs)) (hT : Turns w) :
    Calls Tryd.prog 26 #[.agg s.C, .slice a n cap] w fun e w' => e = .returned (.tuple #[.agg (absT s bs).C, .int .i64 (absE bs)]) ∧ Below w.heap.size w w' := by
  have hl : bs.length = n := by have := hR.len; rw [u8s_length] at this; omega
  unfold absT absE
  by_cases h : n ≤ 131072
  · rw [if_pos (by omega), if_pos (by omega)]
    exact absorb1_calls s a n cap bs w hR hT h
  · rw [if_neg (by omega), if_neg (by omega)]
    exact absorb_no s a n cap w (by omega)
theorem rabsorb_calls (s : St) (a : Option Addr) (n cap : Nat) (bs : List (BitVec 8)) (w : World) (hR : Rd w 1 a n cap (u8s bs)) :
    Calls Tryd.prog 38 #[.agg s.C, .slice a n cap] w fun e w' => e = .returned (.tuple #[.agg (absT s bs).C, .int .i64 (absE bs)]) ∧ Below w.heap.size w w' := by
  have hl : bs.length = n := by have := hR.len; rw [u8s_length] at this; omega
  unfold absT absE
  by_cases h : n ≤ 131072
  · rw [if_pos (by omega), if_pos (by omega)]
    exact rabsorb_ok s a n cap bs w hR h
  · rw [if_neg (by omega), if_neg (by omega)]
    exact rabsorb_no s a n cap w (by omega)
end Go.Proofs.YtekiloagckkneaaDoor
