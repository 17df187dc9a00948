/- The walk of DeriveGoes. -/
import Derived.Test.YtbgefpmnncaifaaDoorDk
namespace Go.Proofs.YtbgefpmnncaifaaDoor
open Go.RowKit Go.Own Go.Bv Go.Ord Go.Eq

theorem goes_eg : Tryd.prog.eqGuardType Tryd.prog.depth 24 = false := by kernel_rfl
theorem neWT (s : St) (w : World) : (binOp .neq 24 (.agg s.C) (.agg s.C)).run Tryd.prog w = .ok (.bool false) w := by
  have := run_neq_u32 (P := Tryd.prog) w Tryd.underlying24 Tryd.underlying22 iu32s s.l s.l rfl rfl
  rw [decide_eq_true rfl] at this
  exact this

set_option maxHeartbeats 1000000 in
set_option maxRecDepth 100000 in
theorem goes_long (s : St) (a1 : Option Addr) (n1 c1 : Nat) (a2 : Option Addr) (n2 c2 : Nat) (a b : Nat) (w : World) (hm1 : n1 ≤ maxLen) (h1 : 64 < n1) (ha : a < 256) (hT : Turns w) :
    Calls Tryd.prog 4 #[.agg s.C, .slice a1 n1 c1, .slice a2 n2 c2, .int .u8 (a : Int), .int .u8 (b : Int)] w fun e w' => e = .returned (.bool true) ∧ Below w.heap.size w w' := by
  have hO := Own.start w
  have HT := Lib.hid hT
  have HG := Lib.hid (fun w r => go_long s a1 n1 c1 r w hm1 h1)
  have a0 : (0 : Int) ≤ (a : Int) := by omega
  have aL : (a : Int) < 256 := by omega
  have d1 : decide ((64 : Int) < (n1 : Int)) = true := by simp; omega
  unfold maxLen at hm1
  clear hT
  generalize hW : w = wn at hO HT ⊢
  clear hW w
  go_enter Tryd.func4, Tryd.ntmps4
  go_wp2_with (first
    | ((with_reducible refine gBox ?_); first | (refine bxA hO rfl ?_; clear hO; intro bb ww hO) | (refine bx1 hO rfl rfl ?_; clear hO; intro bb ww hO))
    | ((with_reducible refine gLoad ?_); first | refine ldX hO 0 rfl rfl (tA rfl) (tS rfl) ?_ | refine ldC hO 0 rfl rfl (tA rfl) rfl ?_ | refine ldX hO 1 rfl rfl (tA rfl) (tS rfl) ?_ | refine ldC hO 1 rfl rfl (tA rfl) rfl ?_)
    | ((with_reducible refine gStore ?_); first | (refine stX hO 0 rfl rfl rfl rfl rfl (tS rfl) ?_; clear hO; intro ww hO) | (refine stC hO 0 rfl rfl rfl (ltb rfl) rfl (tS rfl) ?_; clear hO; intro ww hO))
    | ((with_reducible refine gAlloc ?_); refine own_alloc hO _ _ iwz ?_; clear hO; intro bb ww hO)
    | (go_at_call 8; refine (dlive_calls _ (HT.out.own hO)).mono ?_; rintro e ww ⟨rfl, hb⟩; replace hO := hO.call hb; clear hb)
    | (go_at_call 9; refine (HG.out _ _).mono ?_; rintro e ww ⟨rfl, hb⟩; replace hO := hO.call hb; clear hb))
  go_ret
  exact ⟨rfl, hO.below⟩

set_option maxHeartbeats 2000000 in
set_option maxRecDepth 100000 in
theorem goes_salt (s : St) (a1 : Option Addr) (n1 c1 : Nat) (word : List (BitVec 8)) (a2 : Option Addr) (n2 c2 : Nat) (a b : Nat) (w : World) (hR1 : Rd w 1 a1 n1 c1 (u8s word)) (h1 : n1 ≤ 64) (hm2 : n2 ≤ maxLen) (h2 : 64 < n2) (ha : a < 256) (hb : b < 256) (hT : Turns w) :
    Calls Tryd.prog 4 #[.agg s.C, .slice a1 n1 c1, .slice a2 n2 c2, .int .u8 (a : Int), .int .u8 (b : Int)] w fun e w' => e = .returned (.bool true) ∧ Below w.heap.size w w' := by
  have hO := Own.start w
  have a0 : (0 : Int) ≤ (a : Int) := by omega
  have aL : (a : Int) < 256 := by omega
  have b0 : (0 : Int) ≤ (b : Int) := by omega
  have bL : (b : Int) < 256 := by omega
  have hm1 := rd_le hR1
  obtain ⟨x, hx⟩ : ∃ x, s.goN word (a % 50) = x := ⟨_, rfl⟩
  obtain ⟨y, hy⟩ : ∃ y, x.goN word (b % 50) = y := ⟨_, rfl⟩
  have hz : s.goN word (a % 50 + b % 50) = y := by rw [← St.goN_add, hx, hy]
  have g1 := fun w hR hT => go_ok s a1 n1 c1 word (a % 50) w hR h1 (by omega) hT
  have g2 := fun w hR hT => go_ok x a1 n1 c1 word (b % 50) w hR h1 (by omega) hT
  have g3 := fun w hR hT => go_ok s a1 n1 c1 word (a % 50 + b % 50) w hR h1 (by omega) hT
  rw [hx, show ((a % 50 : Nat) : Int) = (a : Int) % 50 by omega] at g1
  rw [hy, show ((b % 50 : Nat) : Int) = (b : Int) % 50 by omega] at g2
  rw [hz, show ((a % 50 + b % 50 : Nat) : Int) = (a : Int) % 50 + (b : Int) % 50 by omega] at g3
  have G1 := Lib.hid g1
  have G2 := Lib.hid g2
  have G3 := Lib.hid g3
  have GS := Lib.hid (fun w => start_long a1 n1 c1 a2 n2 c2 w hm1 hm2 (.inr h2))
  have GK := Lib.hid (fun w r => key_long a1 n1 c1 a2 n2 c2 r w hm1 hm2 (.inr h2))
  have HR1 := Lib.hid hR1
  have HT := Lib.hid hT
  clear hR1 hT g1 g2 g3 hx hy hz hm1 hm2
  generalize hW : w = wn at hO HR1 HT ⊢
  clear hW w
  go_enter Tryd.func4, Tryd.ntmps4
  go_wp2_with (first
    | ((with_reducible refine gBox ?_); first | (refine bxA hO rfl ?_; clear hO; intro bb ww hO) | (refine bx1 hO rfl rfl ?_; clear hO; intro bb ww hO))
    | ((with_reducible refine gG ?_); refine wpList_want rfl ?_)
    | ((with_reducible refine gLoad ?_); first | refine ldX hO 0 rfl rfl (tA rfl) (tS rfl) ?_ | refine ldC hO 0 rfl rfl (tA rfl) rfl ?_ | refine ldX hO 1 rfl rfl (tA rfl) (tS rfl) ?_ | refine ldC hO 1 rfl rfl (tA rfl) rfl ?_ | refine ldX hO 2 rfl rfl (tA rfl) (tS rfl) ?_ | refine ldC hO 2 rfl rfl (tA rfl) rfl ?_ | refine ldX hO 3 rfl rfl (tA rfl) (tS rfl) ?_ | refine ldC hO 3 rfl rfl (tA rfl) rfl ?_ | refine ldX hO 4 rfl rfl (tA rfl) (tS rfl) ?_ | refine ldC hO 4 rfl rfl (tA rfl) rfl ?_ | refine ldX hO 5 rfl rfl (tA rfl) (tS rfl) ?_ | refine ldC hO 5 rfl rfl (tA rfl) rfl ?_)
    | ((with_reducible refine gStore ?_); first | (refine stX hO 0 rfl rfl rfl rfl rfl (tS rfl) ?_; clear hO; intro ww hO) | (refine stC hO 0 rfl rfl rfl (ltb rfl) rfl (tS rfl) ?_; clear hO; intro ww hO))
    | ((with_reducible refine gAlloc ?_); refine own_alloc hO _ _ iwz ?_; clear hO; intro bb ww hO)
    | (go_at_call 8; refine (dlive_calls _ (HT.out.own hO)).mono ?_; rintro e ww ⟨rfl, hb⟩; replace hO := hO.call hb; clear hb)
    | (go_at_call 9; (with_reducible refine gCall #[.agg s.C, _, .int .i64 ((a : Int) % 50)] ?_); refine (G1.out _ (hO.rd HR1.out) (HT.out.own hO)).mono ?_; rintro e ww ⟨rfl, hb⟩; replace hO := hO.call hb; clear hb)
    | (go_at_call 9; (with_reducible refine gCall #[.agg x.C, _, _] ?_); refine (G2.out _ (hO.rd HR1.out) (HT.out.own hO)).mono ?_; rintro e ww ⟨rfl, hb⟩; replace hO := hO.call hb; clear hb)
    | (go_at_call 9; (with_reducible refine gCall #[.agg s.C, _, .int .i64 ((a : Int) % 50 + (b : Int) % 50)] ?_); refine (G3.out _ (hO.rd HR1.out) (HT.out.own hO)).mono ?_; rintro e ww ⟨rfl, hb⟩; replace hO := hO.call hb; clear hb)
    | (go_at_call 10; refine (GS.out _).mono ?_; rintro e ww ⟨rfl, hb⟩; replace hO := hO.call hb; clear hb)
    | (go_at_call 11; refine (GK.out _ _).mono ?_; rintro e ww ⟨rfl, hb⟩; replace hO := hO.call hb; clear hb)
    | ((with_reducible refine gNeq (t := 24) ?_); refine neD goes_eg rfl rfl ?_; (with_reducible refine ⟨_, neWT _, ?_⟩)))
  go_ret
  exact ⟨rfl, hO.below⟩

set_option maxHeartbeats 2000000 in
set_option maxRecDepth 100000 in
theorem goes_in (s : St) (a1 : Option Addr) (n1 c1 : Nat) (word : List (BitVec 8)) (a2 : Option Addr) (n2 c2 : Nat) (salt : List (BitVec 8)) (a b : Nat) (w : World) (hR1 : Rd w 1 a1 n1 c1 (u8s word)) (hR2 : Rd w 1 a2 n2 c2 (u8s salt)) (h1 : n1 ≤ 64) (h2 : n2 ≤ 64) (ha : a < 256) (hb : b < 256) (hT : Turns w) :
    Calls Tryd.prog 4 #[.agg s.C, .slice a1 n1 c1, .slice a2 n2 c2, .int .u8 (a : Int), .int .u8 (b : Int)] w fun e w' => e = .returned (.bool true) ∧ Below w.heap.size w w' := by
  have hO := Own.start w
  have a0 : (0 : Int) ≤ (a : Int) := by omega
  have aL : (a : Int) < 256 := by omega
  have b0 : (0 : Int) ≤ (b : Int) := by omega
  have bL : (b : Int) < 256 := by omega
  obtain ⟨x, hx⟩ : ∃ x, s.goN word (a % 50) = x := ⟨_, rfl⟩
  obtain ⟨y, hy⟩ : ∃ y, x.goN word (b % 50) = y := ⟨_, rfl⟩
  have hz : s.goN word (a % 50 + b % 50) = y := by rw [← St.goN_add, hx, hy]
  obtain ⟨t, ht⟩ : ∃ t, St.startOf word salt = t := ⟨_, rfl⟩
  obtain ⟨k, hk⟩ : ∃ k, t.goN word (a % 50 + 1) = k := ⟨_, rfl⟩
  have g1 := fun w hR hT => go_ok s a1 n1 c1 word (a % 50) w hR h1 (by omega) hT
  have g2 := fun w hR hT => go_ok x a1 n1 c1 word (b % 50) w hR h1 (by omega) hT
  have g3 := fun w hR hT => go_ok s a1 n1 c1 word (a % 50 + b % 50) w hR h1 (by omega) hT
  have g4 := fun w hR hR2 hT => start_ok a1 n1 c1 word a2 n2 c2 salt w hR hR2 h1 h2 hT
  have g5 := fun w hR hR2 hT => key_ok a1 n1 c1 word a2 n2 c2 salt (a % 50 + 1) w hR hR2 h1 h2 (by omega) (by omega) hT
  have g6 := fun w hR hT => go_ok t a1 n1 c1 word (a % 50 + 1) w hR h1 (by omega) hT
  rw [hx, show ((a % 50 : Nat) : Int) = (a : Int) % 50 by omega] at g1
  rw [hy, show ((b % 50 : Nat) : Int) = (b : Int) % 50 by omega] at g2
  rw [hz, show ((a % 50 + b % 50 : Nat) : Int) = (a : Int) % 50 + (b : Int) % 50 by omega] at g3
  rw [ht] at g4
  rw [ht, hk, show ((a % 50 + 1 : Nat) : Int) = (a : Int) % 50 + 1 by omega] at g5
  rw [hk, show ((a % 50 + 1 : Nat) : Int) = (a : Int) % 50 + 1 by omega] at g6
  have G1 := Lib.hid g1
  have G2 := Lib.hid g2
  have G3 := Lib.hid g3
  have G4 := Lib.hid g4
  have G5 := Lib.hid g5
  have G6 := Lib.hid g6
  have HR1 := Lib.hid hR1
  have HR2 := Lib.hid hR2
  have HT := Lib.hid hT
  clear hR1 hR2 hT g1 g2 g3 g4 g5 g6 hx hy hz ht hk
  generalize hW : w = wn at hO HR1 HR2 HT ⊢
  clear hW w
  go_enter Tryd.func4, Tryd.ntmps4
  go_wp2_with (first
    | ((with_reducible refine gBox ?_); first | (refine bxA hO rfl ?_; clear hO; intro bb ww hO) | (refine bx1 hO rfl rfl ?_; clear hO; intro bb ww hO))
    | ((with_reducible refine gG ?_); refine wpList_want rfl ?_)
    | ((with_reducible refine gLoad ?_); first | refine ldX hO 0 rfl rfl (tA rfl) (tS rfl) ?_ | refine ldC hO 0 rfl rfl (tA rfl) rfl ?_ | refine ldX hO 1 rfl rfl (tA rfl) (tS rfl) ?_ | refine ldC hO 1 rfl rfl (tA rfl) rfl ?_ | refine ldX hO 2 rfl rfl (tA rfl) (tS rfl) ?_ | refine ldC hO 2 rfl rfl (tA rfl) rfl ?_ | refine ldX hO 3 rfl rfl (tA rfl) (tS rfl) ?_ | refine ldC hO 3 rfl rfl (tA rfl) rfl ?_ | refine ldX hO 4 rfl rfl (tA rfl) (tS rfl) ?_ | refine ldC hO 4 rfl rfl (tA rfl) rfl ?_ | refine ldX hO 5 rfl rfl (tA rfl) (tS rfl) ?_ | refine ldC hO 5 rfl rfl (tA rfl) rfl ?_ | refine ldX hO 6 rfl rfl (tA rfl) (tS rfl) ?_ | refine ldC hO 6 rfl rfl (tA rfl) rfl ?_)
    | ((with_reducible refine gStore ?_); first | (refine stX hO 0 rfl rfl rfl rfl rfl (tS rfl) ?_; clear hO; intro ww hO) | (refine stC hO 0 rfl rfl rfl (ltb rfl) rfl (tS rfl) ?_; clear hO; intro ww hO))
    | ((with_reducible refine gAlloc ?_); refine own_alloc hO _ _ iwz ?_; clear hO; intro bb ww hO)
    | (go_at_call 8; refine (dlive_calls _ (HT.out.own hO)).mono ?_; rintro e ww ⟨rfl, hb⟩; replace hO := hO.call hb; clear hb)
    | (go_at_call 9; (with_reducible refine gCall #[.agg s.C, _, .int .i64 ((a : Int) % 50)] ?_); refine (G1.out _ (hO.rd HR1.out) (HT.out.own hO)).mono ?_; rintro e ww ⟨rfl, hb⟩; replace hO := hO.call hb; clear hb)
    | (go_at_call 9; (with_reducible refine gCall #[.agg x.C, _, _] ?_); refine (G2.out _ (hO.rd HR1.out) (HT.out.own hO)).mono ?_; rintro e ww ⟨rfl, hb⟩; replace hO := hO.call hb; clear hb)
    | (go_at_call 9; (with_reducible refine gCall #[.agg s.C, _, .int .i64 ((a : Int) % 50 + (b : Int) % 50)] ?_); refine (G3.out _ (hO.rd HR1.out) (HT.out.own hO)).mono ?_; rintro e ww ⟨rfl, hb⟩; replace hO := hO.call hb; clear hb)
    | (go_at_call 9; (with_reducible refine gCall #[.agg t.C, _, _] ?_); refine (G6.out _ (hO.rd HR1.out) (HT.out.own hO)).mono ?_; rintro e ww ⟨rfl, hb⟩; replace hO := hO.call hb; clear hb)
    | (go_at_call 10; refine (G4.out _ (hO.rd HR1.out) (hO.rd HR2.out) (HT.out.own hO)).mono ?_; rintro e ww ⟨rfl, hb⟩; replace hO := hO.call hb; clear hb)
    | (go_at_call 11; refine (G5.out _ (hO.rd HR1.out) (hO.rd HR2.out) (HT.out.own hO)).mono ?_; rintro e ww ⟨rfl, hb⟩; replace hO := hO.call hb; clear hb)
    | ((with_reducible refine gNeq (t := 24) ?_); refine neD goes_eg rfl rfl ?_; (with_reducible refine ⟨_, neWT _, ?_⟩))
    | ((with_reducible refine gEql (t := 24) ?_); refine eqD goes_eg rfl rfl ?_; (with_reducible refine ⟨_, eqWT _, ?_⟩)))
  go_ret
  exact ⟨rfl, hO.below⟩

theorem goes_walk (s : St) (a1 : Option Addr) (n1 c1 : Nat) (word : List (BitVec 8)) (a2 : Option Addr) (n2 c2 : Nat) (salt : List (BitVec 8)) (a b : Nat) (w : World) (hR1 : Rd w 1 a1 n1 c1 (u8s word)) (hR2 : Rd w 1 a2 n2 c2 (u8s salt)) (ha : a < 256) (hb : b < 256) (hT : Turns w) :
    Calls Tryd.prog 4 #[.agg s.C, .slice a1 n1 c1, .slice a2 n2 c2, .int .u8 (a : Int), .int .u8 (b : Int)] w fun e w' => e = .returned (.bool true) ∧ Below w.heap.size w w' := by
  by_cases h1 : n1 ≤ 64
  · by_cases h2 : n2 ≤ 64
    · exact goes_in s a1 n1 c1 word a2 n2 c2 salt a b w hR1 hR2 h1 h2 ha hb hT
    · exact goes_salt s a1 n1 c1 word a2 n2 c2 a b w hR1 h1 (rd_le hR2) (by omega) ha hb hT
  · exact goes_long s a1 n1 c1 a2 n2 c2 a b w (rd_le hR1) (by omega) ha hT
end Go.Proofs.YtbgefpmnncaifaaDoor
