/- The law SolidRing. -/
import Derived.Test.YtniibdglodnhoaaDoorU6
import Derived.Laws.StructEq
namespace Go.Proofs.YtniibdglodnhoaaDoor
open Go.RowKit Go.Own Go.Bv Go.Ord Go.Eq Go.Opn Go.Pb Go.Sl

theorem v_egR15 : Tryd.prog.eqGuardType Tryd.prog.depth 27 = false := by kernel_rfl
set_option maxHeartbeats 1000000 in
theorem neRT (s : St) (n : BitVec 64) (w : World) : (binOp .neq 27 (.agg (ringC s n)) (.agg (ringC s n))).run Tryd.prog w = .ok (.bool false) w := by
  have u1 := Tryd.underlying24
  have u2 := Tryd.underlying22
  have u3 := Tryd.underlying25
  have hS : Tryd.prog.underlying 27 = some (.struct (Tryd.prog.fieldsOf 27)) := by kernel_rfl
  have hp : Tryd.prog.stoodInHeld 27 = false := by kernel_rfl
  rw [run_neq_struct, show (10000 : Nat) = 9999 + 1 from rfl, run_equalIn_agg w 9999 27 _ _ hS hp]
  simp only [Program.fieldsOf, Tryd.underlying27, ringC]
  go_simp
  have h := run_eq_ints (P := Tryd.prog) w 9997 u1 u2 iu32s (s.l.map fun x => (x.toNat : Int)) (s.l.map fun x => (x.toNat : Int)) rfl rfl
  rw [decide_eq_true rfl] at h
  have hc : ((s.l.map fun x => (x.toNat : Int)).map (Value.int .u32)).toArray = s.C := rfl
  rw [hc] at h
  unfold St.C at h
  rw [show (9999 : Nat) = 9997 + 2 from rfl, h]
  rfl

set_option maxHeartbeats 8000000 in
set_option maxRecDepth 100000 in
theorem sring_walk (key : St) (n : BitVec 64) (a1 : Option Addr) (l1 c1 : Nat) (b1 : List (BitVec 8)) (a2 : Option Addr) (l2 c2 : Nat) (b2 : List (BitVec 8)) (w : World) (hR1 : Rd w 1 a1 l1 c1 (u8s b1)) (hR2 : Rd w 1 a2 l2 c2 (u8s b2)) (hT : Turns w) :
    Calls Tryd.prog 3 #[.agg (ringC key n), .slice a1 l1 c1, .slice a2 l2 c2] w fun e w' => e = .returned (.bool true) ∧ Below w.heap.size w w' := by
  have hO := Own.start w
  have HR1 := Lib.hid hR1
  have HR2 := Lib.hid hR2
  have HT := Lib.hid hT
  have n0 := nn n
  by_cases h1 : 100 < l1
  · have d1 : decide ((100 : Int) < (l1 : Int)) = true := decide_eq_true (by omega)
    clear hR1 hR2 hT h1 n0
    generalize hW : w = wn at hO HT HR1 HR2 ⊢
    clear hW w
    go_enter Tryd.func3, Tryd.ntmps3
    go_wp2_with (first
      | ((with_reducible refine gBox ?_); first | (refine bxA hO rfl ?_; clear hO; intro br ww hO) | (refine bx1 hO rfl rfl ?_; clear hO; intro br ww hO))
      | (go_at_call 6; refine (slive_calls _ (HT.out.own hO)).mono ?_; rintro e ww ⟨rfl, hb⟩; replace hO := hO.call hb; clear hb))
    go_ret
    exact ⟨rfl, hO.below⟩
  have d1 : decide ((100 : Int) < (l1 : Int)) = false := decide_eq_false (by omega)
  by_cases h2 : 100 < l2
  · have d2 : decide ((100 : Int) < (l2 : Int)) = true := decide_eq_true (by omega)
    clear hR1 hR2 hT h1 h2 n0
    generalize hW : w = wn at hO HT HR1 HR2 ⊢
    clear hW w
    go_enter Tryd.func3, Tryd.ntmps3
    go_wp2_with (first
      | ((with_reducible refine gBox ?_); first | (refine bxA hO rfl ?_; clear hO; intro br ww hO) | (refine bx1 hO rfl rfl ?_; clear hO; intro br ww hO))
      | (go_at_call 6; refine (slive_calls _ (HT.out.own hO)).mono ?_; rintro e ww ⟨rfl, hb⟩; replace hO := hO.call hb; clear hb))
    go_ret
    exact ⟨rfl, hO.below⟩
  have d2 : decide ((100 : Int) < (l2 : Int)) = false := decide_eq_false (by omega)
  by_cases h3 : 4611686018427387904 < n.toNat
  · have d3 : decide ((4611686018427387904 : Int) < (n.toNat : Int)) = true := decide_eq_true (by omega)
    clear hR1 hR2 hT h1 h2 n0 h3
    generalize hW : w = wn at hO HT HR1 HR2 ⊢
    clear hW w
    go_enter Tryd.func3, Tryd.ntmps3
    go_wp2_with (first
      | ((with_reducible refine gG (d := some 33) ?_); refine wpList_want rfl ?_)
      | ((with_reducible refine gBox ?_); first | (refine bxA hO rfl ?_; clear hO; intro br ww hO) | (refine bx1 hO rfl rfl ?_; clear hO; intro br ww hO))
      | ((with_reducible refine gLoad (d := some 33) ?_); refine ldC hO 0 rfl rfl (tA rfl) rfl ?_)
      | (go_at_call 6; refine (slive_calls _ (HT.out.own hO)).mono ?_; rintro e ww ⟨rfl, hb⟩; replace hO := hO.call hb; clear hb))
    go_ret
    exact ⟨rfl, hO.below⟩
  have d3 : decide ((4611686018427387904 : Int) < (n.toNat : Int)) = false := decide_eq_false (by omega)
  have hl1 : b1.length = l1 := by have := hR1.len; rw [u8s_length] at this; omega
  have hl2 : b2.length = l2 := by have := hR2.len; rw [u8s_length] at this; omega
  have hn1 : n ≠ 18446744073709551615#64 := fun h => by rw [h] at h3; exact h3 (by decide)
  have hnn1 := up1_ne n hn1
  obtain ⟨m, hm⟩ : ∃ m, n + 1#64 = m := ⟨_, rfl⟩
  have hn2 : m ≠ 18446744073709551615#64 := fun h => by rw [hm, h] at hnn1; simp at hnn1; omega
  have hnn2 := up1_ne m hn2
  obtain ⟨q, hq⟩ : ∃ q, m + 1#64 = q := ⟨_, rfl⟩
  rw [hm] at hnn1
  rw [hq] at hnn2
  have hne : n ≠ m := fun h => by rw [h] at hnn1; omega
  obtain ⟨T1, hT1⟩ : ∃ T, sealT key n b1 = T := ⟨_, rfl⟩
  obtain ⟨M1, hM1⟩ : ∃ M, T1.length = M := ⟨_, rfl⟩
  obtain ⟨T2, hT2⟩ : ∃ T, sealT key m b2 = T := ⟨_, rfl⟩
  obtain ⟨M2, hM2⟩ : ∃ M, T2.length = M := ⟨_, rfl⟩
  have hTT : T1 ≠ T2 := by rw [← hT1, ← hT2]; exact sealT_ne hne
  obtain ⟨s1, s2⟩ := so_seal key n b1 (by omega)
  obtain ⟨t1, t2⟩ := so_seal key m b2 (by omega)
  rw [hT1] at s1 s2
  rw [hT2] at t1 t2
  have G1 := Lib.hid (fun w h hT => sseal_ok key n a1 l1 c1 b1 w h (by omega) hn1 hT T1 hT1 M1 hM1)
  have G2 := Lib.hid (fun w h hT => sseal_ok key m a2 l2 c2 b2 w h (by omega) hn2 hT T2 hT2 M2 hM2)
  obtain ⟨pl, hpl⟩ : ∃ pl, pcs (pieces [b1]) = pl := ⟨_, rfl⟩
  have q1 : pl[1]? = some (.int .i64 (l1 : Int)) := by rw [← hpl, ← hl1]; rfl
  have e1 : txs [⟨a1, l1, c1, b1⟩] = [b1] := rfl
  have g3 := fun (z : Nat) w h hT => build_okN key n (some ⟨z, 0, none⟩) 1 1 [⟨a1, l1, c1, b1⟩] w h (by omega) hn1 hT b1 (by simp [txs]) (by omega) T1 hT1 M1 hM1
  simp only [e1, hpl] at g3
  have G3 := Lib.hid g3
  have G4 := Lib.hid (fun w a c h hT => sopen_calls key a M1 c T1 w h hT 0 b1 l1 s1 s2 hl1)
  have G5 := Lib.hid (fun w a c h hT => sopen_calls key a M2 c T2 w h hT 0 b2 l2 t1 t2 hl2)
  have G6 : Hid (∀ (x y : Option Addr) (c d : Nat) (w : World), Rd w 1 x M1 c (u8s T1) → Rd w 1 y M2 d (u8s T2) → Calls Tryd.prog 9 #[.slice x M1 c, .slice y M2 d] w fun e w' => e = .returned (.bool false) ∧ w = w') := fun x y c d w h1 h2 => by
    have h := same8_calls x y M1 c M2 d T1 T2 w h1 h2
    rw [decide_eq_false hTT] at h
    exact h
  have Q1 := Lib.hid q1
  rw [hm] at G1 G3
  rw [hq] at G2
  have HNE : Hid (∀ w, (binOp .neq 27 (.agg (ringC key m)) (.agg (ringC key m))).run Tryd.prog w = .ok (.bool false) w) := fun w => neRT key m w
  have e2 : IntKind.u64.wrap ((n.toNat : Int) + 2) = (q.toNat : Int) := by rw [wrap_u64', hnn2, hnn1]; omega
  clear hR1 hR2 hT h1 h2 h3 hl1 hl2 hn1 hn2 hnn1 hnn2 hm hq hne hT1 hM1 hT2 hM2 hTT s1 s2 t1 t2 hpl q1 e1 g3 n0
  generalize hW : w = wn at hO HT HR1 HR2 ⊢
  clear hW w
  go_enter Tryd.func3, Tryd.ntmps3
  go_wp2_with (first
    | ((with_reducible refine gG ?_); refine wpList_want rfl ?_)
    | ((with_reducible refine gBox ?_); first | (refine bxA hO rfl ?_; clear hO; intro br ww hO) | (refine bx1 hO rfl rfl ?_; clear hO; intro br ww hO))
    | ((with_reducible refine gAlloc (T := 27) ?_); refine own_alloc hO _ _ irz ?_; clear hO; intro bn ww hO)
    | ((with_reducible refine gStore (T := 27) ?_); refine stX hO 0 rfl rfl rfl rfl rfl (tS rfl) ?_; clear hO; intro ww hO)
    | ((with_reducible refine gLoad (d := some 33) ?_); refine ldC hO 0 rfl rfl (tA rfl) rfl ?_)
    | ((with_reducible refine gLoad (d := some 38) ?_); refine ldX hO 0 rfl rfl (tA rfl) (tS rfl) ?_)
    | ((with_reducible refine gLoad (d := some 45) ?_); refine ldX hO 0 rfl rfl (tA rfl) (tS rfl) ?_)
    | ((with_reducible refine gLoad (d := some 52) ?_); refine ldX hO 4 rfl rfl (tA rfl) (tS rfl) ?_)
    | ((with_reducible refine gLoad (d := some 71) ?_); refine ldX hO 6 rfl rfl (tA rfl) (tS rfl) ?_)
    | ((with_reducible refine gLoad (d := some 72) ?_); refine ldX hO 0 rfl rfl (tA rfl) (tS rfl) ?_)
    | ((with_reducible refine gLoad (d := some 77) ?_); refine ldC hO 4 rfl rfl (tA rfl) rfl ?_)
    | ((with_reducible refine gLoad (d := some 79) ?_); refine ldC hO 8 rfl rfl (tA rfl) rfl ?_)
    | ((with_reducible refine gLoad (d := some 98) ?_); refine ld_sl hO 1 rfl rfl Q1.out (tA rfl) ?_)
    | ((with_reducible refine gLoad (d := some 110) ?_); refine ldA hO 8 key.C rfl rfl (tA rfl) (tS rfl) rfl ?_)
    | ((with_reducible refine gLoad (d := some 117) ?_); refine ldA hO 9 key.C rfl rfl (tA rfl) (tS rfl) rfl ?_)
    | ((with_reducible refine gNeq (t := 27) ?_); refine neD v_egR15 rfl rfl ?_; (with_reducible refine ⟨_, HNE.out, ?_⟩))
    | ((with_reducible refine gBuild (d := some 54) ?_); refine own_build hO 36 1 _ ebb #[.slice a1 l1 c1] (by omega) (by omega) (by simp [go_sem, Instr.fill]) rfl ?_; clear hO; intro x3 ww hO)
    | (go_at_call 6; refine (slive_calls _ (HT.out.own hO)).mono ?_; rintro e ww ⟨rfl, hb⟩; replace hO := hO.call hb; clear hb)
    | (go_at_call 7; (with_reducible refine gCall #[.agg (ringC key n), _] ?_); refine (G1.out _ (hO.rd HR1.out) (HT.out.own hO)).mono ?_; rintro e ww ⟨ax, cx, rfl, hb, hr⟩; replace hO := hO.addRow hb hr; clear hb hr)
    | (go_at_call 7; (with_reducible refine gCall #[.agg (ringC key m), _] ?_); refine (G2.out _ (hO.rd HR2.out) (HT.out.own hO)).mono ?_; rintro e ww ⟨ay, cy, rfl, hb, hr⟩; replace hO := hO.addRow hb hr; clear hb hr)
    | (go_at_call 8; refine (G3.out x3 _ ⟨hO.rdAt 0 rfl, fun t ht => (by
        simp only [List.mem_cons, List.not_mem_nil, or_false] at ht
        rw [ht]
        exact hO.rd HR1.out)⟩ (HT.out.own hO)).mono ?_; rintro e ww ⟨az, cz, gz, rfl, hK⟩; replace hO := hO.join hK; clear hK)
    | (go_at_call 10; (with_reducible refine gCall #[_, .slice ax _ _] ?_); refine (G4.out _ _ _ (hO.rdAt 7 rfl) (HT.out.own hO)).mono ?_; rintro e ww ⟨at_, ct, rfl, hb, hr⟩; replace hO := hO.addRow hb hr; clear hb hr)
    | (go_at_call 10; (with_reducible refine gCall #[_, .slice ay _ _] ?_); refine (G5.out _ _ _ (hO.rdAt 6 rfl) (HT.out.own hO)).mono ?_; rintro e ww ⟨au, cu, rfl, hb, hr⟩; replace hO := hO.addRow hb hr; clear hb hr)
    | (go_at_call 9; (with_reducible refine gCall #[.slice ax _ _, .slice az _ _] ?_); refine (sames_refl _ _ _ _ _ T1 _ (hO.rdAt 7 rfl) (hO.rdAt 2 rfl)).mono ?_; rintro e ww ⟨rfl, rfl⟩)
    | (go_at_call 9; (with_reducible refine gCall #[.slice ax _ _, .slice ay _ _] ?_); refine (G6.out _ _ _ _ _ (hO.rdAt 7 rfl) (hO.rdAt 5 rfl)).mono ?_; rintro e ww ⟨rfl, rfl⟩)
    | (go_at_call 9; (with_reducible refine gCall #[.slice at_ _ _, _] ?_); refine (sames_refl _ _ _ _ _ b1 _ (hO.rdAt 1 rfl) (hO.rd HR1.out)).mono ?_; rintro e ww ⟨rfl, rfl⟩)
    | (go_at_call 9; (with_reducible refine gCall #[.slice au _ _, _] ?_); refine (sames_refl _ _ _ _ _ b2 _ (hO.rdAt 0 rfl) (hO.rd HR2.out)).mono ?_; rintro e ww ⟨rfl, rfl⟩))
  go_ret
  exact ⟨rfl, hO.below⟩
end Go.Proofs.YtniibdglodnhoaaDoor
