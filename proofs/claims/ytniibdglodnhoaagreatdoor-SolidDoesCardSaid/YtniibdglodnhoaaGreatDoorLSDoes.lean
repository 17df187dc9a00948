/- The law SolidDoes. -/
import Derived.Test.YtniibdglodnhoaaGreatDoorU10
namespace Go.Proofs.YtniibdglodnhoaaGreatDoor
open Go.RowKit Go.Own Go.Bv Go.Ord Go.Eq Go.Opn Go.Pb Go.Sl

theorem v_egR16 : Tryz.prog.eqGuardType Tryz.prog.depth 27 = false := by kernel_rfl
set_option maxHeartbeats 1000000 in
theorem eqRT16 (s : St) (n : BitVec 64) (w : World) : (binOp .eql 27 (.agg (ringC s n)) (.agg (ringC s n))).run Tryz.prog w = .ok (.bool true) w := by
  have u1 := Tryz.underlying24
  have u2 := Tryz.underlying22
  have u3 := Tryz.underlying25
  have hS : Tryz.prog.underlying 27 = some (.struct (Tryz.prog.fieldsOf 27)) := by kernel_rfl
  have hp : Tryz.prog.stoodInHeld 27 = false := by kernel_rfl
  rw [run_eql_struct, show (10000 : Nat) = 9999 + 1 from rfl, run_equalIn_agg w 9999 27 _ _ hS hp]
  simp only [Program.fieldsOf, Tryz.underlying27, ringC]
  go_simp
  have h := run_eq_ints (P := Tryz.prog) w 9997 u1 u2 iu32s (s.l.map fun x => (x.toNat : Int)) (s.l.map fun x => (x.toNat : Int)) rfl rfl
  rw [decide_eq_true rfl] at h
  have hc : ((s.l.map fun x => (x.toNat : Int)).map (Value.int .u32)).toArray = s.C := rfl
  rw [hc] at h
  unfold St.C at h
  rw [show (9999 : Nat) = 9997 + 2 from rfl, h]
  rfl

/-- texts built, by both, whatever the ring's number -/
theorem build_both (key : St) (n : BitVec 64) (a : Option Addr) (len cap : Nat) (ss : List Tb) (w0 : World) (hR0 : Txs w0 a len cap ss) (hlen : len ≤ 8) (h60 : ∀ x ∈ ss, x.n ≤ 60) :
    ∃ (k' : St) (n' : BitVec 64) (E : Int) (T : List (BitVec 8)) (M : Nat) (pl : List Pc) (m : Nat), m ≤ 8 ∧
      (∀ w, Txs w a len cap ss → Turns w → Calls Tryz.prog 7 #[.agg (ringC key n), .slice a len cap] w fun e w' => ∃ a1 c1 a2 c2, e = .returned (.tuple #[.slice a1 M c1, .slice a2 m c2, .agg (ringC k' n'), .int .i64 E]) ∧ Own w w' [.sl 5 1 (.slice a1 M c1) M (u8s T), .sl 44 3 (.slice a2 m c2) m (pcs pl)]) ∧
      (∀ w, Txs w a len cap ss → Calls Tryz.prog 8 #[.agg (ringC key n), .slice a len cap] w fun e w' => ∃ a1 c1 a2 c2, e = .returned (.tuple #[.slice a1 M c1, .slice a2 m c2, .agg (ringC k' n'), .int .i64 E]) ∧ Own w w' [.sl 5 1 (.slice a1 M c1) M (u8s T), .sl 44 3 (.slice a2 m c2) m (pcs pl)]) := by
  have hl := few_length hR0 hlen h60
  by_cases hn : n = 18446744073709551615#64
  · have nilO : ∀ w w', Below w.heap.size w w' → Own w w' [.sl 5 1 (.slice none 0 0) 0 (u8s []), .sl 44 3 (.slice none 0 0) 0 (pcs [])] := fun w w' hb => (((Own.start w).call hb).add (Below.refl _ _) (r := .sl 44 3 (.slice none 0 0) 0 (pcs [])) (World.ownsRow_nil _ _ _ _)).add (Below.refl _ _) (World.ownsRow_nil _ _ _ _)
    refine ⟨St.zero, 0#64, 6, [], 0, [], 0, by omega, fun w hR hT => (build_full key n a len cap ss w hR hlen h60 hn hT).mono fun e w' h => ?_, fun w hR => (rbuild_full key n a len cap ss w hR hlen hn _ rfl (by omega)).mono fun e w' h => ?_⟩
    · exact ⟨none, 0, none, 0, h.1, nilO w w' h.2⟩
    · exact ⟨none, 0, none, 0, h.1, nilO w w' h.2⟩
  · refine ⟨key, n + 1#64, 0, _, _, pieces (txs ss), len, hlen, fun w hR hT => (build_ok key n a len cap ss w hR hlen h60 hn hT _ rfl _ rfl _ rfl).mono fun e w' h => ?_, fun w hR => (rbuild_okN key n a len cap ss w hR hlen hn _ rfl (by omega) _ rfl _ rfl)⟩
    obtain ⟨a1, c1, g2, h1, h2⟩ := h
    exact ⟨a1, c1, _, _, h1, h2.swapM⟩
/-- a text sealed, by both, whatever the ring's number -/
theorem seal_both (key : St) (n : BitVec 64) (a : Option Addr) (len cap : Nat) (b : List (BitVec 8)) (hlen : len ≤ 200) :
    ∃ (k' : St) (n' : BitVec 64) (E : Int) (T : List (BitVec 8)) (M : Nat),
      (∀ w, Rd w 1 a len cap (u8s b) → Turns w → Calls Tryz.prog 13 #[.agg (ringC key n), .slice a len cap] w fun e w' => ∃ a' c', e = .returned (.tuple #[.slice a' M c', .agg (ringC k' n'), .int .i64 E]) ∧ Below w.heap.size w w' ∧ w'.ownsRow w.heap.size 5 1 (.slice a' M c') M (u8s T)) ∧
      (∀ w, Rd w 1 a len cap (u8s b) → Calls Tryz.prog 14 #[.agg (ringC key n), .slice a len cap] w fun e w' => ∃ a' c', e = .returned (.tuple #[.slice a' M c', .agg (ringC k' n'), .int .i64 E]) ∧ Below w.heap.size w w' ∧ w'.ownsRow w.heap.size 5 1 (.slice a' M c') M (u8s T)) := by
  by_cases hn : n = 18446744073709551615#64
  · refine ⟨St.zero, 0#64, 6, [], 0, fun w hR hT => (sseal_full key n a len cap b w hR (by omega) hn hT).mono fun e w' h => ?_, fun w hR => (rsseal_full key n a len cap b w hR (by omega) hn).mono fun e w' h => ?_⟩
    · exact ⟨none, 0, h.1, h.2, World.ownsRow_nil _ _ _ _⟩
    · exact ⟨none, 0, h.1, h.2, World.ownsRow_nil _ _ _ _⟩
  · exact ⟨key, n + 1#64, 0, _, _, fun w hR hT => sseal_ok key n a len cap b w hR (by omega) hn hT _ rfl _ rfl, fun w hR => rsseal_ok key n a len cap b w hR (by omega) hn _ rfl _ rfl⟩

set_option maxHeartbeats 8000000 in
set_option maxRecDepth 100000 in
theorem sdoes_walk (key : St) (n : BitVec 64) (a : Option Addr) (len cap : Nat) (ss : List Tb) (ab : Option Addr) (lb cb : Nat) (b : List (BitVec 8)) (w : World) (hR1 : Txs w a len cap ss) (hR2 : Rd w 1 ab lb cb (u8s b)) (hT : Turns w) :
    Calls Tryz.prog 3 #[.agg (ringC key n), .slice a len cap, .slice ab lb cb] w fun e w' => e = .returned (.bool true) ∧ Below w.heap.size w w' := by
  have hO := Own.start w
  have HR1 := Lib.hid hR1
  have HR2 := Lib.hid hR2
  have HT := Lib.hid hT
  obtain ⟨B, hB⟩ : ∃ B, decide ((∀ x ∈ ss, x.n ≤ 60) ∧ len ≤ 8) = B := ⟨_, rfl⟩
  have G0 := Lib.hid (fun w h => few_calls a len cap ss w h B hB)
  cases B
  · clear hB
    clear hR1 hR2 hT 
    generalize hW : w = wn at hO HT HR1 HR2 ⊢
    clear hW w
    go_enter Tryz.func3, Tryz.ntmps3
    go_wp2_with (first
      | ((with_reducible refine gBox ?_); first | (refine bxA hO rfl ?_; clear hO; intro br ww hO) | (refine bx1 hO rfl rfl ?_; clear hO; intro br ww hO))
      | (go_at_call 5; refine (slive_calls _ (HT.out.own hO)).mono ?_; rintro e ww ⟨rfl, hb⟩; replace hO := hO.call hb; clear hb)
      | (go_at_call 6; refine (G0.out _ (HR1.out.own hO)).mono ?_; rintro e ww ⟨rfl, hb⟩; replace hO := hO.call hb; clear hb))
    go_ret
    exact ⟨rfl, hO.below⟩
  obtain ⟨h60, hlen⟩ := of_decide_eq_true hB
  obtain ⟨k1, n1, E1, T1, M1, pl, M2, hm, g1, g2⟩ := build_both key n a len cap ss w hR1 hlen h60
  have G1 := Lib.hid g1
  have G2 := Lib.hid g2
  obtain ⟨E3, hE3⟩ : ∃ x, soE key b = x := ⟨_, rfl⟩
  obtain ⟨T3, hT3⟩ : ∃ x, soT key b = x := ⟨_, rfl⟩
  obtain ⟨M3, hM3⟩ : ∃ x, T3.length = x := ⟨_, rfl⟩
  have G3 := Lib.hid (fun w h hT => sopen_calls key ab lb cb b w h hT E3 T3 M3 hE3 hT3 hM3)
  have G4 := Lib.hid (fun w h => rsopen_calls key ab lb cb b w h E3 T3 M3 hE3 hT3 hM3)
  clear hB h60 g1 g2 hE3 hT3 hM3 hlen
  by_cases h1 : lb ≤ 200
  · obtain ⟨k2, n2, E4, T4, M4, g5, g6⟩ := seal_both key n ab lb cb b h1
    have G5 := Lib.hid g5
    have G6 := Lib.hid g6
    have d1 : decide ((200 : Int) < (lb : Int)) = false := decide_eq_false (by omega)
    have d3 : Hid (decide ((131080 : Int) < (lb : Int)) = false) := decide_eq_false (by omega)
    clear hR1 hR2 hT g5 g6 h1
    generalize hW : w = wn at hO HT HR1 HR2 ⊢
    clear hW w
    have d4 := d3.out
    go_enter Tryz.func3, Tryz.ntmps3
    go_wp2_with (first
      | ((with_reducible refine gG (d := some 32) ?_); refine wpList_want rfl ?_) | ((with_reducible refine gG (d := some 33) ?_); refine wpList_want rfl ?_) | ((with_reducible refine gG (d := some 34) ?_); refine wpList_want rfl ?_) | ((with_reducible refine gG (d := some 35) ?_); refine wpList_want rfl ?_) | ((with_reducible refine gG (d := some 39) ?_); refine wpList_want rfl ?_) | ((with_reducible refine gG (d := some 42) ?_); refine wpList_want rfl ?_) | ((with_reducible refine gG (d := some 43) ?_); refine wpList_want rfl ?_) | ((with_reducible refine gG (d := some 44) ?_); refine wpList_want rfl ?_) | ((with_reducible refine gG (d := some 83) ?_); refine wpList_want rfl ?_) | ((with_reducible refine gG (d := some 84) ?_); refine wpList_want rfl ?_) | ((with_reducible refine gG (d := some 85) ?_); refine wpList_want rfl ?_) | ((with_reducible refine gG (d := some 88) ?_); refine wpList_want rfl ?_) | ((with_reducible refine gG (d := some 89) ?_); refine wpList_want rfl ?_) | ((with_reducible refine gG (d := some 90) ?_); refine wpList_want rfl ?_) | ((with_reducible refine gG (d := some 93) ?_); refine wpList_want rfl ?_) | ((with_reducible refine gG (d := some 94) ?_); refine wpList_want rfl ?_) | ((with_reducible refine gG (d := some 95) ?_); refine wpList_want rfl ?_) | ((with_reducible refine gG (d := some 98) ?_); refine wpList_want rfl ?_) | ((with_reducible refine gG (d := some 99) ?_); refine wpList_want rfl ?_) | ((with_reducible refine gG (d := some 100) ?_); refine wpList_want rfl ?_) | ((with_reducible refine gG (d := some 103) ?_); refine wpList_want rfl ?_) | ((with_reducible refine gG (d := some 104) ?_); refine wpList_want rfl ?_) | ((with_reducible refine gG (d := some 105) ?_); refine wpList_want rfl ?_) | ((with_reducible refine gG (d := some 108) ?_); refine wpList_want rfl ?_) | ((with_reducible refine gG (d := some 109) ?_); refine wpList_want rfl ?_) | ((with_reducible refine gG (d := some 110) ?_); refine wpList_want rfl ?_) | ((with_reducible refine gG (d := some 111) ?_); refine wpList_want rfl ?_) | ((with_reducible refine gG (d := some 134) ?_); refine wpList_want rfl ?_) | ((with_reducible refine gG (d := some 135) ?_); refine wpList_want rfl ?_) | ((with_reducible refine gG (d := some 136) ?_); refine wpList_want rfl ?_) | ((with_reducible refine gG (d := some 139) ?_); refine wpList_want rfl ?_) | ((with_reducible refine gG (d := some 140) ?_); refine wpList_want rfl ?_) | ((with_reducible refine gG (d := some 141) ?_); refine wpList_want rfl ?_) | ((with_reducible refine gG (d := some 144) ?_); refine wpList_want rfl ?_) | ((with_reducible refine gG (d := some 145) ?_); refine wpList_want rfl ?_) | ((with_reducible refine gG (d := some 146) ?_); refine wpList_want rfl ?_)
      | (go_at_call 5; refine (slive_calls _ (HT.out.own hO)).mono ?_; rintro e ww ⟨rfl, hb⟩; replace hO := hO.call hb; clear hb)
      | (go_at_call 6; refine (G0.out _ (HR1.out.own hO)).mono ?_; rintro e ww ⟨rfl, hb⟩; replace hO := hO.call hb; clear hb)
      | ((with_reducible refine Go.Bva.gCnv (s := 29) (t := 9) ?_); refine Go.Bva.step_val (run_value rfl (run_bytes_string _ Tryz.underlying29 Tryz.underlying5 Tryz.underlying9 (hO.rd HR2.out))) ?_)
      | ((with_reducible refine gBox ?_); first | (refine bxA hO rfl ?_; clear hO; intro br ww hO) | (refine bx1 hO rfl rfl ?_; clear hO; intro br ww hO))
      | ((with_reducible refine gLoad (d := some 50) ?_); refine ldX hO 0 rfl rfl (tA rfl) (tS rfl) ?_)
      | ((with_reducible refine gAlloc (d := some 11) (T := 27) ?_); refine own_alloc hO _ _ irz ?_; clear hO; intro b11 ww hO)
      | ((with_reducible refine gLoad (d := some 58) ?_); refine ldX hO 3 rfl rfl (tA rfl) (tS rfl) ?_)
      | ((with_reducible refine gAlloc (d := some 15) (T := 27) ?_); refine own_alloc hO _ _ irz ?_; clear hO; intro b15 ww hO)
      | ((with_reducible refine gLoad (d := some 67) ?_); refine ldA hO 6 key.C rfl rfl (tA rfl) (tS rfl) rfl ?_)
      | ((with_reducible refine gLoad (d := some 74) ?_); refine ldA hO 7 key.C rfl rfl (tA rfl) (tS rfl) rfl ?_)
      | ((with_reducible refine gLoad (d := some 88) ?_); refine ldX hO 5 rfl rfl (tA rfl) (tS rfl) ?_)
      | ((with_reducible refine gLoad (d := some 89) ?_); refine ldX hO 2 rfl rfl (tA rfl) (tS rfl) ?_)
      | ((with_reducible refine gStore (T := 27) ?_); refine stX hO 0 rfl rfl rfl rfl rfl (tS rfl) ?_; clear hO; intro ww hO)
      | (go_at_call 7; refine (G1.out _ (HR1.out.own hO) (HT.out.own hO)).mono ?_; rintro e ww ⟨a1, c1, a2, c2, rfl, hK⟩; replace hO := hO.join hK; clear hK)
      | (go_at_call 8; refine (G2.out _ (HR1.out.own hO)).mono ?_; rintro e ww ⟨a3, c3, a4, c4, rfl, hK⟩; replace hO := hO.join hK; clear hK)
      | (go_at_call 9; refine (G3.out _ (hO.rd HR2.out) (HT.out.own hO)).mono ?_; rintro e ww ⟨a5, c5, rfl, hb, hr⟩; replace hO := hO.addRow hb hr; clear hb hr)
      | (go_at_call 10; refine (G4.out _ (hO.rd HR2.out)).mono ?_; rintro e ww ⟨a6, c6, rfl, hb, hr⟩; replace hO := hO.addRow hb hr; clear hb hr)
      | (go_at_call 11; (with_reducible refine gCall #[.slice a1 M1 c1, _] ?_); refine (sames_refl _ _ M1 _ _ T1 _ (hO.rdAt 6 rfl) (hO.rdAt 3 rfl)).mono ?_; rintro e ww ⟨rfl, rfl⟩)
      | (go_at_call 11; (with_reducible refine gCall #[.slice a5 M3 c5, _] ?_); refine (sames_refl _ _ M3 _ _ T3 _ (hO.rdAt 1 rfl) (hO.rdAt 0 rfl)).mono ?_; rintro e ww ⟨rfl, rfl⟩)
      | (go_at_call 12; refine (samep_refl _ _ M2 _ _ pl _ (hO.rdAt 7 rfl) (hO.rdAt 4 rfl) (by omega)).mono ?_; rintro e ww ⟨rfl, hb⟩; replace hO := hO.call hb; clear hb)
      | ((with_reducible refine gEql (t := 27) ?_); refine eqD v_egR16 rfl rfl ?_; (with_reducible refine ⟨_, eqRT16 _ _, ?_⟩))
      | ((with_reducible refine gLoad (d := some 119) ?_); refine ldX hO 8 rfl rfl (tA rfl) (tS rfl) ?_)
      | ((with_reducible refine gAlloc (d := some 22) (T := 27) ?_); refine own_alloc hO _ _ irz ?_; clear hO; intro b22 ww hO)
      | ((with_reducible refine gLoad (d := some 126) ?_); refine ldX hO 10 rfl rfl (tA rfl) (tS rfl) ?_)
      | ((with_reducible refine gAlloc (d := some 25) (T := 27) ?_); refine own_alloc hO _ _ irz ?_; clear hO; intro b25 ww hO)
      | ((with_reducible refine gLoad (d := some 139) ?_); refine ldX hO 2 rfl rfl (tA rfl) (tS rfl) ?_)
      | ((with_reducible refine gLoad (d := some 140) ?_); refine ldX hO 0 rfl rfl (tA rfl) (tS rfl) ?_)
      | (go_at_call 13; refine (G5.out _ (hO.rd HR2.out) (HT.out.own hO)).mono ?_; rintro e ww ⟨a7, c7, rfl, hb, hr⟩; replace hO := hO.addRow hb hr; clear hb hr)
      | (go_at_call 14; refine (G6.out _ (hO.rd HR2.out)).mono ?_; rintro e ww ⟨a8, c8, rfl, hb, hr⟩; replace hO := hO.addRow hb hr; clear hb hr)
      | (go_at_call 11; (with_reducible refine gCall #[.slice a7 M4 c7, _] ?_); refine (sames_refl _ _ M4 _ _ T4 _ (hO.rdAt 3 rfl) (hO.rdAt 1 rfl)).mono ?_; rintro e ww ⟨rfl, rfl⟩))
    go_ret
    exact ⟨rfl, hO.below⟩
  by_cases h2 : lb ≤ 131072
  · have d1 : decide ((200 : Int) < (lb : Int)) = true := decide_eq_true (by omega)
    have d2 : decide ((lb : Int) ≤ 131072) = true := decide_eq_true (by omega)
    clear hR1 hR2 hT h1 h2
    generalize hW : w = wn at hO HT HR1 HR2 ⊢
    clear hW w
    go_enter Tryz.func3, Tryz.ntmps3
    go_wp2_with (first
      | ((with_reducible refine gG (d := some 32) ?_); refine wpList_want rfl ?_) | ((with_reducible refine gG (d := some 33) ?_); refine wpList_want rfl ?_) | ((with_reducible refine gG (d := some 34) ?_); refine wpList_want rfl ?_) | ((with_reducible refine gG (d := some 35) ?_); refine wpList_want rfl ?_) | ((with_reducible refine gG (d := some 36) ?_); refine wpList_want rfl ?_) | ((with_reducible refine gG (d := some 37) ?_); refine wpList_want rfl ?_) | ((with_reducible refine gG (d := some 38) ?_); refine wpList_want rfl ?_) | ((with_reducible refine gG (d := some 39) ?_); refine wpList_want rfl ?_)
      | ((with_reducible refine gBox ?_); first | (refine bxA hO rfl ?_; clear hO; intro br ww hO) | (refine bx1 hO rfl rfl ?_; clear hO; intro br ww hO))
      | (go_at_call 5; refine (slive_calls _ (HT.out.own hO)).mono ?_; rintro e ww ⟨rfl, hb⟩; replace hO := hO.call hb; clear hb)
      | (go_at_call 6; refine (G0.out _ (HR1.out.own hO)).mono ?_; rintro e ww ⟨rfl, hb⟩; replace hO := hO.call hb; clear hb))
    go_ret
    exact ⟨rfl, hO.below⟩
  by_cases h3 : 131080 < lb
  · have d1 : decide ((200 : Int) < (lb : Int)) = true := decide_eq_true (by omega)
    have d2 : decide ((lb : Int) ≤ 131072) = false := decide_eq_false (by omega)
    have d3 : decide ((131080 : Int) < (lb : Int)) = true := decide_eq_true (by omega)
    clear hR1 hR2 hT h1 h2 h3
    generalize hW : w = wn at hO HT HR1 HR2 ⊢
    clear hW w
    go_enter Tryz.func3, Tryz.ntmps3
    go_wp2_with (first
      | ((with_reducible refine gG (d := some 32) ?_); refine wpList_want rfl ?_) | ((with_reducible refine gG (d := some 33) ?_); refine wpList_want rfl ?_) | ((with_reducible refine gG (d := some 34) ?_); refine wpList_want rfl ?_) | ((with_reducible refine gG (d := some 35) ?_); refine wpList_want rfl ?_) | ((with_reducible refine gG (d := some 36) ?_); refine wpList_want rfl ?_) | ((with_reducible refine gG (d := some 37) ?_); refine wpList_want rfl ?_) | ((with_reducible refine gG (d := some 38) ?_); refine wpList_want rfl ?_) | ((with_reducible refine gG (d := some 39) ?_); refine wpList_want rfl ?_) | ((with_reducible refine gG (d := some 42) ?_); refine wpList_want rfl ?_) | ((with_reducible refine gG (d := some 43) ?_); refine wpList_want rfl ?_) | ((with_reducible refine gG (d := some 44) ?_); refine wpList_want rfl ?_)
      | ((with_reducible refine gBox ?_); first | (refine bxA hO rfl ?_; clear hO; intro br ww hO) | (refine bx1 hO rfl rfl ?_; clear hO; intro br ww hO))
      | (go_at_call 5; refine (slive_calls _ (HT.out.own hO)).mono ?_; rintro e ww ⟨rfl, hb⟩; replace hO := hO.call hb; clear hb)
      | (go_at_call 6; refine (G0.out _ (HR1.out.own hO)).mono ?_; rintro e ww ⟨rfl, hb⟩; replace hO := hO.call hb; clear hb))
    go_ret
    exact ⟨rfl, hO.below⟩
  · have d1 : decide ((200 : Int) < (lb : Int)) = true := decide_eq_true (by omega)
    have d2 : decide ((lb : Int) ≤ 131072) = false := decide_eq_false (by omega)
    have d3 : decide ((131080 : Int) < (lb : Int)) = false := decide_eq_false (by omega)
    clear hR1 hR2 hT h1 h2 h3
    generalize hW : w = wn at hO HT HR1 HR2 ⊢
    clear hW w
    go_enter Tryz.func3, Tryz.ntmps3
    go_wp2_with (first
      | ((with_reducible refine gG (d := some 32) ?_); refine wpList_want rfl ?_) | ((with_reducible refine gG (d := some 33) ?_); refine wpList_want rfl ?_) | ((with_reducible refine gG (d := some 34) ?_); refine wpList_want rfl ?_) | ((with_reducible refine gG (d := some 35) ?_); refine wpList_want rfl ?_) | ((with_reducible refine gG (d := some 36) ?_); refine wpList_want rfl ?_) | ((with_reducible refine gG (d := some 37) ?_); refine wpList_want rfl ?_) | ((with_reducible refine gG (d := some 38) ?_); refine wpList_want rfl ?_) | ((with_reducible refine gG (d := some 39) ?_); refine wpList_want rfl ?_) | ((with_reducible refine gG (d := some 42) ?_); refine wpList_want rfl ?_) | ((with_reducible refine gG (d := some 43) ?_); refine wpList_want rfl ?_) | ((with_reducible refine gG (d := some 44) ?_); refine wpList_want rfl ?_) | ((with_reducible refine gG (d := some 83) ?_); refine wpList_want rfl ?_) | ((with_reducible refine gG (d := some 84) ?_); refine wpList_want rfl ?_) | ((with_reducible refine gG (d := some 85) ?_); refine wpList_want rfl ?_) | ((with_reducible refine gG (d := some 88) ?_); refine wpList_want rfl ?_) | ((with_reducible refine gG (d := some 89) ?_); refine wpList_want rfl ?_) | ((with_reducible refine gG (d := some 90) ?_); refine wpList_want rfl ?_) | ((with_reducible refine gG (d := some 93) ?_); refine wpList_want rfl ?_) | ((with_reducible refine gG (d := some 94) ?_); refine wpList_want rfl ?_) | ((with_reducible refine gG (d := some 95) ?_); refine wpList_want rfl ?_) | ((with_reducible refine gG (d := some 98) ?_); refine wpList_want rfl ?_) | ((with_reducible refine gG (d := some 99) ?_); refine wpList_want rfl ?_) | ((with_reducible refine gG (d := some 100) ?_); refine wpList_want rfl ?_) | ((with_reducible refine gG (d := some 103) ?_); refine wpList_want rfl ?_) | ((with_reducible refine gG (d := some 104) ?_); refine wpList_want rfl ?_) | ((with_reducible refine gG (d := some 105) ?_); refine wpList_want rfl ?_) | ((with_reducible refine gG (d := some 108) ?_); refine wpList_want rfl ?_) | ((with_reducible refine gG (d := some 109) ?_); refine wpList_want rfl ?_) | ((with_reducible refine gG (d := some 110) ?_); refine wpList_want rfl ?_) | ((with_reducible refine gG (d := some 111) ?_); refine wpList_want rfl ?_)
      | (go_at_call 5; refine (slive_calls _ (HT.out.own hO)).mono ?_; rintro e ww ⟨rfl, hb⟩; replace hO := hO.call hb; clear hb)
      | (go_at_call 6; refine (G0.out _ (HR1.out.own hO)).mono ?_; rintro e ww ⟨rfl, hb⟩; replace hO := hO.call hb; clear hb)
      | ((with_reducible refine Go.Bva.gCnv (s := 29) (t := 9) ?_); refine Go.Bva.step_val (run_value rfl (run_bytes_string _ Tryz.underlying29 Tryz.underlying5 Tryz.underlying9 (hO.rd HR2.out))) ?_)
      | ((with_reducible refine gBox ?_); first | (refine bxA hO rfl ?_; clear hO; intro br ww hO) | (refine bx1 hO rfl rfl ?_; clear hO; intro br ww hO))
      | ((with_reducible refine gLoad (d := some 50) ?_); refine ldX hO 0 rfl rfl (tA rfl) (tS rfl) ?_)
      | ((with_reducible refine gAlloc (d := some 11) (T := 27) ?_); refine own_alloc hO _ _ irz ?_; clear hO; intro b11 ww hO)
      | ((with_reducible refine gLoad (d := some 58) ?_); refine ldX hO 3 rfl rfl (tA rfl) (tS rfl) ?_)
      | ((with_reducible refine gAlloc (d := some 15) (T := 27) ?_); refine own_alloc hO _ _ irz ?_; clear hO; intro b15 ww hO)
      | ((with_reducible refine gLoad (d := some 67) ?_); refine ldA hO 6 key.C rfl rfl (tA rfl) (tS rfl) rfl ?_)
      | ((with_reducible refine gLoad (d := some 74) ?_); refine ldA hO 7 key.C rfl rfl (tA rfl) (tS rfl) rfl ?_)
      | ((with_reducible refine gLoad (d := some 88) ?_); refine ldX hO 5 rfl rfl (tA rfl) (tS rfl) ?_)
      | ((with_reducible refine gLoad (d := some 89) ?_); refine ldX hO 2 rfl rfl (tA rfl) (tS rfl) ?_)
      | ((with_reducible refine gStore (T := 27) ?_); refine stX hO 0 rfl rfl rfl rfl rfl (tS rfl) ?_; clear hO; intro ww hO)
      | (go_at_call 7; refine (G1.out _ (HR1.out.own hO) (HT.out.own hO)).mono ?_; rintro e ww ⟨a1, c1, a2, c2, rfl, hK⟩; replace hO := hO.join hK; clear hK)
      | (go_at_call 8; refine (G2.out _ (HR1.out.own hO)).mono ?_; rintro e ww ⟨a3, c3, a4, c4, rfl, hK⟩; replace hO := hO.join hK; clear hK)
      | (go_at_call 9; refine (G3.out _ (hO.rd HR2.out) (HT.out.own hO)).mono ?_; rintro e ww ⟨a5, c5, rfl, hb, hr⟩; replace hO := hO.addRow hb hr; clear hb hr)
      | (go_at_call 10; refine (G4.out _ (hO.rd HR2.out)).mono ?_; rintro e ww ⟨a6, c6, rfl, hb, hr⟩; replace hO := hO.addRow hb hr; clear hb hr)
      | (go_at_call 11; (with_reducible refine gCall #[.slice a1 M1 c1, _] ?_); refine (sames_refl _ _ M1 _ _ T1 _ (hO.rdAt 6 rfl) (hO.rdAt 3 rfl)).mono ?_; rintro e ww ⟨rfl, rfl⟩)
      | (go_at_call 11; (with_reducible refine gCall #[.slice a5 M3 c5, _] ?_); refine (sames_refl _ _ M3 _ _ T3 _ (hO.rdAt 1 rfl) (hO.rdAt 0 rfl)).mono ?_; rintro e ww ⟨rfl, rfl⟩)
      | (go_at_call 12; refine (samep_refl _ _ M2 _ _ pl _ (hO.rdAt 7 rfl) (hO.rdAt 4 rfl) (by omega)).mono ?_; rintro e ww ⟨rfl, hb⟩; replace hO := hO.call hb; clear hb)
      | ((with_reducible refine gEql (t := 27) ?_); refine eqD v_egR16 rfl rfl ?_; (with_reducible refine ⟨_, eqRT16 _ _, ?_⟩)))
    go_ret
    exact ⟨rfl, hO.below⟩
end Go.Proofs.YtniibdglodnhoaaGreatDoor
