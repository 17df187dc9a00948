/- Walks: envelope's Open, Seal of a full ring, the law's live. -/
import Derived.Test.YtekiloagckkneaaDoorVs
namespace Go.Proofs.YtekiloagckkneaaDoor
open Go.RowKit Go.Own Go.Bv Go.Ord Go.Eq

theorem v_egW : Tryd.prog.eqGuardType Tryd.prog.depth 24 = false := by kernel_rfl
theorem v_flW : flat Tryd.prog 24 = false := by kernel_rfl
theorem neW (s t : St) (w : World) : (binOp .neq 24 (.agg s.C) (.agg t.C)).run Tryd.prog w = .ok (.bool (!decide (s = t))) w := by
  have := run_neq_u32 (P := Tryd.prog) w Tryd.underlying24 Tryd.underlying22 iu32s s.l t.l rfl rfl
  rw [decide_eq_decide.2 St.l_inj] at this
  exact this

set_option maxHeartbeats 2000000 in
set_option maxRecDepth 100000 in
theorem seal_full (key : St) (n : BitVec 64) (a : Option Addr) (len cap : Nat) (b : List (BitVec 8)) (w : World) (hR : Rd w 1 a len cap (u8s b)) (hl : len ≤ 65536) (hn : n = 18446744073709551615#64) (hT : Turns w) :
    Calls Tryd.prog 10 #[.agg (ringC key n), .slice a len cap] w fun e w' => e = .returned (.tuple #[.agg (boxC 0#64 (.slice none 0 0) St.zero), .agg (ringC St.zero 0#64), .int .i64 6]) ∧ Below w.heap.size w w' := by
  have hO := Own.start w
  obtain ⟨t, ht⟩ : ∃ t, key.hide n b = t := ⟨_, rfl⟩
  have g1 := fun w hR hT => hide_ok key n a len cap b w hR hl hT
  rw [ht] at g1
  unfold BkRet at g1
  have d1 : ((n.toNat : Int) == 18446744073709551615) = true := by rw [hn]; rfl
  have G1 := Lib.hid g1
  have HR := Lib.hid hR
  have HT := Lib.hid hT
  clear hT hR g1 ht hn
  generalize hW : w = wn at hO HT HR ⊢
  clear hW w
  go_enter Tryd.func10, Tryd.ntmps10
  go_wp2_with (first
    | ((with_reducible refine gBox ?_); first | (refine bxA hO rfl ?_; clear hO; intro br ww hO) | (refine bx1 hO rfl rfl ?_; clear hO; intro br ww hO))
    | ((with_reducible refine gG ?_); refine wpList_want rfl ?_)
    | ((with_reducible refine gAlloc (T := 31) ?_); refine own_alloc hO _ _ ibz ?_; clear hO; intro bx ww hO)
    | ((with_reducible refine gAlloc (T := 27) ?_); refine own_alloc hO _ _ irz ?_; clear hO; intro bn ww hO)
    | ((with_reducible refine gLoad (T := 24) ?_); refine ldA hO 2 key.C rfl rfl (tA rfl) (tS rfl) rfl ?_)
    | ((with_reducible refine gLoad (T := 25) ?_); first | refine ldC hO 3 rfl rfl (tA rfl) rfl ?_ | refine ldC hO 2 rfl rfl (tA rfl) rfl ?_)
    | (go_at_call 25; refine (G1.out _ (hO.rd HR.out) (HT.out.own hO)).mono ?_; rintro e ww ⟨g, C, rfl, hb, hh, hC⟩; replace hO := hO.add hb hh; clear hb hh hC)
    | ((with_reducible refine gStore (T := 28) ?_); refine stC hO 2 rfl rfl rfl (ltb rfl) rfl (tS rfl) ?_; clear hO; intro ww hO)
    | ((with_reducible refine gStore (T := 31) ?_); refine stX hO 2 rfl rfl rfl rfl rfl (tS rfl) ?_; clear hO; intro ww hO)
    | ((with_reducible refine gStore (T := 27) ?_); refine stX hO 1 rfl rfl rfl rfl rfl (tS rfl) ?_; clear hO; intro ww hO))
  refine bodyPost_ret (res_cct rfl _ _ bx bn 31 27 (boxC 0#64 (.slice none 0 0) St.zero) (ringC St.zero 0#64) (0,0) (0,0) _ _ rfl (hO.blk 2 rfl) Tryd.underlying31 rfl (ibs _ _ _) rfl (hO.blk 1 rfl) Tryd.underlying27 rfl (irs _ _)) rfl ⟨rfl, hO.below⟩

set_option maxHeartbeats 2000000 in
set_option maxRecDepth 100000 in
theorem open_ok (key : St) (n : BitVec 64) (a : Option Addr) (len cap : Nat) (t : List (BitVec 8)) (w : World) (hR : Rd w 1 a len cap (u8s t)) (hl : len ≤ 65536) (hT : Turns w) :
    Calls Tryd.prog 11 #[.agg key.C, .agg (boxC n (.slice a len cap) (key.tag n t))] w (BkRet w (key.hide n t) len) := by
  have hO := Own.start w
  obtain ⟨u, hu⟩ : ∃ u, key.tag n t = u := ⟨_, rfl⟩
  obtain ⟨X, hX⟩ : ∃ X, key.hide n t = X := ⟨_, rfl⟩
  have g1 := fun w hR hT => tag_ok key n a len cap t w hR hl hT
  have g2 := fun w hR hT => hide_ok key n a len cap t w hR hl hT
  rw [hu] at g1
  rw [hX] at g2
  unfold BkRet at g2
  rw [hu, hX]
  have HQ : Hid (∀ w, (binOp .neq 24 (.agg u.C) (.agg u.C)).run Tryd.prog w = .ok (.bool false) w) := fun w => by rw [neW, decide_eq_true rfl]; rfl
  have G1 := Lib.hid g1
  have G2 := Lib.hid g2
  have HR := Lib.hid hR
  have HT := Lib.hid hT
  clear hT hR g1 g2 hu hX
  generalize hW : w = wn at hO HT HR ⊢
  clear hW w
  go_enter Tryd.func11, Tryd.ntmps11
  go_wp2_with (first
    | ((with_reducible refine gBox ?_); first | (refine bxA hO rfl ?_; clear hO; intro bx ww hO) | (refine bx1 hO rfl rfl ?_; clear hO; intro bx ww hO))
    | ((with_reducible refine gAlloc ?_); refine own_alloc hO _ _ iwz ?_; clear hO; intro bt ww hO)
    | ((with_reducible refine gLoad (T := 24) ?_); first | refine ldX hO 1 rfl rfl (tA rfl) (tS rfl) ?_ | refine ldX hO 0 rfl rfl (tA rfl) (tS rfl) ?_ | refine ldA hO 1 u.C rfl rfl (tA rfl) (tS rfl) rfl ?_ | refine ldX hO 2 rfl rfl (tA rfl) (tS rfl) ?_)
    | ((with_reducible refine gLoad (T := 25) ?_); first | refine ldC hO 0 rfl rfl (tA rfl) rfl ?_ | refine ldC hO 1 rfl rfl (tA rfl) rfl ?_)
    | ((with_reducible refine gLoad (T := 28) ?_); first | refine ldC hO 0 rfl rfl (tA rfl) rfl ?_ | refine ldC hO 1 rfl rfl (tA rfl) rfl ?_)
    | ((with_reducible refine gStore (T := 24) ?_); refine stX hO 0 rfl rfl rfl rfl rfl (tS rfl) ?_; clear hO; intro ww hO)
    | (go_at_call 12; refine (G1.out _ (hO.rd HR.out) (HT.out.own hO)).mono ?_; rintro e ww ⟨rfl, hb⟩; replace hO := hO.call hb; clear hb)
    | ((with_reducible refine gNeq (t := 24) ?_); refine neD v_egW rfl rfl ?_; (with_reducible refine ⟨_, HQ.out, ?_⟩))
    | (go_at_call 25; refine (G2.out _ (hO.rd HR.out) (HT.out.own hO)).mono ?_; rintro e ww ⟨g, C, rfl, hb, hh, hC⟩; replace hO := hO.add hb hh; clear hb hh))
  go_ret2
  exact ⟨g, C, rfl, hO.below, hO.at 0 rfl, hC⟩

set_option maxHeartbeats 2000000 in
set_option maxRecDepth 100000 in
theorem open_bad (key : St) (n : BitVec 64) (a : Option Addr) (len cap : Nat) (t : List (BitVec 8)) (v : St) (w : World) (hR : Rd w 1 a len cap (u8s t)) (hl : len ≤ 65536) (hv : v ≠ key.tag n t) (hT : Turns w) :
    Calls Tryd.prog 11 #[.agg key.C, .agg (boxC n (.slice a len cap) v)] w fun e w' => e = .returned (.tuple #[.slice none 0 0, .int .i64 8]) ∧ Below w.heap.size w w' := by
  have hO := Own.start w
  obtain ⟨u, hu⟩ : ∃ u, key.tag n t = u := ⟨_, rfl⟩
  have g1 := fun w hR hT => tag_ok key n a len cap t w hR hl hT
  rw [hu] at g1 hv
  have HQ : Hid (∀ w, (binOp .neq 24 (.agg u.C) (.agg v.C)).run Tryd.prog w = .ok (.bool true) w) := fun w => by rw [neW, decide_eq_false (Ne.symm hv)]; rfl
  have G1 := Lib.hid g1
  have HR := Lib.hid hR
  have HT := Lib.hid hT
  clear hT hR g1 hu hv
  generalize hW : w = wn at hO HT HR ⊢
  clear hW w
  go_enter Tryd.func11, Tryd.ntmps11
  go_wp2_with (first
    | ((with_reducible refine gBox ?_); first | (refine bxA hO rfl ?_; clear hO; intro bx ww hO) | (refine bx1 hO rfl rfl ?_; clear hO; intro bx ww hO))
    | ((with_reducible refine gAlloc ?_); refine own_alloc hO _ _ iwz ?_; clear hO; intro bt ww hO)
    | ((with_reducible refine gLoad (T := 24) ?_); first | refine ldX hO 1 rfl rfl (tA rfl) (tS rfl) ?_ | refine ldX hO 0 rfl rfl (tA rfl) (tS rfl) ?_ | refine ldA hO 1 v.C rfl rfl (tA rfl) (tS rfl) rfl ?_ | refine ldX hO 2 rfl rfl (tA rfl) (tS rfl) ?_)
    | ((with_reducible refine gLoad (T := 25) ?_); first | refine ldC hO 0 rfl rfl (tA rfl) rfl ?_ | refine ldC hO 1 rfl rfl (tA rfl) rfl ?_)
    | ((with_reducible refine gLoad (T := 28) ?_); first | refine ldC hO 0 rfl rfl (tA rfl) rfl ?_ | refine ldC hO 1 rfl rfl (tA rfl) rfl ?_)
    | ((with_reducible refine gStore (T := 24) ?_); refine stX hO 0 rfl rfl rfl rfl rfl (tS rfl) ?_; clear hO; intro ww hO)
    | (go_at_call 12; refine (G1.out _ (hO.rd HR.out) (HT.out.own hO)).mono ?_; rintro e ww ⟨rfl, hb⟩; replace hO := hO.call hb; clear hb)
    | ((with_reducible refine gNeq (t := 24) ?_); refine neD v_egW rfl rfl ?_; (with_reducible refine ⟨_, HQ.out, ?_⟩)))
  go_ret2
  exact ⟨rfl, hO.below⟩

theorem live_ne (u : St) : (⟨u.a, u.b, u.c, Go.Bva.bxor u.d (Go.Bva.bk 1)⟩ : St) ≠ u := by
  intro h
  have h1 : Go.Bva.bxor u.d (Go.Bva.bk 1) = u.d := congrArg St.d h
  have h2 := congrArg (u.d ^^^ ·) h1
  unfold Go.Bva.bxor Go.Bva.bk at h2
  simp only [← BitVec.xor_assoc, BitVec.xor_self, BitVec.zero_xor] at h2
  exact absurd h2 (by decide)

set_option maxHeartbeats 2000000 in
set_option maxRecDepth 100000 in
theorem vlive_calls (w : World) (hT : Turns w) :
    Calls Tryd.prog 9 #[] w fun e w' => e = .returned (.bool true) ∧ Below w.heap.size w w' := by
  have hO := Own.start w
  obtain ⟨X, hX⟩ : ∃ X, St.hide ⟨1#32, 0#32, 0#32, 0#32⟩ 0#64 [5#8] = X := ⟨_, rfl⟩
  have hl : X.length = 1 := by rw [← hX, St.hide_length]; rfl
  obtain ⟨u, hu⟩ : ∃ u, St.tag ⟨1#32, 0#32, 0#32, 0#32⟩ 0#64 X = u := ⟨_, rfl⟩
  have g1 := fun w a c hR hT => seal_ok ⟨1#32, 0#32, 0#32, 0#32⟩ 0#64 a 1 c [5#8] w hR (by omega) (by decide) hT
  rw [hX, hu] at g1
  obtain ⟨v, hv⟩ : ∃ v, (⟨u.a, u.b, u.c, Go.Bva.bxor u.d (Go.Bva.bk 1)⟩ : St) = v := ⟨_, rfl⟩
  have g2 := fun w a c hR hT => open_bad ⟨1#32, 0#32, 0#32, 0#32⟩ 0#64 a 1 c X v w hR (by omega) (by rw [hu, ← hv]; exact live_ne u) hT
  have G1 : Hid (∀ w a c, Rd w 1 a 1 c (u8s [5#8]) → Turns w → Calls Tryd.prog 10 #[.agg #[.int .u32 1, .int .u32 0, .int .u32 0, .int .u32 0, .int .u64 0], .slice a 1 c] w fun e w' => ∃ g C, e = .returned (.tuple #[.agg (boxC 0#64 (.slice (some ⟨g, 0, none⟩) 1 1) u), .agg (ringC ⟨1#32, 0#32, 0#32, 0#32⟩ 1#64), .int .i64 0]) ∧ Below w.heap.size w w' ∧ Res.holds w.heap.size w' (.blk g (.cells C 5 (0,0))) ∧ C.toList.take 1 = u8s X) := g1
  have G2 : Hid (∀ w a c, Rd w 1 a 1 c (u8s X) → Turns w → Calls Tryd.prog 11 #[.agg #[.int .u32 1, .int .u32 0, .int .u32 0, .int .u32 0], .agg (boxC 0#64 (.slice a 1 c) v)] w fun e w' => e = .returned (.tuple #[.slice none 0 0, .int .i64 8]) ∧ Below w.heap.size w w') := g2
  have HT := Lib.hid hT
  have HV := Lib.hid hv
  have HL := Lib.hid hl
  clear hT g1 g2 hX hu hv hl
  generalize hW : w = wn at hO HT ⊢
  clear hW w
  go_enter Tryd.func9, Tryd.ntmps9
  go_wp2_with (first
    | ((with_reducible refine gG ?_); refine wpList_want rfl ?_)
    | ((with_reducible refine gBuild ?_); refine own_build hO 28 1 _ eu8 (u8s [5#8]).toArray (by omega) (by omega) (by simp [go_sem, Instr.fill, u8s]) rfl ?_; clear hO; intro g0 ww hO)
    | ((with_reducible refine gAlloc (T := 31) ?_); refine own_alloc hO _ _ ibz ?_; clear hO; intro bx ww hO)
    | ((with_reducible refine gAlloc (T := 27) ?_); refine own_alloc hO _ _ irz ?_; clear hO; intro bn ww hO)
    | (go_at_call 10; refine (G1.out _ _ _ (hO.rdAt 0 rfl) (HT.out.own hO)).mono ?_; rintro e ww ⟨g, C, rfl, hb, hh, hC⟩; replace hO := hO.add hb hh; clear hb hh)
    | ((with_reducible refine gStore (T := 31) ?_); refine stX hO 1 rfl rfl rfl rfl rfl (tS rfl) ?_; clear hO; intro ww hO)
    | ((with_reducible refine gStore (T := 27) ?_); refine stX hO 0 rfl rfl rfl rfl rfl (tS rfl) ?_; clear hO; intro ww hO)
    | ((with_reducible refine gLoad (T := 22) ?_); refine ldC hO 1 rfl rfl (tA rfl) rfl ?_)
    | ((with_reducible refine Go.Bva.gBin (op := .xor) ?_); refine Go.Bva.xor_u32 rfl (Go.Bva.ku32 rfl (by decide)) ?_)
    | ((with_reducible refine gStore (T := 22) ?_); refine stC hO 1 rfl rfl rfl (ltb rfl) rfl (tS rfl) ?_; clear hO; intro ww hO; replace hO : Own wn ww [.blk bn (.cells (ringC ⟨1#32, 0#32, 0#32, 0#32⟩ 1#64) 27 (0,0)), .blk bx (.cells (boxC 0#64 (.slice (some ⟨g, 0, none⟩) 1 1) v) 31 (0,0)), .blk g (.cells C 5 (0,0)), .sl 5 1 (.slice (some ⟨g0, 0, none⟩) 1 1) 1 (u8s [5#8])] := by rw [← HV.out]; exact hO)
    | ((with_reducible refine gLoad (T := 31) ?_); refine ldX hO 1 rfl rfl (tA rfl) (tS rfl) ?_)
    | (go_at_call 11; refine (G2.out _ _ _ (rd_blk_off (hO.blk 2 rfl) 0 (by rw [List.drop_zero]; exact hC) (by rw [u8s_length]; exact HL.out) (Nat.le_refl _) (by simp [maxLen])) (HT.out.own hO)).mono ?_; rintro e ww ⟨rfl, hb⟩; replace hO := hO.call hb; clear hb))
  go_ret
  exact ⟨rfl, hO.below⟩
end Go.Proofs.YtekiloagckkneaaDoor
