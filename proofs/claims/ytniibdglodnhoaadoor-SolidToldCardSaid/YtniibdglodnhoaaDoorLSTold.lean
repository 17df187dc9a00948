/- The law SolidTold. -/
import Derived.Test.YtniibdglodnhoaaDoorU6
namespace Go.Proofs.YtniibdglodnhoaaDoor
open Go.RowKit Go.Own Go.Bv Go.Ord Go.Eq Go.Opn Go.Pb Go.Sl

set_option maxHeartbeats 8000000 in
set_option maxRecDepth 100000 in
theorem stold_walk (key : St) (n : BitVec 64) (a : Option Addr) (len cap : Nat) (ss : List Tb) (at_ : Int) (c : BitVec 8) (w : World) (hR : Txs w a len cap ss) (hT : Turns w) :
    Calls Tryd.prog 5 #[.agg (ringC key n), .slice a len cap, .int .i64 at_, .int .u8 (c.toNat : Int)] w fun e w' => e = .returned (.bool true) ∧ Below w.heap.size w w' := by
  have hO := Own.start w
  have HR := Lib.hid hR
  have HT := Lib.hid hT
  obtain ⟨B, hB⟩ : ∃ B, decide ((∀ x ∈ ss, x.n ≤ 60) ∧ len ≤ 8) = B := ⟨_, rfl⟩
  have G0 := Lib.hid (fun w h => few_calls a len cap ss w h B hB)
  cases B
  · clear hR hT hB
    generalize hW : w = wn at hO HT HR ⊢
    clear hW w
    go_enter Tryd.func5, Tryd.ntmps5
    go_wp2_with (first
      | ((with_reducible refine gBox ?_); first | (refine bxA hO rfl ?_; clear hO; intro br ww hO) | (refine bx1 hO rfl rfl ?_; clear hO; intro br ww hO))
      | (go_at_call 6; refine (slive_calls _ (HT.out.own hO)).mono ?_; rintro e ww ⟨rfl, hb⟩; replace hO := hO.call hb; clear hb)
      | (go_at_call 11; refine (G0.out _ (HR.out.own hO)).mono ?_; rintro e ww ⟨rfl, hb⟩; replace hO := hO.call hb; clear hb))
    go_ret
    exact ⟨rfl, hO.below⟩
  obtain ⟨h60, hlen⟩ := of_decide_eq_true hB
  by_cases hn : n = 18446744073709551615#64
  · have G1 := Lib.hid (fun w h hT => build_full key n a len cap ss w h hlen h60 hn hT)
    clear hR hT hB hn h60 hlen
    generalize hW : w = wn at hO HT HR ⊢
    clear hW w
    go_enter Tryd.func5, Tryd.ntmps5
    go_wp2_with (first
      | ((with_reducible refine gBox ?_); first | (refine bxA hO rfl ?_; clear hO; intro br ww hO) | (refine bx1 hO rfl rfl ?_; clear hO; intro br ww hO))
      | ((with_reducible refine gAlloc (T := 27) ?_); refine own_alloc hO _ _ irz ?_; clear hO; intro bn ww hO)
      | ((with_reducible refine gLoad (d := some 27) ?_); refine ldX hO 0 rfl rfl (tA rfl) (tS rfl) ?_)
      | ((with_reducible refine gStore (T := 27) ?_); refine stX hO 0 rfl rfl rfl rfl rfl (tS rfl) ?_; clear hO; intro ww hO)
      | (go_at_call 6; refine (slive_calls _ (HT.out.own hO)).mono ?_; rintro e ww ⟨rfl, hb⟩; replace hO := hO.call hb; clear hb)
      | (go_at_call 11; refine (G0.out _ (HR.out.own hO)).mono ?_; rintro e ww ⟨rfl, hb⟩; replace hO := hO.call hb; clear hb)
      | (go_at_call 8; refine (G1.out _ (HR.out.own hO) (HT.out.own hO)).mono ?_; rintro e ww ⟨rfl, hb⟩; replace hO := hO.call hb; clear hb))
    go_ret
    exact ⟨rfl, hO.below⟩
  have h480 := few_length hR hlen h60
  obtain ⟨X, hX⟩ : ∃ X, (txs ss).flatten = X := ⟨_, rfl⟩
  rw [hX] at h480
  obtain ⟨T, hTT⟩ : ∃ T, sealT key n X = T := ⟨_, rfl⟩
  obtain ⟨M, hM⟩ : ∃ M, T.length = M := ⟨_, rfl⟩
  obtain ⟨p1, p2⟩ := Go.Pz.pack_length X
  have hML := sealT_length key n X
  rw [hTT, hM] at hML
  obtain ⟨pl, hpl⟩ : ∃ pl, pieces (txs ss) = pl := ⟨_, rfl⟩
  have G1 := Lib.hid (fun w h hT => build_ok key n a len cap ss w h hlen h60 hn hT X hX T hTT M hM)
  rw [hpl] at G1
  have hMp : 0 < M := by omega
  have hM6 : M ≤ 6000 := by omega
  by_cases c1 : at_ < 0
  · have d1 : decide (at_ < 0) = true := decide_eq_true c1
    clear hR hT hB h60 hX hTT hM hML hpl p1 p2 hn c1
    generalize hW : w = wn at hO HT HR ⊢
    clear hW w
    go_enter Tryd.func5, Tryd.ntmps5
    go_wp2_with (first
      | ((with_reducible refine gBox ?_); first | (refine bxA hO rfl ?_; clear hO; intro br ww hO) | (refine bx1 hO rfl rfl ?_; clear hO; intro br ww hO))
      | ((with_reducible refine gAlloc (T := 27) ?_); refine own_alloc hO _ _ irz ?_; clear hO; intro bn ww hO)
      | ((with_reducible refine gLoad (d := some 27) ?_); refine ldX hO 0 rfl rfl (tA rfl) (tS rfl) ?_)
      | ((with_reducible refine gStore (T := 27) ?_); refine stX hO 0 rfl rfl rfl rfl rfl (tS rfl) ?_; clear hO; intro ww hO)
      | (go_at_call 6; refine (slive_calls _ (HT.out.own hO)).mono ?_; rintro e ww ⟨rfl, hb⟩; replace hO := hO.call hb; clear hb)
      | (go_at_call 11; refine (G0.out _ (HR.out.own hO)).mono ?_; rintro e ww ⟨rfl, hb⟩; replace hO := hO.call hb; clear hb)
      | (go_at_call 8; refine (G1.out _ (HR.out.own hO) (HT.out.own hO)).mono ?_; rintro e ww ⟨a1, c1, g2, rfl, hK⟩; replace hO := hO.join hK; clear hK))
    go_ret
    exact ⟨rfl, hO.below⟩
  obtain ⟨k, rfl⟩ : ∃ k : Nat, at_ = (k : Int) := ⟨at_.toNat, by omega⟩
  have d1 : decide ((k : Int) < 0) = false := decide_eq_false c1
  by_cases c2 : M ≤ k
  · have d2 : decide ((M : Int) ≤ (k : Int)) = true := decide_eq_true (by omega)
    have d2' : decide (M ≤ k) = true := decide_eq_true c2
    clear hR hT hB h60 hX hTT hM hML hpl p1 p2 hn c1
    generalize hW : w = wn at hO HT HR ⊢
    clear hW w
    go_enter Tryd.func5, Tryd.ntmps5
    go_wp2_with (first
      | ((with_reducible refine gBox ?_); first | (refine bxA hO rfl ?_; clear hO; intro br ww hO) | (refine bx1 hO rfl rfl ?_; clear hO; intro br ww hO))
      | ((with_reducible refine gAlloc (T := 27) ?_); refine own_alloc hO _ _ irz ?_; clear hO; intro bn ww hO)
      | ((with_reducible refine gLoad (d := some 27) ?_); refine ldX hO 0 rfl rfl (tA rfl) (tS rfl) ?_)
      | ((with_reducible refine gStore (T := 27) ?_); refine stX hO 0 rfl rfl rfl rfl rfl (tS rfl) ?_; clear hO; intro ww hO)
      | (go_at_call 6; refine (slive_calls _ (HT.out.own hO)).mono ?_; rintro e ww ⟨rfl, hb⟩; replace hO := hO.call hb; clear hb)
      | (go_at_call 11; refine (G0.out _ (HR.out.own hO)).mono ?_; rintro e ww ⟨rfl, hb⟩; replace hO := hO.call hb; clear hb)
      | (go_at_call 8; refine (G1.out _ (HR.out.own hO) (HT.out.own hO)).mono ?_; rintro e ww ⟨a1, c1, g2, rfl, hK⟩; replace hO := hO.join hK; clear hK))
    go_ret
    exact ⟨rfl, hO.below⟩
  have hkM : k < T.length := by omega
  have d2 : decide ((M : Int) ≤ (k : Int)) = false := decide_eq_false (by omega)
  have d2' : decide (M ≤ k) = false := decide_eq_false c2
  have hxk : (u8s T)[k]? = some (.int .u8 (T[k].toNat : Int)) := by unfold u8s; rw [List.getElem?_map, List.getElem?_eq_getElem hkM]; rfl
  by_cases hc : T[k] = c
  · rw [hc] at hxk
    have HXK := Lib.hid hxk
    clear hR hT hB h60 hX hTT hM hML hpl p1 p2 hn c1 hc hxk hkM
    generalize hW : w = wn at hO HT HR ⊢
    clear hW w
    go_enter Tryd.func5, Tryd.ntmps5
    go_wp2_with (first
      | ((with_reducible refine gG ?_); refine wpList_want rfl ?_)
      | ((with_reducible refine gBox ?_); first | (refine bxA hO rfl ?_; clear hO; intro br ww hO) | (refine bx1 hO rfl rfl ?_; clear hO; intro br ww hO))
      | ((with_reducible refine gAlloc (T := 27) ?_); refine own_alloc hO _ _ irz ?_; clear hO; intro bn ww hO)
      | ((with_reducible refine gLoad (d := some 27) ?_); refine ldX hO 0 rfl rfl (tA rfl) (tS rfl) ?_)
      | ((with_reducible refine gLoad (d := some 50) ?_); refine ld_sl hO 2 rfl rfl HXK.out (tA rfl) ?_)
      | ((with_reducible refine gStore (T := 27) ?_); refine stX hO 0 rfl rfl rfl rfl rfl (tS rfl) ?_; clear hO; intro ww hO)
      | (go_at_call 6; refine (slive_calls _ (HT.out.own hO)).mono ?_; rintro e ww ⟨rfl, hb⟩; replace hO := hO.call hb; clear hb)
      | (go_at_call 11; refine (G0.out _ (HR.out.own hO)).mono ?_; rintro e ww ⟨rfl, hb⟩; replace hO := hO.call hb; clear hb)
      | (go_at_call 8; refine (G1.out _ (HR.out.own hO) (HT.out.own hO)).mono ?_; rintro e ww ⟨a1, c1, g2, rfl, hK⟩; replace hO := hO.join hK; clear hK; obtain ⟨g1, rfl⟩ := hO.slPlace 1 rfl (by omega)))
    go_ret
    exact ⟨rfl, hO.below⟩
  have hkM2 : k < M := by omega
  obtain ⟨T2, hT2⟩ : ∃ T2, T.set k c = T2 := ⟨_, rfl⟩
  have hT2l : T2.length = M := by rw [← hT2, List.length_set, hM]
  subst hTT
  obtain ⟨s1, s2⟩ := so_told key n X (by omega) k c hkM hc
  rw [hT2] at s1 s2
  have hcw : ¬ ((sealT key n X)[k].toNat : Int) = (c.toNat : Int) := fun h => hc (BitVec.eq_of_toNat_eq (by omega))
  have hcn : ¬ (sealT key n X)[k].toNat = c.toNat := fun h => hc (BitVec.eq_of_toNat_eq h)
  obtain ⟨y, hy⟩ : ∃ y, (sealT key n X)[k] = y := ⟨_, rfl⟩
  have hset : (u8s (sealT key n X)).set k (.int .u8 (c.toNat : Int)) = u8s T2 := by rw [← hT2, u8s_set]
  obtain ⟨BX, hBX⟩ : ∃ BX, boxT key n X = BX := ⟨_, rfl⟩
  have hbl := boxT_length key n X
  obtain ⟨NB, hNB⟩ : ∃ NB, BX.length = NB := ⟨_, rfl⟩
  obtain ⟨o1, o2⟩ := open_seal (boxT key n X)
  have hget : ∀ h, k < 24 → BX[k]'h ≠ c := fun h _ e => hc (by
    have e1 : (sealT key n X)[k]? = BX[k]? := by unfold sealT; rw [hBX]; exact List.getElem?_append_left h
    rw [List.getElem?_eq_getElem hkM, List.getElem?_eq_getElem h] at e1
    rw [Option.some.inj e1]; exact e)
  have htag := so_tag key n X (by omega) k c
  rw [hBX] at hbl o1 o2 htag
  rw [hNB] at hbl
  rw [hy] at hxk hcw hcn
  have HXK := Lib.hid hxk
  have hsl : sealL BX = sealT key n X := by rw [← hBX]; rfl
  rw [hsl] at o1 o2
  have g4 := fun w a c h => open_calls a M c (sealT key n X) w h (by omega)
  rw [o1, o2] at g4
  unfold RetSE at g4
  rw [hNB] at g4
  have G4 := Lib.hid g4
  have G2 := Lib.hid (fun w a c h hT => sopen_calls key a M c T2 w h hT 7 [] 0 s1 s2 rfl)
  have G3 := Lib.hid (fun w a c a2 m c2 h hL hT => test_calls key a M c T2 a2 m c2 pl w h hL hT 7 (by unfold teE; rw [s1]; rfl))
  have d3 : ((y.toNat : Int) == (c.toNat : Int)) = false := by simp; omega
  have d3' : decide ((y.toNat : Int) = (c.toNat : Int)) = false := decide_eq_false hcw
  have d3'' : decide (y.toNat = c.toNat) = false := decide_eq_false hcn
  have d3n : decide (y = c) = false := decide_eq_false (fun h => hcn (by rw [h]))
  have HSET := Lib.hid hset
  by_cases c8 : k < 8 ∨ 24 ≤ k
  · have d8 : (decide ((k : Int) < 8) || decide ((24 : Int) ≤ (k : Int))) = true := by simp; omega
    have H8 := Lib.hid c8
    clear hR hT hB h60 hX hM hML hpl p1 p2 hn c1 hc hxk hkM hT2 hT2l s1 s2 hcw hcn hy hset hBX hbl hNB o1 o2 hget htag hsl g4 c8 d8 h480
    generalize sealT key n X = T at *
    generalize hW : w = wn at hO HT HR ⊢
    clear hW w
    by_cases c8a : k < 8
    · have d5 : decide ((k : Int) < 8) = true := decide_eq_true (by omega)
      have d5' : decide (k < 8) = true := decide_eq_true c8a
      clear H8
      go_enter Tryd.func5, Tryd.ntmps5
      go_wp2_with (first
        | ((with_reducible refine gG ?_); refine wpList_want rfl ?_)
        | ((with_reducible refine gBox ?_); first | (refine bxA hO rfl ?_; clear hO; intro br ww hO) | (refine bx1 hO rfl rfl ?_; clear hO; intro br ww hO))
        | ((with_reducible refine gAlloc (T := 27) ?_); refine own_alloc hO _ _ irz ?_; clear hO; intro bn ww hO)
        | ((with_reducible refine gLoad (d := some 27) ?_); refine ldX hO 0 rfl rfl (tA rfl) (tS rfl) ?_)
        | ((with_reducible refine gLoad (d := some 50) ?_); refine ld_sl hO 2 rfl rfl HXK.out (tA rfl) ?_)
        | ((with_reducible refine gLoad (d := some 63) ?_); refine ldA hO 4 key.C rfl rfl (tA rfl) (tS rfl) rfl ?_)
        | ((with_reducible refine gLoad (d := some 77) ?_); refine ldA hO 5 key.C rfl rfl (tA rfl) (tS rfl) rfl ?_)
        | ((with_reducible refine gStore (T := 27) ?_); refine stX hO 0 rfl rfl rfl rfl rfl (tS rfl) ?_; clear hO; intro ww hO)
        | ((with_reducible refine gAppendNil ?_); refine own_appendNil hO _ _ 28 eu8_8 rfl rfl (hO.rdAt 2 rfl) (u8s_one _) (by simp [maxLen]; omega) (by omega) ?_; clear hO; intro a5 c5 ww hO)
        | (go_at_call 6; refine (slive_calls _ (HT.out.own hO)).mono ?_; rintro e ww ⟨rfl, hb⟩; replace hO := hO.call hb; clear hb)
        | (go_at_call 11; refine (G0.out _ (HR.out.own hO)).mono ?_; rintro e ww ⟨rfl, hb⟩; replace hO := hO.call hb; clear hb)
        | (go_at_call 8; refine (G1.out _ (HR.out.own hO) (HT.out.own hO)).mono ?_; rintro e ww ⟨a1, c1, g2, rfl, hK⟩; replace hO := hO.join hK; clear hK; obtain ⟨g1, rfl⟩ := hO.slPlace 1 rfl (by omega))
        | ((with_reducible refine gStore (T := 5) (x := .tmp 60) ?_); refine own_setElem hO 3 5 _ _ (.int .u8 (c.toNat : Int)) rfl rfl rfl (by omega) iu8s_3 rfl ?_; clear hO; intro ww hO; rw [HSET.out] at hO)
        | (go_at_call 10; refine (G2.out _ _ _ (hO.rdAt 3 rfl) (HT.out.own hO)).mono ?_; rintro e ww ⟨a6, c6, rfl, hb, hr⟩; replace hO := hO.addRow hb hr; clear hb hr)
        | (go_at_call 12; refine (G3.out _ _ _ _ _ _ (hO.rdAt 4 rfl) (hO.rdAt 3 rfl) (HT.out.own hO)).mono ?_; rintro e ww ⟨rfl, hb⟩; replace hO := hO.call hb; clear hb)
        | (go_at_call 14; refine (G4.out _ _ _ (hO.rdAt 1 rfl)).mono ?_; rintro e ww ⟨a7, c7, rfl, hb, hr⟩; replace hO := hO.addRow hb hr; clear hb hr))
      go_ret
      exact ⟨rfl, hO.below⟩
    · have d5 : decide ((k : Int) < 8) = false := decide_eq_false (by omega)
      have d5' : decide (k < 8) = false := decide_eq_false c8a
      have d6 : decide ((24 : Int) ≤ (k : Int)) = true := decide_eq_true (by have := H8.out; omega)
      have d6' : decide (24 ≤ k) = true := decide_eq_true (by have := H8.out; omega)
      clear H8
      go_enter Tryd.func5, Tryd.ntmps5
      go_wp2_with (first
        | ((with_reducible refine gG ?_); refine wpList_want rfl ?_)
        | ((with_reducible refine gBox ?_); first | (refine bxA hO rfl ?_; clear hO; intro br ww hO) | (refine bx1 hO rfl rfl ?_; clear hO; intro br ww hO))
        | ((with_reducible refine gAlloc (T := 27) ?_); refine own_alloc hO _ _ irz ?_; clear hO; intro bn ww hO)
        | ((with_reducible refine gLoad (d := some 27) ?_); refine ldX hO 0 rfl rfl (tA rfl) (tS rfl) ?_)
        | ((with_reducible refine gLoad (d := some 50) ?_); refine ld_sl hO 2 rfl rfl HXK.out (tA rfl) ?_)
        | ((with_reducible refine gLoad (d := some 63) ?_); refine ldA hO 4 key.C rfl rfl (tA rfl) (tS rfl) rfl ?_)
        | ((with_reducible refine gLoad (d := some 77) ?_); refine ldA hO 5 key.C rfl rfl (tA rfl) (tS rfl) rfl ?_)
        | ((with_reducible refine gStore (T := 27) ?_); refine stX hO 0 rfl rfl rfl rfl rfl (tS rfl) ?_; clear hO; intro ww hO)
        | ((with_reducible refine gAppendNil ?_); refine own_appendNil hO _ _ 28 eu8_8 rfl rfl (hO.rdAt 2 rfl) (u8s_one _) (by simp [maxLen]; omega) (by omega) ?_; clear hO; intro a5 c5 ww hO)
        | (go_at_call 6; refine (slive_calls _ (HT.out.own hO)).mono ?_; rintro e ww ⟨rfl, hb⟩; replace hO := hO.call hb; clear hb)
        | (go_at_call 11; refine (G0.out _ (HR.out.own hO)).mono ?_; rintro e ww ⟨rfl, hb⟩; replace hO := hO.call hb; clear hb)
        | (go_at_call 8; refine (G1.out _ (HR.out.own hO) (HT.out.own hO)).mono ?_; rintro e ww ⟨a1, c1, g2, rfl, hK⟩; replace hO := hO.join hK; clear hK; obtain ⟨g1, rfl⟩ := hO.slPlace 1 rfl (by omega))
        | ((with_reducible refine gStore (T := 5) (x := .tmp 60) ?_); refine own_setElem hO 3 5 _ _ (.int .u8 (c.toNat : Int)) rfl rfl rfl (by omega) iu8s_3 rfl ?_; clear hO; intro ww hO; rw [HSET.out] at hO)
        | (go_at_call 10; refine (G2.out _ _ _ (hO.rdAt 3 rfl) (HT.out.own hO)).mono ?_; rintro e ww ⟨a6, c6, rfl, hb, hr⟩; replace hO := hO.addRow hb hr; clear hb hr)
        | (go_at_call 12; refine (G3.out _ _ _ _ _ _ (hO.rdAt 4 rfl) (hO.rdAt 3 rfl) (HT.out.own hO)).mono ?_; rintro e ww ⟨rfl, hb⟩; replace hO := hO.call hb; clear hb)
        | (go_at_call 14; refine (G4.out _ _ _ (hO.rdAt 1 rfl)).mono ?_; rintro e ww ⟨a7, c7, rfl, hb, hr⟩; replace hO := hO.addRow hb hr; clear hb hr))
      go_ret
      exact ⟨rfl, hO.below⟩
  have h8 : 8 ≤ k ∧ k < 24 := by omega
  have hkB : k < BX.length := by omega
  obtain ⟨q1, q2⟩ := htag h8.1 h8.2 hkB (hget hkB h8.2)
  obtain ⟨B2, hB2⟩ : ∃ B2, BX.set k c = B2 := ⟨_, rfl⟩
  rw [hB2] at q1 q2
  have hB2l : B2.length = NB := by rw [← hB2, List.length_set, hNB]
  have hset2 : (u8s BX).set k (.int .u8 (c.toNat : Int)) = u8s B2 := by rw [← hB2, u8s_set]
  have HSET2 := Lib.hid hset2
  have G5 := Lib.hid (fun w a c h => seal_calls a NB c B2 w h (by omega))
  obtain ⟨S2, hS2⟩ : ∃ S2, sealL B2 = S2 := ⟨_, rfl⟩
  have hS2' : B2 ++ octs4 (Crc.sum B2) = S2 := hS2
  rw [hS2'] at G5
  rw [hS2] at q1 q2
  have G6 := Lib.hid (fun w a c h hT => sopen_calls key a (NB + 4) c S2 w h hT 8 [] 0 q1 q2 rfl)
  have d5 : decide ((k : Int) < 8) = false := decide_eq_false (by omega)
  have d5' : decide (k < 8) = false := decide_eq_false (by omega)
  have d6 : decide ((24 : Int) ≤ (k : Int)) = false := decide_eq_false (by omega)
  have d6' : decide (24 ≤ k) = false := decide_eq_false (by omega)
  have hkN : k < NB := by omega
  clear hR hT hB h60 hX hM hML hpl p1 p2 hn c1 hc hxk hkM hT2 hT2l s1 s2 hcw hcn hy hset hBX hbl hNB o1 o2 hget htag hsl g4 c8 q1 q2 hB2 hB2l hset2 hS2 hS2' hkB h8 h480
  generalize sealT key n X = T at *
  generalize hW : w = wn at hO HT HR ⊢
  clear hW w
  go_enter Tryd.func5, Tryd.ntmps5
  go_wp2_with (first
    | ((with_reducible refine gG ?_); refine wpList_want rfl ?_)
    | ((with_reducible refine gBox ?_); first | (refine bxA hO rfl ?_; clear hO; intro br ww hO) | (refine bx1 hO rfl rfl ?_; clear hO; intro br ww hO))
    | ((with_reducible refine gAlloc (T := 27) ?_); refine own_alloc hO _ _ irz ?_; clear hO; intro bn ww hO)
    | ((with_reducible refine gLoad (d := some 27) ?_); refine ldX hO 0 rfl rfl (tA rfl) (tS rfl) ?_)
    | ((with_reducible refine gLoad (d := some 50) ?_); refine ld_sl hO 2 rfl rfl HXK.out (tA rfl) ?_)
    | ((with_reducible refine gLoad (d := some 63) ?_); refine ldA hO 4 key.C rfl rfl (tA rfl) (tS rfl) rfl ?_)
    | ((with_reducible refine gLoad (d := some 77) ?_); refine ldA hO 5 key.C rfl rfl (tA rfl) (tS rfl) rfl ?_)
    | ((with_reducible refine gStore (T := 27) ?_); refine stX hO 0 rfl rfl rfl rfl rfl (tS rfl) ?_; clear hO; intro ww hO)
    | ((with_reducible refine gAppendNil ?_); refine own_appendNil hO _ _ 28 eu8_8 rfl rfl (hO.rdAt 2 rfl) (u8s_one _) (by simp [maxLen]; omega) (by omega) ?_; clear hO; intro a5 c5 ww hO)
    | (go_at_call 6; refine (slive_calls _ (HT.out.own hO)).mono ?_; rintro e ww ⟨rfl, hb⟩; replace hO := hO.call hb; clear hb)
    | (go_at_call 11; refine (G0.out _ (HR.out.own hO)).mono ?_; rintro e ww ⟨rfl, hb⟩; replace hO := hO.call hb; clear hb)
    | (go_at_call 8; refine (G1.out _ (HR.out.own hO) (HT.out.own hO)).mono ?_; rintro e ww ⟨a1, c1, g2, rfl, hK⟩; replace hO := hO.join hK; clear hK; obtain ⟨g1, rfl⟩ := hO.slPlace 1 rfl (by omega))
    | ((with_reducible refine gStore (T := 5) (x := .tmp 60) ?_); refine own_setElem hO 3 5 _ _ (.int .u8 (c.toNat : Int)) rfl rfl rfl (by omega) iu8s_3 rfl ?_; clear hO; intro ww hO; rw [HSET.out] at hO)
    | ((with_reducible refine gStore (T := 5) (x := .tmp 106) ?_); refine own_setElem hO 0 5 _ _ (.int .u8 (c.toNat : Int)) rfl rfl rfl (by omega) iu8s_3 rfl ?_; clear hO; intro ww hO; rw [HSET2.out] at hO)
    | (go_at_call 10; refine (G2.out _ _ _ (hO.rdAt 3 rfl) (HT.out.own hO)).mono ?_; rintro e ww ⟨a6, c6, rfl, hb, hr⟩; replace hO := hO.addRow hb hr; clear hb hr)
    | (go_at_call 12; refine (G3.out _ _ _ _ _ _ (hO.rdAt 4 rfl) (hO.rdAt 3 rfl) (HT.out.own hO)).mono ?_; rintro e ww ⟨rfl, hb⟩; replace hO := hO.call hb; clear hb)
    | (go_at_call 14; refine (G4.out _ _ _ (hO.rdAt 1 rfl)).mono ?_; rintro e ww ⟨a7, c7, rfl, hb, hr⟩; replace hO := hO.addRow hb hr; clear hb hr; obtain ⟨g7, rfl⟩ := hO.slPlace 0 rfl (by omega)))
  refine wp_region_textS (fun w' => Own wn w' [.blk br (.cells (ringC key n) 27 (0,0))]) (fun op => match op with | .load _ _ => true | _ => false) (by kernel_rfl) (by kernel_rfl) (hO.drew.only (by simp)) ?_
  replace hO := hO.drew
  generalize World.drew _ = wd at hO ⊢
  go_wp2_with (first
    | ((with_reducible refine gIL ?_); refine wpI_ldpS key.C.toList (fun w' hS => hS.blk 0 rfl) rfl rfl (tA rfl) (tS rfl) rfl ?_; first | (refine wpI_act (by simp only [Act.put, List.setIfInBounds_toArray, List.set_cons_succ, List.set_cons_zero]; rfl) ?_) | skip)
    | (go_at_call 15; refine (G5.out _ _ _ (hO.rdAt 0 rfl)).mono ?_; rintro e ww ⟨a8, c8, rfl, hb, hr⟩; replace hO := hO.addRow hb hr; clear hb hr)
    | (go_at_call 10; refine (G6.out _ _ _ (hO.rdAt 0 rfl) (HT.out.own hO)).mono ?_; rintro e ww ⟨a9, c9, rfl, hb, hr⟩; replace hO := hO.addRow hb hr; clear hb hr)
    | ((with_reducible refine gI ?_); refine wpI_step rfl rfl (by kernel_rfl) ?_; intro K hK; have HK := Lib.hid hK; clear hK) | ((with_reducible refine gI ?_); first | refine wpI_skip rfl ?_ | refine wpI_want rfl ?_) | ((with_reducible refine gOnlyK HK.out ?_ ?_); exact hO.only (by simp); clear HK K; first | (refine wpI_act (by simp only [Act.put, List.setIfInBounds_toArray, List.set_cons_succ, List.set_cons_zero]; rfl) ?_) | skip) | (with_reducible refine wpI_nil ?_)
    | ((with_reducible refine gG ?_); refine wpList_want rfl ?_))
  go_ret
  exact ⟨rfl, hO.below⟩
end Go.Proofs.YtniibdglodnhoaaDoor
