/- Walks of the document's hidden, Open, Seal. -/
import Derived.Test.YtekiloagckkneaaDoorVz
namespace Go.Proofs.YtekiloagckkneaaDoor
open Go.RowKit Go.Own Go.Bv Go.Ord Go.Eq

theorem hide_get' (key : St) (n : BitVec 64) (b : List (BitVec 8)) (k : Nat) (hk : k < b.length) : (key.hide n b).take (k + 1) = (key.hide n b).take k ++ [b[k] ^^^ ((key.stream n b.length)[k]'(by rw [St.stream_length]; exact hk))] := by
  have hl : k < (key.hide n b).length := by rw [St.hide_length]; exact hk
  rw [List.take_succ_eq_append_getElem hl]
  congr 2
  have h := St.hide_get (k := key) (n := n) (b := b) (i := k) 0 hk
  rw [List.getElem?_eq_getElem hl] at h
  exact Option.some.inj h

theorem hide_get2 (key : St) (n : BitVec 64) (b : List (BitVec 8)) (len : Nat) (hbl : b.length = len) (s : List (BitVec 8)) (hs : key.stream n len = s) (H : List (BitVec 8)) (hH : key.hide n b = H) :
    ∀ k (hk : k < len), H.take (k + 1) = H.take k ++ [(b[k]'(by omega)) ^^^ (s[k]'(by rw [← hs, St.stream_length]; exact hk))] := by
  subst hbl hs hH
  exact fun k hk => hide_get' key n b k hk

set_option maxHeartbeats 4000000 in
set_option maxRecDepth 100000 in
theorem rhidden_ok (key : St) (n : BitVec 64) (a : Option Addr) (len cap : Nat) (b : List (BitVec 8)) (w : World) (hR : Rd w 1 a len cap (u8s b)) (hl : len ≤ 65536) :
    Calls Tryd.prog 30 #[.agg key.C, .int .u64 (n.toNat : Int), .slice a len cap] w fun e w' => ∃ a' c', e = .returned (.slice a' len c') ∧ Below w.heap.size w w' ∧ w'.ownsRow w.heap.size 5 1 (.slice a' len c') len (u8s (key.hide n b)) := by
  have hO := Own.start w
  have hbl : b.length = len := by have := hR.len; rw [u8s_length] at this; omega
  obtain ⟨s, hs⟩ : ∃ s, key.stream n len = s := ⟨_, rfl⟩
  have hsl : s.length = b.length := by rw [← hs, St.stream_length, hbl]
  obtain ⟨H, hH⟩ : ∃ H, key.hide n b = H := ⟨_, rfl⟩
  have hHl : H.length = len := by rw [← hH, St.hide_length, hbl]
  have hnx2 := hide_get2 key n b len hbl s hs H hH
  rw [hH]
  have g1 := fun w => rstream_ok key n len hl w
  rw [hs] at g1
  have G1 := Lib.hid g1
  have HR := Lib.hid hR
  have HBL := Lib.hid hbl
  have HSL := Lib.hid hsl
  have HNX := Lib.hid hnx2
  have HHL := Lib.hid hHl
  clear hR g1 hsl hnx2 hHl
  generalize hW : w = wn at hO HR ⊢
  clear hW w
  go_enter Tryd.func30, Tryd.ntmps30
  go_wp2_with (first
    | ((with_reducible refine gBox ?_); first | (refine bxA hO rfl ?_; clear hO; intro bk ww hO) | (refine bx1 hO rfl rfl ?_; clear hO; intro bk ww hO))
    | ((with_reducible refine gLoad ?_); first | refine ldX hO 0 rfl rfl (tA rfl) (tS rfl) ?_ | refine ldC hO 0 rfl rfl (tA rfl) rfl ?_)
    | (go_at_call 22; refine (G1.out _).mono ?_; rintro e ww ⟨aS, cS, rfl, hb, hX⟩; replace hO := hO.call hb; clear hb; have HX := Lib.hid hX; clear hX))
  have HB0 := Lib.hid hO.below
  have HR2 := Lib.hid (hO.rd HR.out)
  have hO2 := Own.start ww
  clear hO HR
  have hO := hO2
  clear hO2
  generalize hW : ww = w1 at hO HX HR2 HB0 ⊢
  clear hW ww
  go_loopg [9, 21] len (fun mm s9 cc wr => ∃ (k : Nat) (aO : Option Addr) (cO : Nat), mm = len - k ∧ k ≤ len ∧ cc = .int .i64 (k : Int) ∧ s9 = .slice aO k cO ∧ Own w1 wr [.sl 5 1 (.slice aO k cO) k (u8s (H.take k))])
  case atStart => exact ⟨0, none, 0, rfl, by omega, rfl, rfl, hO.addRow (Below.refl _ _) (World.ownsRow_nil _ _ _ _)⟩
  case round =>
    obtain ⟨k, aO, cO, rfl, hk, rfl, rfl, hO1⟩ := hrel
    clear hO
    have hO := hO1
    clear hO1
    by_cases hlt : k < len
    · have hb0 : decide ((k : Int) < (len : Int)) = true := decide_eq_true (by omega)
      have hkb : k < b.length := by rw [HBL.out]; exact hlt
      have hks : k < s.length := by rw [HSL.out]; exact hkb
      have HB := Lib.hid (u8s_get b k hkb)
      have HS := Lib.hid (u8s_get s k hks)
      have HN := Lib.hid (HNX.out k hlt)
      obtain ⟨b0, off, rfl⟩ := HR2.out.place (by omega)
      obtain ⟨s0, offs, rfl⟩ := HX.out.place (by omega)
      generalize s[k] = x at *
      generalize b[k] = y at *
      have e := xor8 y x
      generalize y ^^^ x = z at *
      have HUA : Hid (u8s (H.take (k + 1)) = u8s (H.take k) ++ u8s [z]) := by show _ = _; rw [HN.out]; unfold u8s; rw [List.map_append]
      clear hkb hks
      go_wp2
      refine wp_region_text (by kernel_rfl) (by kernel_rfl) ?_
      replace hO := hO.drew
      generalize World.drew _ = wd at hO ⊢
      go_wp2_with (first
        | ((with_reducible refine gLoad (T := 5) ?_); first | refine ld_rd (hO.rd HR2.out) rfl HB.out (tA rfl) ?_ | refine ld_rd (hO.rd HX.out) rfl HS.out (tA rfl) ?_)
        | ((with_reducible refine gBuild (T := 28) ?_); refine own_build hO 28 1 _ eu8 (u8s [z]).toArray (by omega) (by omega) (by kernel_rfl) rfl ?_; clear hO; intro g2 ww hO)
        | ((with_reducible refine gAppend ?_); refine own_append hO 1 _ _ 28 eu8 rfl rfl rfl (hO.rdAt 0 rfl) (u8s_one _) (k + 1) rfl (by simp [maxLen]; omega) (by omega) ?_; clear hO; intro a2 c2 ww hO)
        | ((with_reducible refine gI ?_); refine wpI_step rfl rfl (by kernel_rfl) ?_; intro K hK; have HK := Lib.hid hK; clear hK) | ((with_reducible refine gI ?_); first | refine wpI_skip rfl ?_ | refine wpI_want rfl ?_) | ((with_reducible refine gOnlyK0 HK.out ?_); clear HK K; first | (refine wpI_act (by simp only [Act.put, List.setIfInBounds_toArray, List.set_cons_succ, List.set_cons_zero]; rfl) ?_) | skip) | (with_reducible refine wpI_nil ?_))
      go_roundg (len - (k + 1))
      case measure => omega
      case rel => exact ⟨k + 1, a2, c2, rfl, by omega, by go_num, rfl, by rw [HUA.out]; exact hO.tail⟩
    · obtain rfl : k = len := by omega
      have HT : Hid (H.take k = H) := List.take_of_length_le (by rw [HHL.out]; exact Nat.le_refl _)
      rw [HT.out] at hO
      go_wp2
      go_ret
      exact ⟨aO, cO, rfl, HB0.out.trans (hO.below.mono HB0.out.size), Res.holds.mono (r := .sl 5 1 (.slice aO k cO) k (u8s H)) (hO.at 0 rfl) HB0.out.size⟩

set_option maxHeartbeats 2000000 in
set_option maxRecDepth 100000 in
theorem ropen_ok (key : St) (n : BitVec 64) (a : Option Addr) (len cap : Nat) (t : List (BitVec 8)) (w : World) (hR : Rd w 1 a len cap (u8s t)) (hl : len ≤ 65536) :
    Calls Tryd.prog 17 #[.agg key.C, .agg (boxC n (.slice a len cap) (key.tag n t))] w fun e w' => ∃ a' c', e = .returned (.tuple #[.slice a' len c', .int .i64 0]) ∧ Below w.heap.size w w' ∧ w'.ownsRow w.heap.size 5 1 (.slice a' len c') len (u8s (key.hide n t)) := by
  have hO := Own.start w
  obtain ⟨u, hu⟩ : ∃ u, key.tag n t = u := ⟨_, rfl⟩
  obtain ⟨X, hX⟩ : ∃ X, key.hide n t = X := ⟨_, rfl⟩
  have g1 := fun w hR => rtag_ok key n a len cap t w hR hl
  have g2 := fun w hR => rhidden_ok key n a len cap t w hR hl
  rw [hu] at g1
  rw [hX] at g2
  rw [hu, hX]
  have HQ : Hid (∀ w, (binOp .neq 24 (.agg u.C) (.agg u.C)).run Tryd.prog w = .ok (.bool false) w) := fun w => by rw [neW, decide_eq_true rfl]; rfl
  have G1 := Lib.hid g1
  have G2 := Lib.hid g2
  have HR := Lib.hid hR
  clear hR g1 g2 hu hX
  generalize hW : w = wn at hO HR ⊢
  clear hW w
  go_enter Tryd.func17, Tryd.ntmps17
  go_wp2_with (first
    | ((with_reducible refine gBox ?_); first | (refine bxA hO rfl ?_; clear hO; intro bx ww hO) | (refine bx1 hO rfl rfl ?_; clear hO; intro bx ww hO))
    | ((with_reducible refine gAlloc ?_); refine own_alloc hO _ _ iwz ?_; clear hO; intro bt ww hO)
    | ((with_reducible refine gLoad (T := 24) ?_); first | refine ldX hO 1 rfl rfl (tA rfl) (tS rfl) ?_ | refine ldX hO 0 rfl rfl (tA rfl) (tS rfl) ?_ | refine ldA hO 1 u.C rfl rfl (tA rfl) (tS rfl) rfl ?_ | refine ldX hO 2 rfl rfl (tA rfl) (tS rfl) ?_)
    | ((with_reducible refine gLoad (T := 25) ?_); first | refine ldC hO 0 rfl rfl (tA rfl) rfl ?_ | refine ldC hO 1 rfl rfl (tA rfl) rfl ?_)
    | ((with_reducible refine gLoad (T := 28) ?_); first | refine ldC hO 0 rfl rfl (tA rfl) rfl ?_ | refine ldC hO 1 rfl rfl (tA rfl) rfl ?_)
    | ((with_reducible refine gStore (T := 24) ?_); refine stX hO 0 rfl rfl rfl rfl rfl (tS rfl) ?_; clear hO; intro ww hO)
    | (go_at_call 23; refine (G1.out _ (hO.rd HR.out)).mono ?_; rintro e ww ⟨rfl, hb⟩; replace hO := hO.call hb; clear hb)
    | ((with_reducible refine gNeq (t := 24) ?_); refine neD v_egW rfl rfl ?_; (with_reducible refine ⟨_, HQ.out, ?_⟩))
    | (go_at_call 30; refine (G2.out _ (hO.rd HR.out)).mono ?_; rintro e ww ⟨a3, c3, rfl, hb, hr⟩; replace hO := hO.addRow hb hr; clear hb hr))
  go_ret2
  exact ⟨a3, c3, rfl, hO.below, hO.row 0 rfl⟩

set_option maxHeartbeats 4000000 in
set_option maxRecDepth 100000 in
theorem rseal_ok (key : St) (n : BitVec 64) (a : Option Addr) (len cap : Nat) (b : List (BitVec 8)) (w : World) (hR : Rd w 1 a len cap (u8s b)) (hl : len ≤ 65536) (hn : n ≠ 18446744073709551615#64) :
    Calls Tryd.prog 16 #[.agg (ringC key n), .slice a len cap] w fun e w' => ∃ a' c', e = .returned (.tuple #[.agg (boxC n (.slice a' len c') (key.tag n (key.hide n b))), .agg (ringC key (n + 1#64)), .int .i64 0]) ∧ Below w.heap.size w w' ∧ w'.ownsRow w.heap.size 5 1 (.slice a' len c') len (u8s (key.hide n b)) := by
  have hO := Own.start w
  obtain ⟨t, ht⟩ : ∃ t, key.hide n b = t := ⟨_, rfl⟩
  obtain ⟨u, hu⟩ : ∃ u, key.tag n t = u := ⟨_, rfl⟩
  have g1 := fun w hR => rhidden_ok key n a len cap b w hR hl
  have g2 := fun w a c hR => rtag_ok key n a len c t w hR hl
  rw [ht] at g1
  rw [hu] at g2
  rw [ht, hu]
  have nlt := n.isLt
  have hne : n.toNat ≠ 18446744073709551615 := fun h => hn (BitVec.eq_of_toNat_eq h)
  have d1 : ((n.toNat : Int) == 18446744073709551615) = false := by simp; omega
  have d0 : decide ((65536 : Int) < (len : Int)) = false := by simp; omega
  obtain ⟨n1, hn1⟩ : ∃ n1, n + 1#64 = n1 := ⟨_, rfl⟩
  have e1 : IntKind.u64.wrap ((n.toNat : Int) + 1) = (n1.toNat : Int) := by rw [wrap_u64', ← hn1, BitVec.toNat_add]; simp
  rw [hn1]
  have G1 := Lib.hid g1
  have G2 := Lib.hid g2
  have HR := Lib.hid hR
  clear hR g1 g2 ht hu hn hne nlt hn1
  generalize hW : w = wn at hO HR ⊢
  clear hW w
  go_enter Tryd.func16, Tryd.ntmps16
  go_wp2_with (first
    | ((with_reducible refine gBox ?_); first | (refine bxA hO rfl ?_; clear hO; intro br ww hO) | (refine bx1 hO rfl rfl ?_; clear hO; intro br ww hO))
    | ((with_reducible refine gAlloc (T := 31) ?_); refine own_alloc hO _ _ ibz ?_; clear hO; intro bx ww hO)
    | ((with_reducible refine gAlloc (T := 27) ?_); refine own_alloc hO _ _ irz ?_; clear hO; intro bn ww hO)
    | ((with_reducible refine gAlloc (T := 24) ?_); refine own_alloc hO _ _ iwz ?_; clear hO; intro bt ww hO)
    | ((with_reducible refine gLoad (T := 24) ?_); first | refine ldA hO 2 key.C rfl rfl (tA rfl) (tS rfl) rfl ?_ | refine ldA hO 3 key.C rfl rfl (tA rfl) (tS rfl) rfl ?_)
    | ((with_reducible refine gLoad (T := 25) ?_); first | refine ldC hO 2 rfl rfl (tA rfl) rfl ?_ | refine ldC hO 3 rfl rfl (tA rfl) rfl ?_)
    | (go_at_call 30; refine (G1.out _ (hO.rd HR.out)).mono ?_; rintro e ww ⟨a3, c3, rfl, hb, hr⟩; replace hO := hO.addRow hb hr; clear hb hr)
    | (go_at_call 23; refine (G2.out _ _ _ (hO.rdAt 0 rfl)).mono ?_; rintro e ww ⟨rfl, hb⟩; replace hO := hO.call hb; clear hb)
    | ((with_reducible refine gStore (T := 24) ?_); refine stX hO 0 rfl rfl rfl rfl rfl (tS rfl) ?_; clear hO; intro ww hO))
  replace hO : Own wn ww [.blk bt (.cells u.C 24 (0,0)), .sl 5 1 (.slice a3 len c3) len (u8s t), .blk bn (.cells (ringC St.zero 0#64) 27 (0,0)), .blk bx (.cells (boxC 0#64 (.slice none 0 0) St.zero) 31 (0,0)), .blk br (.cells (ringC key n) 27 (0,0))] := hO
  refine wp_region_plan (fun w' => w'.heap[bt]? = some (.cells u.C 24 (0,0)) ∧ w'.heap[br]? = some (.cells (ringC key n) 27 (0,0))) (fun op => match op with | .load _ _ => true | _ => false) (.one 0 (.one 1 (.one 2 (.one 3 (.br 4 (.one 5 (.one 6 (.one 7 (.one 8 (.one 9 (.br 10 (.one 11 (.one 12 (.one 13 (.done)))) (.one 11 (.one 10 (.one 12 (.one 13 (.done))))))))))) (.one 5 (.br 4 (.one 6 (.one 7 (.one 8 (.one 9 (.br 10 (.one 11 (.one 12 (.one 13 (.done)))) (.one 11 (.one 10 (.one 12 (.one 13 (.done)))))))))) (.one 6 (.br 4 (.one 7 (.one 8 (.one 9 (.br 10 (.one 11 (.one 12 (.one 13 (.done)))) (.one 11 (.one 10 (.one 12 (.one 13 (.done))))))))) (.one 7 (.br 4 (.one 8 (.one 9 (.br 10 (.one 11 (.one 12 (.one 13 (.done)))) (.one 11 (.one 10 (.one 12 (.one 13 (.done)))))))) (.one 8 (.br 4 (.one 9 (.br 10 (.one 11 (.one 12 (.one 13 (.done)))) (.one 11 (.one 10 (.one 12 (.one 13 (.done))))))) (.one 9 (.br 4 (.br 10 (.one 11 (.one 12 (.one 13 (.done)))) (.one 11 (.one 10 (.one 12 (.one 13 (.done)))))) (.one 10 (.one 4 (.one 11 (.one 12 (.one 13 (.done))))))))))))))))))))) (by kernel_rfl) (by kernel_rfl) ⟨hO.drew.blk 0 rfl, hO.drew.blk 4 rfl⟩ ?_
  dsimp only [Plan.withOps, planAt]
  replace hO := hO.drew
  generalize World.drew _ = wd at hO ⊢
  go_wp2_with (first
    | (((with_reducible refine gIL ?_); first | refine wpI_ldS (fun w' hS => hS.1) rfl rfl (tA rfl) (tS rfl) ?_ | refine wpI_ldpS key.C.toList (fun w' hS => hS.2) rfl rfl (tA rfl) (tS rfl) rfl ?_ | refine wpI_ldcS (fun w' hS => hS.2) rfl rfl (tA rfl) rfl ?_); first | (refine wpI_act (by simp only [Act.put, List.setIfInBounds_toArray, List.set_cons_succ, List.set_cons_zero]; rfl) ?_) | skip)
    | ((with_reducible refine gBld (T := 31) ?_); refine own_bld (boxC n (.slice a3 len c3) u) (by kernel_rfl) ?_)
    | ((with_reducible refine gBld (T := 27) ?_); refine own_bld (ringC key n1) (by kernel_rfl) ?_)
    | ((with_reducible refine gStore (T := 31) ?_); refine stX hO 3 rfl rfl rfl rfl rfl (tS rfl) ?_; clear hO; intro ww hO)
    | ((with_reducible refine gStore (T := 27) ?_); refine stX hO 2 rfl rfl rfl rfl rfl (tS rfl) ?_; clear hO; intro ww hO)
    | ((with_reducible refine wpO_one ?_ ?_); exact ⟨hO.blk 0 rfl, hO.blk 4 rfl⟩) | ((with_reducible refine wpO_br ?_ ?_ ?_); exact ⟨hO.blk 0 rfl, hO.blk 4 rfl⟩) | ((with_reducible refine wpI_nilS ?_ ?_); exact ⟨hO.blk 0 rfl, hO.blk 4 rfl⟩) | (with_reducible refine wpO_done ?_)
    | ((with_reducible refine gI ?_); refine wpI_step rfl rfl (by kernel_rfl) ?_; intro K hK; have HK := Lib.hid hK; clear hK) | ((with_reducible refine gI ?_); first | refine wpI_skip rfl ?_ | refine wpI_want rfl ?_) | ((with_reducible refine gOnlyK HK.out ?_ ?_); exact ⟨hO.blk 0 rfl, hO.blk 4 rfl⟩; clear HK K; first | (refine wpI_act (by simp only [Act.put, List.setIfInBounds_toArray, List.set_cons_succ, List.set_cons_zero]; rfl) ?_) | skip) | (with_reducible refine wpI_nil ?_))
  all_goals
    refine bodyPost_ret (res_cct rfl _ _ bx bn 31 27 (boxC n (.slice a3 len c3) u) (ringC key n1) (0,0) (0,0) _ _ rfl (hO.blk 3 rfl) Tryd.underlying31 rfl (ibs _ _ _) rfl (hO.blk 2 rfl) Tryd.underlying27 rfl (irs _ _)) rfl ⟨a3, c3, rfl, hO.below, hO.row 1 rfl⟩
end Go.Proofs.YtekiloagckkneaaDoor
