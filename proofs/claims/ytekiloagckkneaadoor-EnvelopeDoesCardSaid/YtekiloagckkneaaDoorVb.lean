/- Walks: envelope.Bytes, envelope.From. -/
import Derived.Test.YtekiloagckkneaaDoorVg
import Derived.Test.YtekiloagckkneaaDoorVn
namespace Go.Proofs.YtekiloagckkneaaDoor
open Go.RowKit Go.Own Go.Bv Go.Ord Go.Eq

theorem ebb : Elem Tryd.prog 41 28 (.slice none 0 0) 1 24 := ⟨Tryd.underlying41, by kernel_rfl, rfl, by decide⟩
theorem rd_nil (w : World) : Rd w 1 none 0 0 (u8s []) := ⟨rfl, Nat.le_refl _, by simp [maxLen], fun _ => ⟨rfl, rfl⟩, fun h => absurd rfl h⟩

set_option maxHeartbeats 4000000 in
set_option maxRecDepth 100000 in
theorem bytes_ok (n : BitVec 64) (u : St) (a : Option Addr) (len cap : Nat) (t : List (BitVec 8)) (w : World) (hR : Rd w 1 a len cap (u8s t)) (hl : len ≤ 65536) :
    Calls Tryd.prog 18 #[.agg (boxC n (.slice a len cap) u)] w fun e w' => ∃ a' c', e = .returned (.tuple #[.slice a' (8 + 16 + len) c', .int .i64 0]) ∧ Below w.heap.size w w' ∧ w'.ownsRow w.heap.size 5 1 (.slice a' (8 + 16 + len) c') (8 + 16 + len) (u8s (eight n ++ u.octs ++ t)) := by
  have hO := Own.start w
  have HR := Lib.hid hR
  have d1 : decide ((65536 : Int) < (len : Int)) = false := by simp; omega
  have g1 := fun w => head_calls n none 0 0 [] w (rd_nil w) (by omega)
  rw [List.append_nil] at g1
  have G1 := Lib.hid g1
  have G2 := Lib.hid (octets_calls u)
  have e8 := eight_length n
  obtain ⟨E8, hE8⟩ : ∃ E8, eight n = E8 := ⟨_, rfl⟩
  obtain ⟨UO, hUO⟩ : ∃ UO, u.octs = UO := ⟨_, rfl⟩
  rw [hE8] at G1 ⊢
  rw [hUO] at G2 ⊢
  clear hR g1 e8 hE8 hUO
  generalize hW : w = wn at hO HR ⊢
  clear hW w
  go_enter Tryd.func18, Tryd.ntmps18
  go_wp2_with (first
    | ((with_reducible refine gBox ?_); first | (refine bxA hO rfl ?_; clear hO; intro b ww hO) | (refine bx1 hO rfl rfl ?_; clear hO; intro b ww hO))
    | ((with_reducible refine gLoad (T := 28) ?_); refine ldC hO 0 rfl rfl (tA rfl) rfl ?_))
  refine wp_region_textS (fun w' => Own wn w' [.blk b (.cells (boxC n (.slice a len cap) u) 31 (0,0))]) (fun op => match op with | .load _ _ => true | _ => false) (by kernel_rfl) (by kernel_rfl) hO.drew ?_
  replace hO := hO.drew
  generalize World.drew _ = wd at hO ⊢
  go_wp2_with (first
    | (((with_reducible refine gIL ?_); first | refine wpI_ldcS (fun w' hS => hS.blk 0 rfl) rfl rfl (tA rfl) rfl ?_); first | (refine wpI_act (by simp only [Act.put, List.setIfInBounds_toArray, List.set_cons_succ, List.set_cons_zero]; rfl) ?_) | skip)
    | ((with_reducible refine gIL ?_); refine wpI_ldpS u.C.toList (fun w' hS => hS.blk 0 rfl) rfl rfl (tA rfl) (tS rfl) rfl ?_; first | (refine wpI_act (by simp only [Act.put, List.setIfInBounds_toArray, List.set_cons_succ, List.set_cons_zero]; rfl) ?_) | skip)
    | (go_at_call 27; refine (G1.out _).mono ?_; rintro e ww ⟨a1, c1, rfl, hb, hr⟩; replace hO := hO.addRow hb hr; clear hb hr)
    | (go_at_call 32; refine (G2.out _).mono ?_; rintro e ww ⟨g2, rfl, hb, hr⟩; replace hO := hO.addRow hb hr; clear hb hr)
    | ((with_reducible refine gBuild ?_); refine own_build hO 41 3 _ ebb #[.slice a1 8 c1, .slice (some ⟨g2, 0, none⟩) 16 16, .slice a len cap] (by omega) (by omega) (by simp [go_sem, Instr.fill]) rfl ?_; clear hO; intro g3 ww hO)
    | (go_at_call 31; refine (concat3_calls _ _ _ _ _ _ _ _ _ _ _ E8 UO t _ (hO.rdAt 0 rfl) (hO.rdAt 2 rfl) (hO.rdAt 1 rfl) (hO.rd HR.out) (by omega) (by omega) (by omega)).mono ?_; rintro e ww ⟨a4, c4, rfl, hb, hr⟩; replace hO := hO.addRow hb hr; clear hb hr)
    | ((with_reducible refine gI ?_); refine wpI_step rfl rfl (by kernel_rfl) ?_; intro K hK; have HK := Lib.hid hK; clear hK) | ((with_reducible refine gI ?_); first | refine wpI_skip rfl ?_ | refine wpI_want rfl ?_) | ((with_reducible refine gOnlyK HK.out ?_ ?_); exact hO.sub (by repeat first | exact List.Sublist.refl _ | apply List.Sublist.cons); clear HK K; first | (refine wpI_act (by simp only [Act.put, List.setIfInBounds_toArray, List.set_cons_succ, List.set_cons_zero]; rfl) ?_) | skip) | (with_reducible refine wpI_nil ?_))
  go_ret2
  exact ⟨_, _, rfl, hO.below, hO.row 0 rfl⟩

set_option maxHeartbeats 4000000 in
set_option maxRecDepth 100000 in
theorem from_no (a : Option Addr) (len cap : Nat) (w : World) (hl : len < 24) :
    Calls Tryd.prog 20 #[.slice a len cap] w fun e w' => e = .returned (.tuple #[.agg (boxC 0#64 (.slice none 0 0) St.zero), .int .i64 2]) ∧ Below w.heap.size w w' := by
  have hO := Own.start w
  have d1 : decide ((len : Int) < 24) = true := by simp; omega
  generalize hW : w = wn at hO ⊢
  clear hW w
  go_enter Tryd.func20, Tryd.ntmps20
  go_wp2_with (first
    | ((with_reducible refine gAlloc (T := 31) ?_); refine own_alloc hO _ _ ibz ?_; clear hO; intro bx ww hO)
    | ((with_reducible refine gLoad (T := 31) ?_); refine ldX hO 0 rfl rfl (tA rfl) (tS rfl) ?_)
    | ((with_reducible refine gStore (T := 31) ?_); refine stX hO 0 rfl rfl rfl rfl rfl (tS rfl) ?_; clear hO; intro ww hO))
  refine bodyPost_ret (res_ct rfl _ _ bx 31 (boxC 0#64 (.slice none 0 0) St.zero) (0,0) _ rfl (hO.blk 0 rfl) Tryd.underlying31 rfl (ibs _ _ _)) rfl ⟨rfl, hO.below⟩

set_option maxHeartbeats 8000000 in
set_option maxRecDepth 100000 in
theorem from_ok (a : Option Addr) (len cap : Nat) (bs : List (BitVec 8)) (w : World) (hR : Rd w 1 a len cap (u8s bs)) (h1 : 24 ≤ len) (h2 : len ≤ 65560) :
    Calls Tryd.prog 20 #[.slice a len cap] w fun e w' => ∃ a' c', e = .returned (.tuple #[.agg (boxC (num bs 8) (.slice a' (len - 24) c') (St.of ((bs.drop 8).take 16))), .int .i64 0]) ∧ Below w.heap.size w w' ∧ w'.ownsRow w.heap.size 5 1 (.slice a' (len - 24) c') (len - 24) (u8s (bs.drop 24)) := by
  have hO := Own.start w
  have hlen : bs.length = len := by have := hR.len; rw [u8s_length] at this; omega
  obtain ⟨g0, off, rfl⟩ := hR.place (by omega)
  have d1 : decide ((len : Int) < 24) = false := by simp; omega
  have d2 : decide ((65560 : Int) < (len : Int)) = false := by simp; omega
  have hle := hR.le
  have hmx := hR.max
  unfold maxLen at hmx
  have dc8 : ¬ (cap < 8) := by omega
  have dc24 : ¬ (cap < 24) := by omega
  have r2 := hR.cut 8 16 (by omega)
  have r3 := hR.cut 24 (len - 24) (by omega)
  have eb2 : ((u8s bs).drop 8).take 16 = u8s ((bs.drop 8).take 16) := by unfold u8s; rw [List.map_take, List.map_drop]
  have eb3 : ((u8s bs).drop 24).take (len - 24) = u8s (bs.drop 24) := by rw [List.take_of_length_le (by rw [List.length_drop, u8s_length]; omega)]; unfold u8s; rw [List.map_drop]
  rw [eb2] at r2
  rw [eb3] at r3
  have x2 : ofT ((bs.drop 8).take 16) = St.of ((bs.drop 8).take 16) := by unfold ofT; rw [if_pos (by simp; omega)]
  have y2 : ofE ((bs.drop 8).take 16) = 0 := by unfold ofE; rw [if_pos (by simp; omega)]
  have g2 := fun w h => of_calls (some ⟨g0, off + 8, none⟩) 16 (cap - 8) ((bs.drop 8).take 16) w h
  rw [x2, y2] at g2
  have g3 := fun w h => clone_calls (some ⟨g0, off + 24, none⟩) (len - 24) (cap - 24) (bs.drop 24) w h (by omega)
  have r4 : cap = 24 → ∀ w, Rd w 1 (some ⟨g0, off, none⟩) (len - 24) 0 (u8s (bs.drop 24)) := fun hc w =>
    ⟨by rw [u8s_length, List.length_drop, hlen, Nat.mul_one], by omega, by simp [maxLen], (fun h => by cases h), fun hne => absurd (by omega) hne⟩
  have g4 := fun w h => clone_calls (some ⟨g0, off, none⟩) (len - 24) 0 (bs.drop 24) w h (by omega)
  have R4 := Lib.hid r4
  have G4 := Lib.hid g4
  have HG : ∀ k (h : k < 8), Hid (∃ c : BitVec 8, (u8s bs)[k]? = some (.int .u8 (c.toNat : Int)) ∧ ∀ u, u = num bs k → num bs (k + 1) = Go.Bva.bor64 u (Go.Bva.bshl64 (Go.Bva.bw64 c) (8 * k))) := fun k h => by
    refine ⟨bs[k]'(by omega), u8s_get bs k (by omega), ?_⟩
    rintro u rfl
    show num bs k ||| ((bs.getD k 0#8).setWidth 64 <<< (8 * k)) = _
    rw [List.getD_eq_getElem?_getD, List.getElem?_eq_getElem (by omega)]
    rfl
  obtain ⟨u, hu⟩ : ∃ u, St.of ((bs.drop 8).take 16) = u := ⟨_, rfl⟩
  rw [hu] at g2 ⊢
  obtain ⟨nn8, h8⟩ : ∃ x, num bs 8 = x := ⟨_, rfl⟩
  rw [h8]
  have H8 := Lib.hid h8
  have G2 := Lib.hid g2
  have G3 := Lib.hid g3
  have HR := Lib.hid hR
  have R2 := Lib.hid r2
  have R3 := Lib.hid r3
  clear hR r2 r3 r4 g2 g3 g4 x2 y2 eb2 eb3 hu hlen h8
  generalize hW : w = wn at hO HR R2 R3 ⊢
  clear hW w
  go_enter Tryd.func20, Tryd.ntmps20
  go_wp2_with (first
    | ((with_reducible refine gAlloc (T := 31) ?_); refine own_alloc hO _ _ ibz ?_; clear hO; intro bx ww hO))
  replace hO : Own wn ww [.blk bx (.cells (boxC (num bs 0) (.slice none 0 0) St.zero) 31 (0,0))] := hO
  go_loopg [4, 5, 19] 8 (fun m s4 s5 c wr => ∃ k : Nat, m = 8 - k ∧ k ≤ 8 ∧ c = .int .i64 k ∧ Own wn wr [.blk bx (.cells (boxC (num bs k) (.slice none 0 0) St.zero) 31 (0,0))])
  case atStart => exact ⟨0, rfl, by omega, rfl, hO⟩
  case round =>
    obtain ⟨k, rfl, hk, rfl, hO1⟩ := hrel
    clear hO
    have hO := hO1
    clear hO1
    by_cases hlt : k < 8
    · have hb0 : decide ((k : Int) < 8) = true := by simp; omega
      obtain ⟨c, hc, hn⟩ := (HG k hlt).out
      have HV := Lib.hid hc
      obtain ⟨v, hv⟩ : ∃ v, num bs k = v := ⟨_, rfl⟩
      have HN := Lib.hid (hn v hv.symm)
      rw [hv] at hO
      clear hc hn hv
      obtain ⟨q, hq⟩ : ∃ q, q = k := ⟨k, rfl⟩
      have HQ := Lib.hid hq
      clear hq hb0
      obtain rfl | rfl | rfl | rfl | rfl | rfl | rfl | rfl : k = 0 ∨ k = 1 ∨ k = 2 ∨ k = 3 ∨ k = 4 ∨ k = 5 ∨ k = 6 ∨ k = 7 := by omega
      all_goals
        go_wp2_with ((with_reducible refine gLoad (T := 5) ?_); refine ld_rd (hO.rd HR.out) rfl (HV.out) (tA rfl) ?_)
        refine wp_region_text (by kernel_rfl) (by kernel_rfl) ?_
        replace hO := hO.drew
        generalize World.drew _ = wd at hO ⊢
        go_wp2_with (first
          | ((with_reducible refine gLoad (T := 25) ?_); refine ldC hO 0 rfl rfl (tA rfl) rfl ?_)
          | ((with_reducible refine Go.Bva.gCnv ?_); refine Go.Bva.cnv_8_64 Tryd.underlying5 Tryd.underlying25 rfl ?_)
          | ((with_reducible refine Go.Bva.gBin (op := .shl) ?_); refine Go.Bva.shl_u64 rfl rfl (by decide) ?_)
          | ((with_reducible refine Go.Bva.gBin (op := .or) ?_); refine Go.Bva.or_u64 rfl rfl ?_)
          | ((with_reducible refine gStore (T := 25) ?_); refine stC hO 0 rfl rfl rfl (ltb rfl) rfl (tS rfl) ?_; clear hO; intro ww hO)
          | ((with_reducible refine gI ?_); refine wpI_step rfl rfl (by kernel_rfl) ?_; intro K hK; have HK := Lib.hid hK; clear hK) | ((with_reducible refine gI ?_); first | refine wpI_skip rfl ?_ | refine wpI_want rfl ?_) | ((with_reducible refine gOnlyK0 HK.out ?_); clear HK K; first | (refine wpI_act (by simp only [Act.put, List.setIfInBounds_toArray, List.set_cons_succ, List.set_cons_zero]; rfl) ?_) | skip) | (with_reducible refine wpI_nil ?_))
        go_roundg (8 - (q + 1))
        case measure => rw [HQ.out]; omega
        case rel =>
          refine ⟨q + 1, rfl, by rw [HQ.out]; omega, by rw [HQ.out]; go_num, ?_⟩
          rw [HQ.out, HN.out]
          exact hO
    · obtain rfl : k = 8 := by omega
      rw [H8.out] at hO
      go_wp2_with (first
        | (go_at_call 35; refine (G2.out _ (hO.rd R2.out)).mono ?_; rintro e ww ⟨rfl, hb⟩; replace hO := hO.call hb; clear hb)
        | ((with_reducible refine gStore (T := 24) ?_); refine stP hO 0 rfl rfl rfl rfl rfl (tS rfl) rfl ?_; clear hO; intro ww hO)
        | (go_at_call 36; (with_reducible refine gCall #[.slice _ _ 0] ?_); refine (G4.out _ (R4.out (by omega) _)).mono ?_; rintro e ww ⟨a4, c4, rfl, hb, hr⟩; replace hO := hO.addRow hb hr; clear hb hr)
        | (go_at_call 36; refine (G3.out _ (hO.rd R3.out)).mono ?_; rintro e ww ⟨a4, c4, rfl, hb, hr⟩; replace hO := hO.addRow hb hr; clear hb hr)
        | ((with_reducible refine gStore (T := 28) ?_); refine stC hO 1 rfl rfl rfl (ltb rfl) rfl (tS rfl) ?_; clear hO; intro ww hO)
        | ((with_reducible refine gLoad (T := 31) ?_); refine ldX hO 1 rfl rfl (tA rfl) (tS rfl) ?_)
        | ((with_reducible refine gStore (T := 31) ?_); refine stX hO 1 rfl rfl rfl rfl rfl (tS rfl) ?_; clear hO; intro ww hO))
      all_goals refine bodyPost_ret (res_ct rfl _ _ bx 31 (boxC nn8 (.slice a4 (len - 24) c4) u) (0,0) _ rfl (hO.blk 1 rfl) Tryd.underlying31 rfl (ibs _ _ _)) rfl ⟨_, _, rfl, hO.below, hO.row 0 rfl⟩
end Go.Proofs.YtekiloagckkneaaDoor
