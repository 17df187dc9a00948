/- The walk of EnvelopeStream. -/
import Derived.Test.YtekiloagckkneaaDoorVt
namespace Go.Proofs.YtekiloagckkneaaDoor
open Go.RowKit Go.Own Go.Bv Go.Ord Go.Eq

set_option maxHeartbeats 4000000 in
set_option maxRecDepth 100000 in
theorem vstr_in (key : St) (n : BitVec 64) (a1 : Option Addr) (n1 c1 : Nat) (bs : List (BitVec 8)) (mo : Nat) (w : World) (hR1 : Rd w 1 a1 n1 c1 (u8s bs)) (h1 : n1 ≤ 200) (hn : n ≠ 18446744073709551615#64) (hmo : mo < 256) (hT : Turns w) :
    Calls Tryd.prog 5 #[.agg (ringC key n), .slice a1 n1 c1, .int .u8 (mo : Int)] w fun e w' => e = .returned (.bool true) ∧ Below w.heap.size w w' := by
  have hO := Own.start w
  have d1 : decide ((200 : Int) < (n1 : Int)) = false := by simp; omega
  have la : bs.length = n1 := by have := hR1.len; rw [u8s_length] at this; omega
  have hget := fun i (h : i < bs.length) => St.hide_get (k := key) (n := n) mo h
  obtain ⟨t, ht⟩ : ∃ t, key.hide n bs = t := ⟨_, rfl⟩
  obtain ⟨u, hu⟩ : ∃ u, key.tag n t = u := ⟨_, rfl⟩
  obtain ⟨X, hX⟩ : ∃ X, key.stream n (n1 + mo) = X := ⟨_, rfl⟩
  have hXl : X.length = n1 + mo := by rw [← hX, St.stream_length]
  have HG : ∀ i (h : i < n1), Hid (∃ x y z : BitVec 8, (u8s bs)[i]? = some (.int .u8 (x.toNat : Int)) ∧ (u8s X)[i]? = some (.int .u8 (y.toNat : Int)) ∧ (u8s t)[i]? = some (.int .u8 (z.toNat : Int)) ∧ z = x ^^^ y) := fun i h => by
    have hb : i < bs.length := by omega
    have h2 := hget i hb
    simp only [la, hX, ht] at h2
    refine ⟨bs[i], X[i]'(by omega), _, u8s_get bs i hb, u8s_get X i (by omega), ?_, rfl⟩
    unfold u8s
    rw [List.getElem?_map, h2]; rfl
  have g1 := fun w hR hT => seal_ok key n a1 n1 c1 bs w hR (by omega) hn hT
  have g2 := fun w hT => stream_ok key n (n1 + mo) (by omega) w hT
  rw [ht, hu] at g1
  rw [hX, show ((n1 + mo : Nat) : Int) = (n1 : Int) + (mo : Int) by omega] at g2
  unfold BkRet at g2
  have G1 := Lib.hid g1
  have G2 := Lib.hid g2
  have HR1 := Lib.hid hR1
  have HT := Lib.hid hT
  have m0 : (0 : Int) ≤ (mo : Int) := by omega
  have mL : (mo : Int) < 256 := by omega
  clear hR1 hT g1 g2 ht hu hX hXl la hget hn
  generalize hW : w = wn at hO HR1 HT ⊢
  clear hW w
  go_enter Tryd.func5, Tryd.ntmps5
  go_wp2_with (first
    | ((with_reducible refine gBox ?_); first | (refine bxA hO rfl ?_; clear hO; intro b ww hO) | (refine bx1 hO rfl rfl ?_; clear hO; intro b ww hO))
    | ((with_reducible refine gG ?_); refine wpList_want rfl ?_)
    | ((with_reducible refine gAlloc (T := 31) ?_); refine own_alloc hO _ _ ibz ?_; clear hO; intro bx ww hO)
    | ((with_reducible refine gAlloc (T := 27) ?_); refine own_alloc hO _ _ irz ?_; clear hO; intro bn ww hO)
    | (go_at_call 9; refine (vlive_calls _ (HT.out.own hO)).mono ?_; rintro e ww ⟨rfl, hb⟩; replace hO := hO.call hb; clear hb)
    | ((with_reducible refine gLoad (T := 27) ?_); refine ldX hO 0 rfl rfl (tA rfl) (tS rfl) ?_)
    | ((with_reducible refine gStore (T := 31) ?_); refine stX hO 1 rfl rfl rfl rfl rfl (tS rfl) ?_; clear hO; intro ww hO)
    | ((with_reducible refine gStore (T := 27) ?_); refine stX hO 0 rfl rfl rfl rfl rfl (tS rfl) ?_; clear hO; intro ww hO)
    | ((with_reducible refine gLoad (T := 24) ?_); refine ldA hO 3 key.C rfl rfl (tA rfl) (tS rfl) rfl ?_)
    | ((with_reducible refine gLoad (T := 25) ?_); refine ldC hO 3 rfl rfl (tA rfl) rfl ?_)
    | ((with_reducible refine gLoad (T := 28) ?_); refine ldC hO 2 rfl rfl (tA rfl) rfl ?_)
    | (go_at_call 10; refine (G1.out _ (hO.rd HR1.out) (HT.out.own hO)).mono ?_; rintro e ww ⟨g, C, rfl, hb, hh, hC⟩; replace hO := hO.add hb hh; clear hb hh)
    | (go_at_call 14; refine (G2.out _ (HT.out.own hO)).mono ?_; rintro e ww ⟨g2, C2, rfl, hb, hh, hC2⟩; replace hO := hO.add hb hh; clear hb hh))
  replace hO : Own wn _ [.blk g2 (.cells C2 5 (0,0)), .blk bn (.cells (ringC key (n + 1#64)) 27 (0,0)), .blk bx (.cells (boxC n (.slice (some ⟨g, 0, none⟩) n1 n1) u) 31 (0,0)), .blk g (.cells C 5 (0,0)), .blk b (.cells (ringC key n) 27 (0,0))] := hO
  have HC := Lib.hid hC
  have HC2 := Lib.hid hC2
  clear hC hC2
  go_loopg [13, 14, 73] n1 (fun m s13 s14 c wr => ∃ k : Nat, m = n1 - k ∧ k ≤ n1 ∧ c = .int .i64 k ∧ Own wn wr [.blk g2 (.cells C2 5 (0,0)), .blk bn (.cells (ringC key (n + 1#64)) 27 (0,0)), .blk bx (.cells (boxC n (.slice (some ⟨g, 0, none⟩) n1 n1) u) 31 (0,0)), .blk g (.cells C 5 (0,0)), .blk b (.cells (ringC key n) 27 (0,0))])
  case atStart => exact ⟨0, rfl, by omega, rfl, hO⟩
  case round =>
    obtain ⟨k, rfl, hk, rfl, hO1⟩ := hrel
    clear hO
    have hO := hO1
    clear hO1
    by_cases hlt : k < n1
    · have hb0 : decide ((k : Int) < (n1 : Int)) = true := by simp; omega
      obtain ⟨x, y, z, hx, hy, hz, hxyz⟩ := (HG k hlt).out
      have e := xor8 x y
      rw [← hxyz] at e
      obtain ⟨b0, off, rfl⟩ := HR1.out.place (by omega)
      have HX := Lib.hid hx
      have HY : Hid (C2.toList[k]? = some (.int .u8 (y.toNat : Int))) := by
        have h1 := congrArg (·[k]?) HC2.out
        simp only [List.getElem?_take_of_lt (show k < n1 + mo by omega)] at h1
        exact h1.trans hy
      have HZ : Hid (C.toList[k]? = some (.int .u8 (z.toNat : Int))) := by
        have h1 := congrArg (·[k]?) HC.out
        simp only [List.getElem?_take_of_lt hlt] at h1
        exact h1.trans hz
      have hb1 : decide ((k : Int) < (n1 : Int) + (mo : Int)) = true := by simp; omega
      clear hx hy hz hxyz
      go_wp2_with (first
        | ((with_reducible refine gLoad (T := 5) ?_); refine ld_rd (hO.rd HR1.out) rfl (HX.out) (tA rfl) ?_))
      refine wp_region_text (by kernel_rfl) (by kernel_rfl) ?_
      replace hO := hO.drew
      generalize World.drew _ = wd at hO ⊢
      go_wp2_with (first
        | ((with_reducible refine gLoad (T := 28) ?_); refine ldC hO 2 rfl rfl (tA rfl) rfl ?_)
        | ((with_reducible refine gLoad (T := 5) ?_); first | refine ldC hO 3 rfl rfl (tA rfl) HZ.out ?_ | refine ldC hO 0 rfl rfl (tA rfl) HY.out ?_)
        | ((with_reducible refine gI ?_); refine wpI_step rfl rfl (by kernel_rfl) ?_; intro K hK; have HK := Lib.hid hK; clear hK) | ((with_reducible refine gI ?_); first | refine wpI_skip rfl ?_ | refine wpI_want rfl ?_) | ((with_reducible refine gOnlyK0 HK.out ?_); clear HK K; first | (refine wpI_act (by simp only [Act.put, List.setIfInBounds_toArray, List.set_cons_succ, List.set_cons_zero]; rfl) ?_) | skip) | (with_reducible refine wpI_nil ?_))
      go_roundg (n1 - (k + 1))
      case measure => omega
      case rel => exact ⟨k + 1, rfl, by omega, by go_num, hO⟩
    · have hb0 : decide ((k : Int) < (n1 : Int)) = false := by simp; omega
      go_wp2
      go_ret
      exact ⟨rfl, hO.below⟩

set_option maxHeartbeats 2000000 in
set_option maxRecDepth 100000 in
theorem vstr_walk (key : St) (n : BitVec 64) (a1 : Option Addr) (n1 c1 : Nat) (bs : List (BitVec 8)) (mo : Nat) (w : World) (hR1 : Rd w 1 a1 n1 c1 (u8s bs)) (hmo : mo < 256) (hT : Turns w) :
    Calls Tryd.prog 5 #[.agg (ringC key n), .slice a1 n1 c1, .int .u8 (mo : Int)] w fun e w' => e = .returned (.bool true) ∧ Below w.heap.size w w' := by
  by_cases h1 : 200 < n1
  · have hO := Own.start w
    have d1 : decide ((200 : Int) < (n1 : Int)) = true := by simp; omega
    have HT := Lib.hid hT
    clear hR1 hT
    generalize hW : w = wn at hO HT ⊢
    clear hW w
    go_enter Tryd.func5, Tryd.ntmps5
    go_wp2_with (first
      | ((with_reducible refine gBox ?_); first | (refine bxA hO rfl ?_; clear hO; intro b ww hO) | (refine bx1 hO rfl rfl ?_; clear hO; intro b ww hO))
      | (go_at_call 9; refine (vlive_calls _ (HT.out.own hO)).mono ?_; rintro e ww ⟨rfl, hb⟩; replace hO := hO.call hb; clear hb))
    go_ret
    exact ⟨rfl, hO.below⟩
  · by_cases hn : n = 18446744073709551615#64
    · have hO := Own.start w
      have d1 : decide ((200 : Int) < (n1 : Int)) = false := by simp; omega
      have g1 := fun w hR hT => seal_full key n a1 n1 c1 bs w hR (by omega) hn hT
      obtain ⟨X, hX⟩ : ∃ X, key.stream n (n1 + mo) = X := ⟨_, rfl⟩
      have g2 := fun w hT => stream_ok key n (n1 + mo) (by omega) w hT
      rw [hX, show ((n1 + mo : Nat) : Int) = (n1 : Int) + (mo : Int) by omega] at g2
      unfold BkRet at g2
      have G1 := Lib.hid g1
      have G2 := Lib.hid g2
      have HR1 := Lib.hid hR1
      have HT := Lib.hid hT
      have m0 : (0 : Int) ≤ (mo : Int) := by omega
      have mL : (mo : Int) < 256 := by omega
      clear hR1 hT g1 g2 hX hn
      generalize hW : w = wn at hO HR1 HT ⊢
      clear hW w
      go_enter Tryd.func5, Tryd.ntmps5
      go_wp2_with (first
        | ((with_reducible refine gBox ?_); first | (refine bxA hO rfl ?_; clear hO; intro b ww hO) | (refine bx1 hO rfl rfl ?_; clear hO; intro b ww hO))
        | ((with_reducible refine gG ?_); refine wpList_want rfl ?_)
        | ((with_reducible refine gAlloc (T := 31) ?_); refine own_alloc hO _ _ ibz ?_; clear hO; intro bx ww hO)
        | ((with_reducible refine gAlloc (T := 27) ?_); refine own_alloc hO _ _ irz ?_; clear hO; intro bn ww hO)
        | (go_at_call 9; refine (vlive_calls _ (HT.out.own hO)).mono ?_; rintro e ww ⟨rfl, hb⟩; replace hO := hO.call hb; clear hb)
        | ((with_reducible refine gLoad (T := 27) ?_); refine ldX hO 0 rfl rfl (tA rfl) (tS rfl) ?_)
        | ((with_reducible refine gStore (T := 31) ?_); refine stX hO 1 rfl rfl rfl rfl rfl (tS rfl) ?_; clear hO; intro ww hO)
        | ((with_reducible refine gStore (T := 27) ?_); refine stX hO 0 rfl rfl rfl rfl rfl (tS rfl) ?_; clear hO; intro ww hO)
        | ((with_reducible refine gLoad (T := 24) ?_); refine ldA hO 2 key.C rfl rfl (tA rfl) (tS rfl) rfl ?_)
        | ((with_reducible refine gLoad (T := 25) ?_); refine ldC hO 2 rfl rfl (tA rfl) rfl ?_)
        | (go_at_call 10; refine (G1.out _ (hO.rd HR1.out) (HT.out.own hO)).mono ?_; rintro e ww ⟨rfl, hb⟩; replace hO := hO.call hb; clear hb)
        | (go_at_call 14; refine (G2.out _ (HT.out.own hO)).mono ?_; rintro e ww ⟨g2, C2, rfl, hb, hh, hC2⟩; replace hO := hO.add hb hh; clear hb hh))
      go_ret
      exact ⟨rfl, hO.below⟩
    · exact vstr_in key n a1 n1 c1 bs mo w hR1 (by omega) hn hmo hT
end Go.Proofs.YtekiloagckkneaaDoor
