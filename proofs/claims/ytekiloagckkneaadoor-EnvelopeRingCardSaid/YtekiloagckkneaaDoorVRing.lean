/- The walk of EnvelopeRing. -/
import Derived.Test.YtekiloagckkneaaDoorVt
import Derived.Test.YtekiloagckkneaaDoorPOctEq
import Derived.Test.YtekiloagckkneaaDoorVW
namespace Go.Proofs.YtekiloagckkneaaDoor
open Go.RowKit Go.Own Go.Bv Go.Ord Go.Eq

def up64 (n : BitVec 64) (k : Nat) : BitVec 64 := n + BitVec.ofNat 64 k
theorem up64_zero (n : BitVec 64) : up64 n 0 = n := by simp [up64]
theorem up64_succ (n : BitVec 64) (k : Nat) : up64 n k + 1#64 = up64 n (k + 1) := by
  unfold up64
  rw [BitVec.add_assoc, BitVec.ofNat_add]
theorem up64_nat (n : BitVec 64) (k : Nat) (hn : n.toNat ≤ 4611686018427387904) (hk : k ≤ 1000) : (up64 n k).toNat = n.toNat + k := by
  unfold up64
  rw [BitVec.toNat_add, BitVec.toNat_ofNat]
  omega

set_option maxHeartbeats 4000000 in
set_option maxRecDepth 100000 in
theorem ring_in (key : St) (n : BitVec 64) (a : Option Addr) (len cap : Nat) (ss : List Tb) (w : World) (hR : Rd w 1 a len cap (ss.map Tb.v)) (hs : ∀ x ∈ ss, Rd w 1 x.a x.n x.c (u8s x.b)) (hlen : len ≤ 20) (hn : n.toNat ≤ 4611686018427387904) (hT : Turns w) :
    Calls Tryd.prog 4 #[.agg (ringC key n), .slice a len cap] w fun e w' => e = .returned (.bool true) ∧ Below w.heap.size w w' := by
  have hO := Own.start w
  have hsl : ss.length = len := by have := hR.len; rw [List.length_map] at this; omega
  have d1 : decide ((20 : Int) < (len : Int)) = false := by simp; omega
  have d2 : decide ((4611686018427387904 : Int) < (n.toNat : Int)) = false := by simp; omega
  have HN := fun k (hk : k ≤ 20) => Lib.hid (up64_nat n k hn (by omega))
  have HR := Lib.hid hR
  have HS := Lib.hid hs
  have HSL := Lib.hid hsl
  have HT := Lib.hid hT
  have n0 := nn n
  clear hR hs hsl hT
  generalize hW : w = wn at hO HR HS HT ⊢
  clear hW w
  go_enter Tryd.func4, Tryd.ntmps4
  go_wp2_with (first
    | ((with_reducible refine gBox ?_); first | (refine bxA hO rfl ?_; clear hO; intro br ww hO) | (refine bx1 hO rfl rfl ?_; clear hO; intro br ww hO))
    | ((with_reducible refine gG ?_); refine wpList_want rfl ?_)
    | (go_at_call 9; refine (vlive_calls _ (HT.out.own hO)).mono ?_; rintro e ww ⟨rfl, hb⟩; replace hO := hO.call hb; clear hb)
    | ((with_reducible refine gLoad (T := 25) ?_); refine ldC hO 0 rfl rfl (tA rfl) rfl ?_)
    | ((with_reducible refine gLoad (T := 27) ?_); refine ldX hO 0 rfl rfl (tA rfl) (tS rfl) ?_)
    | ((with_reducible refine gAlloc (T := 27) ?_); refine own_alloc hO _ _ irz ?_; clear hO; intro bn ww hO)
    | ((with_reducible refine gStore (T := 27) ?_); refine stX hO 0 rfl rfl rfl rfl rfl (tS rfl) ?_; clear hO; intro ww hO))
  replace hO : Own wn ww [.blk bn (.cells (ringC key (up64 n 0)) 27 (0,0)), .blk br (.cells (ringC key n) 27 (0,0))] := by rw [up64_zero]; exact hO
  go_loopg [7, 8, 9, 10, 11, 12, 13, 27] len (fun m s7 s8 s9 s10 s11 s12 s13 c wr => ∃ k : Nat, m = len - k ∧ k ≤ len ∧ c = .int .i64 k ∧ Own wn wr [.blk bn (.cells (ringC key (up64 n k)) 27 (0,0)), .blk br (.cells (ringC key n) 27 (0,0))])
  case atStart => exact ⟨0, rfl, by omega, rfl, hO⟩
  case round =>
    obtain ⟨k, rfl, hk, rfl, hO1⟩ := hrel
    clear hO
    have hO := hO1
    clear hO1
    have hnk := (HN k (by omega)).out
    have HU := Lib.hid (up64_succ n k)
    obtain ⟨nk, hnk1⟩ : ∃ nk, up64 n k = nk := ⟨_, rfl⟩
    rw [hnk1] at hO hnk HU
    have e1 : IntKind.u64.wrap ((n.toNat : Int) + (k : Int)) = (nk.toNat : Int) := by rw [wrap_u64', hnk]; omega
    have hmax : nk ≠ 18446744073709551615#64 := fun h => by
      have := congrArg BitVec.toNat h
      rw [hnk] at this
      simp at this; omega
    clear hnk hnk1
    by_cases hlt : k < len
    · have hb0 : decide ((k : Int) < (len : Int)) = true := by simp; omega
      have hks : k < ss.length := by rw [HSL.out]; exact hlt
      obtain ⟨b0, off, rfl⟩ := HR.out.place (by omega)
      have HV : Hid ((ss.map Tb.v)[k]? = some (.slice ss[k].a ss[k].n ss[k].c)) := by show _ = _; simp [hks, Tb.v]
      have HX := Lib.hid (HS.out _ (List.getElem_mem hks))
      generalize ss[k] = x at *
      have hxl := Nat.le_trans HX.out.le HX.out.max
      unfold maxLen at hxl
      by_cases h60 : 60 < x.n
      · have d3 : decide ((60 : Int) < (x.n : Int)) = true := by simp; omega
        go_wp2_with (first
          | ((with_reducible refine gLoad (T := 28) ?_); refine ld_rd (hO.rd HR.out) rfl (HV.out) (tA rfl) ?_))
        go_ret
        exact ⟨rfl, hO.below⟩
      · have d3 : decide ((60 : Int) < (x.n : Int)) = false := by simp; omega
        have hbl : x.b.length = x.n := by have := HX.out.len; rw [u8s_length] at this; omega
        have g1 := fun w hR hT => seal_ok key nk x.a x.n x.c x.b w hR (by omega) hmax hT
        obtain ⟨t, ht⟩ : ∃ t, key.hide nk x.b = t := ⟨_, rfl⟩
        have htl : t.length = x.n := by rw [← ht, St.hide_length, hbl]
        obtain ⟨u, hu⟩ : ∃ u, key.tag nk t = u := ⟨_, rfl⟩
        have g2 := fun w a c hR hT => open_ok key nk a x.n c t w hR (by omega) hT
        have hback : key.hide nk t = x.b := by rw [← ht, St.hide_hide]
        rw [hback, hu] at g2
        rw [ht, hu] at g1
        unfold BkRet at g2
        have G1 := Lib.hid g1
        have G2 := Lib.hid g2
        have HTL := Lib.hid htl
        have HBL := Lib.hid hbl
        obtain ⟨n1, hn1⟩ : ∃ n1, nk + 1#64 = n1 := ⟨_, rfl⟩
        rw [hn1] at HU G1
        clear g1 g2 ht hu hback htl hbl hn1
        have d4 : (decide (x.b = x.b)) = true := decide_eq_true rfl
        go_wp2_with (first
          | ((with_reducible refine gG ?_); refine wpList_want rfl ?_)
          | ((with_reducible refine gLoad (T := 28) ?_); refine ld_rd (hO.rd HR.out) rfl (HV.out) (tA rfl) ?_)
          | ((with_reducible refine gLoad (T := 27) ?_); first | refine ldX hO 0 rfl rfl (tA rfl) (tS rfl) ?_ | refine ldX hO 1 rfl rfl (tA rfl) (tS rfl) ?_)
          | ((with_reducible refine gLoad (T := 31) ?_); refine ldX hO 1 rfl rfl (tA rfl) (tS rfl) ?_)
          | ((with_reducible refine gLoad (T := 24) ?_); refine ldA hO 4 key.C rfl rfl (tA rfl) (tS rfl) rfl ?_)
          | ((with_reducible refine gLoad (T := 25) ?_); first | refine ldC hO 2 rfl rfl (tA rfl) rfl ?_ | refine ldC hO 5 rfl rfl (tA rfl) rfl ?_)
          | ((with_reducible refine gAlloc (T := 31) ?_); refine own_alloc hO _ _ ibz ?_; clear hO; intro bx ww hO)
          | ((with_reducible refine gAlloc (T := 27) ?_); refine own_alloc hO _ _ irz ?_; clear hO; intro ba ww hO)
          | ((with_reducible refine gStore (T := 31) ?_); refine stX hO 1 rfl rfl rfl rfl rfl (tS rfl) ?_; clear hO; intro ww hO)
          | ((with_reducible refine gStore (T := 27) ?_); first | (refine stX hO 0 rfl rfl rfl rfl rfl (tS rfl) ?_; clear hO; intro ww hO) | (refine stX hO 4 rfl rfl rfl rfl rfl (tS rfl) ?_; clear hO; intro ww hO))
          | (go_at_call 10; refine (G1.out _ (hO.rd HX.out) (HT.out.own hO)).mono ?_; rintro e ww ⟨g, C, rfl, hb, hh, hC⟩; replace hO := hO.add hb hh; clear hb hh)
          | (go_at_call 11; refine (G2.out _ _ _ (rd_blk_off (hO.blk 2 rfl) 0 (by rw [List.drop_zero]; exact hC) (by rw [u8s_length]; exact HTL.out) (Nat.le_refl _) (by simp [maxLen]; omega)) (HT.out.own hO)).mono ?_; rintro e ww ⟨g2, C2, rfl, hb, hh, hC2⟩; replace hO := hO.add hb hh; clear hb hh)
          | (go_at_call 13; refine (same_calls _ _ _ _ _ _ x.b x.b _ (rd_blk_off (hO.blk 0 rfl) 0 (by rw [List.drop_zero]; exact hC2) (by rw [u8s_length]; exact HBL.out) (Nat.le_refl _) (by simp [maxLen]; omega)) (hO.rd HX.out)).mono ?_; rw [decide_eq_true rfl]; rintro e ww ⟨rfl, rfl⟩))
        go_roundg (len - (k + 1))
        case measure => omega
        case rel => exact ⟨k + 1, rfl, by omega, by go_num, by rw [← HU.out]; exact hO.sub (by repeat first | exact List.Sublist.refl _ | apply List.Sublist.cons)⟩
    · have hb0 : decide ((k : Int) < (len : Int)) = false := by simp; omega
      obtain rfl : k = len := by omega
      go_wp2_with (first
        | ((with_reducible refine gG ?_); refine wpList_want rfl ?_)
        | ((with_reducible refine gLoad (T := 25) ?_); first | refine ldC hO 0 rfl rfl (tA rfl) rfl ?_ | refine ldC hO 1 rfl rfl (tA rfl) rfl ?_)
        | ((with_reducible refine gLoad (T := 24) ?_); first | refine ldA hO 0 key.C rfl rfl (tA rfl) (tS rfl) rfl ?_ | refine ldA hO 1 key.C rfl rfl (tA rfl) (tS rfl) rfl ?_)
        | ((with_reducible refine gEql (t := 24) ?_); refine eqD v_egW rfl rfl ?_; (with_reducible refine ⟨_, eqWT _, ?_⟩)))
      go_ret
      exact ⟨rfl, hO.below⟩

set_option maxHeartbeats 2000000 in
set_option maxRecDepth 100000 in
theorem ring_walk (key : St) (n : BitVec 64) (a : Option Addr) (len cap : Nat) (w : World) (hR : IsRows w a len cap) (hT : Turns w) :
    Calls Tryd.prog 4 #[.agg (ringC key n), .slice a len cap] w fun e w' => e = .returned (.bool true) ∧ Below w.heap.size w w' := by
  obtain ⟨ss, hR, hs⟩ := hR
  by_cases h1 : 20 < len
  · have hO := Own.start w
    have d1 : decide ((20 : Int) < (len : Int)) = true := by simp; omega
    have HT := Lib.hid hT
    clear hR hs hT
    generalize hW : w = wn at hO HT ⊢
    clear hW w
    go_enter Tryd.func4, Tryd.ntmps4
    go_wp2_with (first
      | ((with_reducible refine gBox ?_); first | (refine bxA hO rfl ?_; clear hO; intro b ww hO) | (refine bx1 hO rfl rfl ?_; clear hO; intro b ww hO))
      | (go_at_call 9; refine (vlive_calls _ (HT.out.own hO)).mono ?_; rintro e ww ⟨rfl, hb⟩; replace hO := hO.call hb; clear hb))
    go_ret
    exact ⟨rfl, hO.below⟩
  · by_cases h2 : 4611686018427387904 < n.toNat
    · have hO := Own.start w
      have d1 : decide ((20 : Int) < (len : Int)) = false := by simp; omega
      have d2 : decide ((4611686018427387904 : Int) < (n.toNat : Int)) = true := by simp; omega
      have HT := Lib.hid hT
      clear hR hs hT
      generalize hW : w = wn at hO HT ⊢
      clear hW w
      go_enter Tryd.func4, Tryd.ntmps4
      go_wp2_with (first
        | ((with_reducible refine gBox ?_); first | (refine bxA hO rfl ?_; clear hO; intro b ww hO) | (refine bx1 hO rfl rfl ?_; clear hO; intro b ww hO))
        | ((with_reducible refine gG ?_); refine wpList_want rfl ?_)
        | ((with_reducible refine gLoad (T := 25) ?_); refine ldC hO 0 rfl rfl (tA rfl) rfl ?_)
        | (go_at_call 9; refine (vlive_calls _ (HT.out.own hO)).mono ?_; rintro e ww ⟨rfl, hb⟩; replace hO := hO.call hb; clear hb))
      go_ret
      exact ⟨rfl, hO.below⟩
    · exact ring_in key n a len cap ss w hR hs (by omega) (by omega) hT
end Go.Proofs.YtekiloagckkneaaDoor
