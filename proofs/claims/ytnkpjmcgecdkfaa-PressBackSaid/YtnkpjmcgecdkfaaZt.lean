/- Walks: the unpacker's token; Unpack. -/
import Derived.Test.YtnkpjmcgecdkfaaZu
namespace Go.Proofs.Ytnkpjmcgecdkfaa
open Go.RowKit Go.Own Go.Bv Go.Ord Go.Eq Go.Opn Go.Pb Go.Mt

set_option maxHeartbeats 8000000 in
set_option maxRecDepth 100000 in
theorem utok_calls {w0 w : World} {L : List Res} {rb ub : Nat} {aB : Option Addr} {m cB : Nat} {aP : Option Addr} {cP : Nat} {aO : Option Addr} {K cO : Nat} (b : List (BitVec 8)) (s : Go.Pz.Us) (hr : Go.Kc.Rok 528 b s.r) (hb : b.length = m) (hm : m ≤ 10000000)
    (out : List (BitVec 8)) (hK : out.length = K) (most : Nat) (hKm : K ≤ most) (hmost : most ≤ 70000) (t : Go.Pz.Us) (out2 : List (BitVec 8)) (ht : (Go.Pz.utok b s out most).1 = t) (ho : (Go.Pz.utok b s out most).2 = out2) (K2 : Nat) (hK2 : out2.length = K2)
    (hO : Own w0 w (uL rb ub aB m cB aP cP b s (.sl 5 1 (.slice aO K cO) K (u8s out) :: L))) :
    Calls Try.prog 30 #[.pointer (some ⟨ub, 0, none⟩), .slice aO K cO, .int .i64 (most : Int)] w fun e w' => ∃ a' c', e = .returned (.slice a' K2 c') ∧ Own w0 w' (uL rb ub aB m cB aP cP b t (.sl 5 1 (.slice a' K2 c') K2 (u8s out2) :: L)) := by
  have HB := Lib.hid hb
  have HM := Lib.hid hm
  obtain ⟨x0, hx0⟩ : ∃ x, (Go.Pz.ub b s 0).1 = x := ⟨_, rfl⟩
  obtain ⟨s1, hs1⟩ : ∃ x, (Go.Pz.ub b s 0).2 = x := ⟨_, rfl⟩
  have hr1 : Go.Kc.Rok 528 b s1.r := by rw [← hs1]; exact Go.Pz.ub_rok hr 0
  have H0 := Lib.hid (fun (w : World) hO => ubit_calls (w0 := w0) (w := w) (L := .sl 5 1 (.slice aO K cO) K (u8s out) :: L) (rb := rb) (ub := ub) (aB := aB) (cB := cB) (aP := aP) (cP := cP) b s hr hb hm 0 (by omega) x0.toNat s1 (by rw [hx0]) hs1 hO)
  unfold Go.Pz.utok at ht ho
  dsimp only at ht ho
  rw [hx0, hs1] at ht ho
  cases x0
  · simp only [if_true] at ht ho
    have hl := Go.Pz.un_lt (b := b) (tree := 0) 8 1 s1
    have e8 : 2 ^ 8 = 256 := by decide
    rw [e8] at hl
    obtain ⟨v, hv⟩ : ∃ v, (Go.Pz.un b 0 8 1 s1).1 - 256 = v := ⟨_, rfl⟩
    rw [hv] at ho
    have H8 := Lib.hid (fun (w : World) hO => unum_calls (w0 := w0) (w := w) (L := .sl 5 1 (.slice aO K cO) K (u8s out) :: L) (rb := rb) (ub := ub) (aB := aB) (cB := cB) (aP := aP) (cP := cP) b s1 hr1 hb hm 8 0 256 (.inr ⟨rfl, rfl⟩) (by omega) v t hv ht hO)
    obtain ⟨oc, hoc⟩ : ∃ x, BitVec.ofNat 8 v = x := ⟨_, rfl⟩
    rw [hoc] at ho
    have hvl : v < 256 := by omega
    have hov : oc.toNat = v := by rw [← hoc, BitVec.toNat_ofNat]; omega
    have f2 : IntKind.u8.wrap (v : Int) = (oc.toNat : Int) := by rw [IntKind.wrap_u8', hov]; omega
    have HUA : Hid (u8s out2 = u8s out ++ u8s [oc]) := by show _ = _; rw [← ho]; unfold u8s; rw [List.map_append]
    obtain rfl : K2 = K + 1 := by rw [← hK2, ← ho, List.length_append, hK]; rfl
    clear ht ho hv hl hoc hov hr hr1 hb hm hx0 hs1 hK hK2 e8
    go_enter Try.func30, Try.ntmps30
    go_wp2_with (first
      | (go_at_call 52; refine (H0.out _ hO).mono ?_; rintro e ww ⟨rfl, hO2⟩; clear hO; have hO := hO2; clear hO2)
      | (go_at_call 53; refine (H8.out _ hO).mono ?_; rintro e ww ⟨rfl, hO2⟩; clear hO; have hO := hO2; clear hO2; unfold uL at hO)
      | ((with_reducible refine gBuild (T := 34) ?_); refine own_build hO 34 1 _ eu8 (u8s [oc]).toArray (by omega) (by omega) (by kernel_rfl) rfl ?_; clear hO; intro g2 ww hO)
      | ((with_reducible refine gAppend ?_); refine own_append hO 5 _ _ 34 eu8 rfl rfl rfl (hO.rdAt 0 rfl) (u8s_one _) (K + 1) rfl (by simp [maxLen]; omega) (by omega) ?_; clear hO; intro a2 c2 ww hO))
    go_ret
    exact ⟨a2, c2, rfl, by rw [HUA.out]; exact hO.tail⟩
  · simp only [Bool.true_eq_false, if_false] at ht ho
    obtain ⟨y, hy⟩ : ∃ x, (Go.Pz.un b 256 4 1 s1).1 - 16 = x := ⟨_, rfl⟩
    obtain ⟨s2, hs2⟩ : ∃ x, (Go.Pz.un b 256 4 1 s1).2 = x := ⟨_, rfl⟩
    have hr2 : Go.Kc.Rok 528 b s2.r := by rw [← hs2]; exact Go.Pz.un_rok _ _ hr1
    rw [hy, hs2] at ht ho
    obtain ⟨z, hz⟩ : ∃ x, (Go.Pz.un b 272 8 1 s2).1 - 256 = x := ⟨_, rfl⟩
    obtain ⟨s3, hs3⟩ : ∃ x, (Go.Pz.un b 272 8 1 s2).2 = x := ⟨_, rfl⟩
    rw [hz, hs3] at ht ho
    have hl4 := Go.Pz.un_lt (b := b) (tree := 256) 4 1 s1
    have hl8 := Go.Pz.un_lt (b := b) (tree := 272) 8 1 s2
    rw [show 2 ^ 4 = 16 by decide] at hl4
    rw [show 2 ^ 8 = 256 by decide] at hl8
    have hy16 : y < 16 := by omega
    have hz256 : z < 256 := by omega
    have H4 := Lib.hid (fun (w : World) hO => unum_calls (w0 := w0) (w := w) (L := .sl 5 1 (.slice aO K cO) K (u8s out) :: L) (rb := rb) (ub := ub) (aB := aB) (cB := cB) (aP := aP) (cP := cP) b s1 hr1 hb hm 4 256 16 (.inl ⟨rfl, rfl⟩) (by omega) y s2 hy hs2 hO)
    have H8 := Lib.hid (fun (w : World) hO => unum_calls (w0 := w0) (w := w) (L := .sl 5 1 (.slice aO K cO) K (u8s out) :: L) (rb := rb) (ub := ub) (aB := aB) (cB := cB) (aP := aP) (cP := cP) b s2 hr2 hb hm 8 272 256 (.inr ⟨rfl, rfl⟩) (by omega) z s3 hz hs3 hO)
    by_cases hc1 : K < z + 1
    · rw [if_pos (.inl (by rw [hK]; exact hc1))] at ht ho
      dsimp only at ht ho
      subst ht
      subst ho
      obtain rfl : K2 = K := by rw [← hK2, hK]
      have d1 : decide ((K2 : Int) < (z : Int) + 1) = true := decide_eq_true (by omega)
      clear hy hz hs2 hs3 hl4 hl8 hr hr1 hr2 hb hm hx0 hs1 hK hK2 hc1
      go_enter Try.func30, Try.ntmps30
      go_wp2_with (first
        | ((with_reducible refine gG ?_); refine wpList_want rfl ?_)
        | (go_at_call 52; refine (H0.out _ hO).mono ?_; rintro e ww ⟨rfl, hO2⟩; clear hO; have hO := hO2; clear hO2)
        | (go_at_call 53; (with_reducible refine gCall #[_, .int .i64 4, _] ?_); refine (H4.out _ hO).mono ?_; rintro e ww ⟨rfl, hO2⟩; clear hO; have hO := hO2; clear hO2)
        | (go_at_call 53; refine (H8.out _ hO).mono ?_; rintro e ww ⟨rfl, hO2⟩; clear hO; have hO := hO2; clear hO2; unfold uL at hO)
        | ((with_reducible refine gStore ?_); refine st_blk hO 3 rfl rfl rfl (ltb rfl) rfl (tS rfl) ?_; clear hO; intro ww hO))
      go_ret
      exact ⟨aO, cO, rfl, hO⟩
    · have d1 : decide ((K : Int) < (z : Int) + 1) = false := decide_eq_false (by omega)
      by_cases hc2 : most - K < y + 3
      · rw [if_pos (.inr (by rw [hK]; exact hc2))] at ht ho
        dsimp only at ht ho
        subst ht
        subst ho
        obtain rfl : K2 = K := by rw [← hK2, hK]
        have d2 : decide ((most : Int) - (K2 : Int) < (y : Int) + 3) = true := decide_eq_true (by omega)
        clear hy hz hs2 hs3 hl4 hl8 hr hr1 hr2 hb hm hx0 hs1 hK hK2 hc1 hc2
        go_enter Try.func30, Try.ntmps30
        go_wp2_with (first
          | ((with_reducible refine gG ?_); refine wpList_want rfl ?_)
          | (go_at_call 52; refine (H0.out _ hO).mono ?_; rintro e ww ⟨rfl, hO2⟩; clear hO; have hO := hO2; clear hO2)
          | (go_at_call 53; (with_reducible refine gCall #[_, .int .i64 4, _] ?_); refine (H4.out _ hO).mono ?_; rintro e ww ⟨rfl, hO2⟩; clear hO; have hO := hO2; clear hO2)
          | (go_at_call 53; refine (H8.out _ hO).mono ?_; rintro e ww ⟨rfl, hO2⟩; clear hO; have hO := hO2; clear hO2; unfold uL at hO)
          | ((with_reducible refine gStore ?_); refine st_blk hO 3 rfl rfl rfl (ltb rfl) rfl (tS rfl) ?_; clear hO; intro ww hO))
        go_ret
        exact ⟨aO, cO, rfl, hO⟩
      · rw [if_neg (by rw [hK]; rintro (h | h); exact hc1 h; exact hc2 h)] at ht ho
        dsimp only at ht ho
        subst ht
        have d2 : decide ((most : Int) - (K : Int) < (y : Int) + 3) = false := decide_eq_false (by omega)
        obtain ⟨D, hD⟩ : ∃ D, z + 1 = D := ⟨_, rfl⟩
        obtain ⟨N, hN⟩ : ∃ N, y + 3 = N := ⟨_, rfl⟩
        have hN2 : ((y : Int) + 3) = (N : Int) := by omega
        have hD2 : ((z : Int) + 1) = (D : Int) := by omega
        rw [hD, hN] at ho
        have d1b : decide ((K : Int) < (D : Int)) = false := decide_eq_false (by omega)
        have d2b : decide ((most : Int) - (K : Int) < (N : Int)) = false := decide_eq_false (by omega)
        have d1c : decide (K < D) = false := decide_eq_false (by omega)
        obtain rfl : K2 = K + N := by rw [← hK2, ← ho, again_length, hK]
        have HAN : Hid (∀ j, ∃ x, (again D j out)[K - D + j]? = some x ∧ again D (j + 1) out = again D j out ++ [x]) := fun j => again_next D j out K hK (by omega) (by omega)
        have HOUT := Lib.hid ho
        have hDK : D ≤ K := by omega
        have hD1 : 1 ≤ D := by omega
        have hN18 : N ≤ 18 := by omega
        clear hy hz hs2 hs3 hl4 hl8 hr hr1 hr2 hb hm hx0 hs1 hK hK2 hc1 hc2 ho
        go_enter Try.func30, Try.ntmps30
        go_wp2_with (first
          | ((with_reducible refine gG ?_); refine wpList_want rfl ?_)
          | (go_at_call 52; refine (H0.out _ hO).mono ?_; rintro e ww ⟨rfl, hO2⟩; clear hO; have hO := hO2; clear hO2)
          | (go_at_call 53; (with_reducible refine gCall #[_, .int .i64 4, _] ?_); refine (H4.out _ hO).mono ?_; rintro e ww ⟨rfl, hO2⟩; clear hO; have hO := hO2; clear hO2)
          | (go_at_call 53; refine (H8.out _ hO).mono ?_; rintro e ww ⟨rfl, hO2⟩; clear hO; have hO := hO2; clear hO2; unfold uL at hO))
        clear d1 d2 d1b d2b d1c H0 H4 H8
        go_loopg [1, 41] N (fun mm s1_ cc wr => ∃ (j : Nat) (aJ : Option Addr) (cJ : Nat), mm = N - j ∧ j ≤ N ∧ cc = .int .i64 (j : Int) ∧ s1_ = .slice aJ (K + j) cJ ∧ Own w0 wr (uL rb ub aB m cB aP cP b s3 (.sl 5 1 (.slice aJ (K + j) cJ) (K + j) (u8s (again D j out)) :: L)))
        case atStart => exact ⟨0, aO, cO, rfl, by omega, rfl, rfl, hO⟩
        case round =>
          obtain ⟨j, aJ, cJ, rfl, hj, rfl, rfl, hO1⟩ := hrel
          clear hO
          have hO := hO1
          clear hO1
          by_cases c1 : j < N
          · have d1 : decide ((j : Int) < (N : Int)) = true := decide_eq_true (by omega)
            have d1' : decide ((j : Int) < (y : Int) + 3) = true := decide_eq_true (by omega)
            unfold uL at hO
            obtain ⟨gJ, rfl⟩ := hO.slPlace 4 rfl (by omega)
            obtain ⟨x, hx1, hx2⟩ := HAN.out j
            have HX : Hid ((u8s (again D j out))[K - D + j]? = some (.int .u8 (x.toNat : Int))) := by show _ = _; unfold u8s; rw [List.getElem?_map, hx1]; rfl
            have HX2 : Hid (u8s (again D (j + 1) out) = u8s (again D j out) ++ u8s [x]) := by show _ = _; rw [hx2]; unfold u8s; rw [← List.map_append]
            obtain ⟨F, hF⟩ : ∃ F, K - D + j = F := ⟨_, rfl⟩
            rw [hF] at HX
            have e2 : wrap64 ((K : Int) + (j : Int) - ((z : Int) + 1)) = (F : Int) := by unfold wrap64; omega
            have e3 : (K : Int) + (j : Int) - ((z : Int) + 1) = (F : Int) := by omega
            have e4 : F < K + j := by omega
            have e5 : (K : Int) + (j : Int) - (D : Int) = (F : Int) := by omega
            have e6 : wrap64 ((K : Int) + (j : Int) - (D : Int)) = (F : Int) := by unfold wrap64; omega
            clear hx1 hx2 hF hN2 hD2 hD hN
            generalize u8s (again D j out) = cur at *
            go_wp2_with (first
              | ((with_reducible refine gLoad (T := 5) ?_); refine ld_sl hO 4 rfl rfl HX.out (tA rfl) ?_)
              | ((with_reducible refine gBuild (T := 34) ?_); refine own_build hO 34 1 _ eu8 (u8s [x]).toArray (by omega) (by omega) (by kernel_rfl) rfl ?_; clear hO; intro g2 ww hO)
              | ((with_reducible refine gAppend ?_); refine own_append hO 5 _ _ 34 eu8 rfl rfl rfl (hO.rdAt 0 rfl) (u8s_one _) (K + (j + 1)) (by omega) (by simp [maxLen]; omega) (by omega) ?_; clear hO; intro a2 c2 ww hO))
            go_roundg (N - (j + 1))
            case measure => omega
            case rel => exact ⟨j + 1, a2, c2, rfl, by omega, by go_num, rfl, by rw [HX2.out]; exact hO.tail⟩
          · obtain rfl : j = N := by omega
            have d1' : decide ((j : Int) < (y : Int) + 3) = false := decide_eq_false (by omega)
            go_wp2
            go_ret
            exact ⟨aJ, cJ, rfl, by rw [← HOUT.out]; exact hO⟩
end Go.Proofs.Ytnkpjmcgecdkfaa
