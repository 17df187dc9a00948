/- Of several texts of this claim, one behind the other: Zt Zw Kb Kc Kcc Kk Sb POctEq VEq Vr Gv. -/
import Derived.Test.YtniibdglodnhoaaGreatDoorU5
import Derived.Test.YtniibdglodnhoaaGreatDoorP

/- Walks: the unpacker's token; Unpack. -/
namespace Go.Proofs.YtniibdglodnhoaaGreatDoor
open Go.RowKit Go.Own Go.Bv Go.Ord Go.Eq Go.Opn Go.Pb Go.Mt

set_option maxHeartbeats 8000000 in
set_option maxRecDepth 100000 in
theorem utok_calls {w0 w : World} {L : List Res} {rb ub : Nat} {aB : Option Addr} {m cB : Nat} {aP : Option Addr} {cP : Nat} {aO : Option Addr} {K cO : Nat} (b : List (BitVec 8)) (s : Go.Pz.Us) (hr : Go.Kc.Rok 528 b s.r) (hb : b.length = m) (hm : m ≤ 10000000)
    (out : List (BitVec 8)) (hK : out.length = K) (most : Nat) (hKm : K ≤ most) (hmost : most ≤ 70000) (t : Go.Pz.Us) (out2 : List (BitVec 8)) (ht : (Go.Pz.utok b s out most).1 = t) (ho : (Go.Pz.utok b s out most).2 = out2) (K2 : Nat) (hK2 : out2.length = K2)
    (hO : Own w0 w (uL rb ub aB m cB aP cP b s (.sl 5 1 (.slice aO K cO) K (u8s out) :: L))) :
    Calls Tryz.prog 71 #[.pointer (some ⟨ub, 0, none⟩), .slice aO K cO, .int .i64 (most : Int)] w fun e w' => ∃ a' c', e = .returned (.slice a' K2 c') ∧ Own w0 w' (uL rb ub aB m cB aP cP b t (.sl 5 1 (.slice a' K2 c') K2 (u8s out2) :: L)) := by
  have HB := Lib.hid hb
  have HM := Lib.hid hm
  obtain ⟨x0, hx0⟩ : ∃ x, (Go.Pz.ub b s 0).1 = x := ⟨_, rfl⟩
  obtain ⟨s1, hs1⟩ : ∃ x, (Go.Pz.ub b s 0).2 = x := ⟨_, rfl⟩
  have hr1 : Go.Kc.Rok 528 b s1.r := by rw [← hs1]; exact Go.Pz.ub_rok hr 0
  have H0 := Lib.hid (fun (w : World) hO => ubit_calls (w0 := w0) (w := w) (L := .sl 5 1 (.slice aO K cO) K (u8s out) :: L) (rb := rb) (ub := ub) (aB := aB) (cB := cB) (aP := aP) (cP := cP) b s hr hb hm 0 (by omega) x0.toNat s1 (by rw [hx0]) hs1 hO)
  unfold Go.Pz.utok at ht ho
  dsimp only at ht ho
  rw [hx0, hs1] at ht ho
  cases x0
  · simp only [if_true] at ht ho
    have hl := Go.Pz.un_lt (b := b) (tree := 0) 8 1 s1
    have e8 : 2 ^ 8 = 256 := by decide
    rw [e8] at hl
    obtain ⟨v, hv⟩ : ∃ v, (Go.Pz.un b 0 8 1 s1).1 - 256 = v := ⟨_, rfl⟩
    rw [hv] at ho
    have H8 := Lib.hid (fun (w : World) hO => unum_calls (w0 := w0) (w := w) (L := .sl 5 1 (.slice aO K cO) K (u8s out) :: L) (rb := rb) (ub := ub) (aB := aB) (cB := cB) (aP := aP) (cP := cP) b s1 hr1 hb hm 8 0 256 (.inr ⟨rfl, rfl⟩) (by omega) v t hv ht hO)
    obtain ⟨oc, hoc⟩ : ∃ x, BitVec.ofNat 8 v = x := ⟨_, rfl⟩
    rw [hoc] at ho
    have hvl : v < 256 := by omega
    have hov : oc.toNat = v := by rw [← hoc, BitVec.toNat_ofNat]; omega
    have f2 : IntKind.u8.wrap (v : Int) = (oc.toNat : Int) := by rw [IntKind.wrap_u8', hov]; omega
    have HUA : Hid (u8s out2 = u8s out ++ u8s [oc]) := by show _ = _; rw [← ho]; unfold u8s; rw [List.map_append]
    obtain rfl : K2 = K + 1 := by rw [← hK2, ← ho, List.length_append, hK]; rfl
    clear ht ho hv hl hoc hov hr hr1 hb hm hx0 hs1 hK hK2 e8
    go_enter Tryz.func71, Tryz.ntmps71
    go_wp2_with (first
      | (go_at_call 103; refine (H0.out _ hO).mono ?_; rintro e ww ⟨rfl, hO2⟩; clear hO; have hO := hO2; clear hO2)
      | (go_at_call 104; refine (H8.out _ hO).mono ?_; rintro e ww ⟨rfl, hO2⟩; clear hO; have hO := hO2; clear hO2; unfold uL at hO)
      | ((with_reducible refine gBuild (T := 29) ?_); refine own_build hO 29 1 _ eu8 (u8s [oc]).toArray (by omega) (by omega) (by kernel_rfl) rfl ?_; clear hO; intro g2 ww hO)
      | ((with_reducible refine gAppend ?_); refine own_append hO 5 _ _ 29 eu8 rfl rfl rfl (hO.rdAt 0 rfl) (u8s_one _) (K + 1) rfl (by simp [maxLen]; omega) (by omega) ?_; clear hO; intro a2 c2 ww hO))
    go_ret
    exact ⟨a2, c2, rfl, by rw [HUA.out]; exact hO.tail⟩
  · simp only [Bool.true_eq_false, if_false] at ht ho
    obtain ⟨y, hy⟩ : ∃ x, (Go.Pz.un b 256 4 1 s1).1 - 16 = x := ⟨_, rfl⟩
    obtain ⟨s2, hs2⟩ : ∃ x, (Go.Pz.un b 256 4 1 s1).2 = x := ⟨_, rfl⟩
    have hr2 : Go.Kc.Rok 528 b s2.r := by rw [← hs2]; exact Go.Pz.un_rok _ _ hr1
    rw [hy, hs2] at ht ho
    obtain ⟨z, hz⟩ : ∃ x, (Go.Pz.un b 272 8 1 s2).1 - 256 = x := ⟨_, rfl⟩
    obtain ⟨s3, hs3⟩ : ∃ x, (Go.Pz.un b 272 8 1 s2).2 = x := ⟨_, rfl⟩
    rw [hz, hs3] at ht ho
    have hl4 := Go.Pz.un_lt (b := b) (tree := 256) 4 1 s1
    have hl8 := Go.Pz.un_lt (b := b) (tree := 272) 8 1 s2
    rw [show 2 ^ 4 = 16 by decide] at hl4
    rw [show 2 ^ 8 = 256 by decide] at hl8
    have hy16 : y < 16 := by omega
    have hz256 : z < 256 := by omega
    have H4 := Lib.hid (fun (w : World) hO => unum_calls (w0 := w0) (w := w) (L := .sl 5 1 (.slice aO K cO) K (u8s out) :: L) (rb := rb) (ub := ub) (aB := aB) (cB := cB) (aP := aP) (cP := cP) b s1 hr1 hb hm 4 256 16 (.inl ⟨rfl, rfl⟩) (by omega) y s2 hy hs2 hO)
    have H8 := Lib.hid (fun (w : World) hO => unum_calls (w0 := w0) (w := w) (L := .sl 5 1 (.slice aO K cO) K (u8s out) :: L) (rb := rb) (ub := ub) (aB := aB) (cB := cB) (aP := aP) (cP := cP) b s2 hr2 hb hm 8 272 256 (.inr ⟨rfl, rfl⟩) (by omega) z s3 hz hs3 hO)
    by_cases hc1 : K < z + 1
    · rw [if_pos (.inl (by rw [hK]; exact hc1))] at ht ho
      dsimp only at ht ho
      subst ht
      subst ho
      obtain rfl : K2 = K := by rw [← hK2, hK]
      have d1 : decide ((K2 : Int) < (z : Int) + 1) = true := decide_eq_true (by omega)
      clear hy hz hs2 hs3 hl4 hl8 hr hr1 hr2 hb hm hx0 hs1 hK hK2 hc1
      go_enter Tryz.func71, Tryz.ntmps71
      go_wp2_with (first
        | ((with_reducible refine gG ?_); refine wpList_want rfl ?_)
        | (go_at_call 103; refine (H0.out _ hO).mono ?_; rintro e ww ⟨rfl, hO2⟩; clear hO; have hO := hO2; clear hO2)
        | (go_at_call 104; (with_reducible refine gCall #[_, .int .i64 4, _] ?_); refine (H4.out _ hO).mono ?_; rintro e ww ⟨rfl, hO2⟩; clear hO; have hO := hO2; clear hO2)
        | (go_at_call 104; refine (H8.out _ hO).mono ?_; rintro e ww ⟨rfl, hO2⟩; clear hO; have hO := hO2; clear hO2; unfold uL at hO)
        | ((with_reducible refine gStore ?_); refine st_blk hO 3 rfl rfl rfl (ltb rfl) rfl (tS rfl) ?_; clear hO; intro ww hO))
      go_ret
      exact ⟨aO, cO, rfl, hO⟩
    · have d1 : decide ((K : Int) < (z : Int) + 1) = false := decide_eq_false (by omega)
      by_cases hc2 : most - K < y + 3
      · rw [if_pos (.inr (by rw [hK]; exact hc2))] at ht ho
        dsimp only at ht ho
        subst ht
        subst ho
        obtain rfl : K2 = K := by rw [← hK2, hK]
        have d2 : decide ((most : Int) - (K2 : Int) < (y : Int) + 3) = true := decide_eq_true (by omega)
        clear hy hz hs2 hs3 hl4 hl8 hr hr1 hr2 hb hm hx0 hs1 hK hK2 hc1 hc2
        go_enter Tryz.func71, Tryz.ntmps71
        go_wp2_with (first
          | ((with_reducible refine gG ?_); refine wpList_want rfl ?_)
          | (go_at_call 103; refine (H0.out _ hO).mono ?_; rintro e ww ⟨rfl, hO2⟩; clear hO; have hO := hO2; clear hO2)
          | (go_at_call 104; (with_reducible refine gCall #[_, .int .i64 4, _] ?_); refine (H4.out _ hO).mono ?_; rintro e ww ⟨rfl, hO2⟩; clear hO; have hO := hO2; clear hO2)
          | (go_at_call 104; refine (H8.out _ hO).mono ?_; rintro e ww ⟨rfl, hO2⟩; clear hO; have hO := hO2; clear hO2; unfold uL at hO)
          | ((with_reducible refine gStore ?_); refine st_blk hO 3 rfl rfl rfl (ltb rfl) rfl (tS rfl) ?_; clear hO; intro ww hO))
        go_ret
        exact ⟨aO, cO, rfl, hO⟩
      · rw [if_neg (by rw [hK]; rintro (h | h); exact hc1 h; exact hc2 h)] at ht ho
        dsimp only at ht ho
        subst ht
        have d2 : decide ((most : Int) - (K : Int) < (y : Int) + 3) = false := decide_eq_false (by omega)
        obtain ⟨D, hD⟩ : ∃ D, z + 1 = D := ⟨_, rfl⟩
        obtain ⟨N, hN⟩ : ∃ N, y + 3 = N := ⟨_, rfl⟩
        have hN2 : ((y : Int) + 3) = (N : Int) := by omega
        have hD2 : ((z : Int) + 1) = (D : Int) := by omega
        rw [hD, hN] at ho
        have d1b : decide ((K : Int) < (D : Int)) = false := decide_eq_false (by omega)
        have d2b : decide ((most : Int) - (K : Int) < (N : Int)) = false := decide_eq_false (by omega)
        have d1c : decide (K < D) = false := decide_eq_false (by omega)
        obtain rfl : K2 = K + N := by rw [← hK2, ← ho, again_length, hK]
        have HAN : Hid (∀ j, ∃ x, (again D j out)[K - D + j]? = some x ∧ again D (j + 1) out = again D j out ++ [x]) := fun j => again_next D j out K hK (by omega) (by omega)
        have HOUT := Lib.hid ho
        have hDK : D ≤ K := by omega
        have hD1 : 1 ≤ D := by omega
        have hN18 : N ≤ 18 := by omega
        clear hy hz hs2 hs3 hl4 hl8 hr hr1 hr2 hb hm hx0 hs1 hK hK2 hc1 hc2 ho
        go_enter Tryz.func71, Tryz.ntmps71
        go_wp2_with (first
          | ((with_reducible refine gG ?_); refine wpList_want rfl ?_)
          | (go_at_call 103; refine (H0.out _ hO).mono ?_; rintro e ww ⟨rfl, hO2⟩; clear hO; have hO := hO2; clear hO2)
          | (go_at_call 104; (with_reducible refine gCall #[_, .int .i64 4, _] ?_); refine (H4.out _ hO).mono ?_; rintro e ww ⟨rfl, hO2⟩; clear hO; have hO := hO2; clear hO2)
          | (go_at_call 104; refine (H8.out _ hO).mono ?_; rintro e ww ⟨rfl, hO2⟩; clear hO; have hO := hO2; clear hO2; unfold uL at hO))
        clear d1 d2 d1b d2b d1c H0 H4 H8
        go_loopg [1, 41] N (fun mm s1_ cc wr => ∃ (j : Nat) (aJ : Option Addr) (cJ : Nat), mm = N - j ∧ j ≤ N ∧ cc = .int .i64 (j : Int) ∧ s1_ = .slice aJ (K + j) cJ ∧ Own w0 wr (uL rb ub aB m cB aP cP b s3 (.sl 5 1 (.slice aJ (K + j) cJ) (K + j) (u8s (again D j out)) :: L)))
        case atStart => exact ⟨0, aO, cO, rfl, by omega, rfl, rfl, hO⟩
        case round =>
          obtain ⟨j, aJ, cJ, rfl, hj, rfl, rfl, hO1⟩ := hrel
          clear hO
          have hO := hO1
          clear hO1
          by_cases c1 : j < N
          · have d1 : decide ((j : Int) < (N : Int)) = true := decide_eq_true (by omega)
            have d1' : decide ((j : Int) < (y : Int) + 3) = true := decide_eq_true (by omega)
            unfold uL at hO
            obtain ⟨gJ, rfl⟩ := hO.slPlace 4 rfl (by omega)
            obtain ⟨x, hx1, hx2⟩ := HAN.out j
            have HX : Hid ((u8s (again D j out))[K - D + j]? = some (.int .u8 (x.toNat : Int))) := by show _ = _; unfold u8s; rw [List.getElem?_map, hx1]; rfl
            have HX2 : Hid (u8s (again D (j + 1) out) = u8s (again D j out) ++ u8s [x]) := by show _ = _; rw [hx2]; unfold u8s; rw [← List.map_append]
            obtain ⟨F, hF⟩ : ∃ F, K - D + j = F := ⟨_, rfl⟩
            rw [hF] at HX
            have e2 : wrap64 ((K : Int) + (j : Int) - ((z : Int) + 1)) = (F : Int) := by unfold wrap64; omega
            have e3 : (K : Int) + (j : Int) - ((z : Int) + 1) = (F : Int) := by omega
            have e4 : F < K + j := by omega
            have e5 : (K : Int) + (j : Int) - (D : Int) = (F : Int) := by omega
            have e6 : wrap64 ((K : Int) + (j : Int) - (D : Int)) = (F : Int) := by unfold wrap64; omega
            clear hx1 hx2 hF hN2 hD2 hD hN
            generalize u8s (again D j out) = cur at *
            go_wp2_with (first
              | ((with_reducible refine gLoad (T := 5) ?_); refine ld_sl hO 4 rfl rfl HX.out (tA rfl) ?_)
              | ((with_reducible refine gBuild (T := 29) ?_); refine own_build hO 29 1 _ eu8 (u8s [x]).toArray (by omega) (by omega) (by kernel_rfl) rfl ?_; clear hO; intro g2 ww hO)
              | ((with_reducible refine gAppend ?_); refine own_append hO 5 _ _ 29 eu8 rfl rfl rfl (hO.rdAt 0 rfl) (u8s_one _) (K + (j + 1)) (by omega) (by simp [maxLen]; omega) (by omega) ?_; clear hO; intro a2 c2 ww hO))
            go_roundg (N - (j + 1))
            case measure => omega
            case rel => exact ⟨j + 1, a2, c2, rfl, by omega, by go_num, rfl, by rw [HX2.out]; exact hO.tail⟩
          · obtain rfl : j = N := by omega
            have d1' : decide ((j : Int) < (y : Int) + 3) = false := decide_eq_false (by omega)
            go_wp2
            go_ret
            exact ⟨aJ, cJ, rfl, by rw [← HOUT.out]; exact hO⟩
end Go.Proofs.YtniibdglodnhoaaGreatDoor

/- Walk: press.Unpack. -/
namespace Go.Proofs.YtniibdglodnhoaaGreatDoor
open Go.RowKit Go.Own Go.Bv Go.Ord Go.Eq Go.Opn Go.Pb Go.Mt

theorem u8s_drop (b : List (BitVec 8)) (k : Nat) : (u8s b).drop k = u8s (b.drop k) := by unfold u8s; rw [List.map_drop]
theorem u8s_all (b : List (BitVec 8)) (n : Nat) (h : b.length ≤ n) : (u8s b).take n = u8s b := List.take_of_length_le (by rw [u8s_length]; exact h)
/-- the octets behind the first four -/
theorem rd_four {w : World} {ba off n cap : Nat} {b : List (BitVec 8)} (hR : Rd w 1 (some ⟨ba, off, none⟩) n cap (u8s b)) (h4 : 4 ≤ n) : Rd w 1 (some ⟨ba, off + 4, none⟩) (n - 4) (cap - 4) (u8s (b.drop 4)) := by
  have hl : b.length = n := by have := hR.len; rw [u8s_length] at this; omega
  have h := hR.cut 4 (n - 4) (by omega)
  rw [u8s_drop, u8s_all _ _ (by simp; omega)] at h
  exact h
theorem longV_le (b : List (BitVec 8)) : Go.Pz.longV b ≤ 65536 := by unfold Go.Pz.longV; split; omega; split <;> omega

set_option maxHeartbeats 8000000 in
set_option maxRecDepth 100000 in
theorem unpack_calls (a : Option Addr) (n cap : Nat) (b : List (BitVec 8)) (most : Int) (w : World) (hR : Rd w 1 a n cap (u8s b)) (hn : n ≤ 10000000) (T : List (BitVec 8)) (E : Int) (M : Nat) (hT : Go.Pz.unT b most = T) (hE : Go.Pz.unE b most = E) (hM : T.length = M) :
    Calls Tryz.prog 44 #[.slice a n cap, .int .i64 most] w fun e w' => ∃ a' c', e = .returned (.tuple #[.slice a' M c', .int .i64 E]) ∧ Below w.heap.size w w' ∧ w'.ownsRow w.heap.size 5 1 (.slice a' M c') M (u8s T) := by
  have hO := Own.start w
  have hlen : b.length = n := by have := hR.len; rw [u8s_length] at this; omega
  have nilT : E ≠ 0 → T = [] ∧ M = 0 := fun h => by
    have h1 : T = [] := by rw [← hT]; unfold Go.Pz.unT; rw [hE, if_neg h]
    exact ⟨h1, by rw [← hM, h1]; rfl⟩
  by_cases h1 : most < 0
  · have e1 : E = 1 := by rw [← hE]; unfold Go.Pz.unE; rw [if_pos h1]
    obtain ⟨rfl, rfl⟩ := nilT (by rw [e1]; decide)
    subst e1
    have d1 : decide (most < 0) = true := decide_eq_true h1
    clear hR hT hE hM hlen nilT h1
    generalize hW : w = wn at hO ⊢
    clear hW w
    go_enter Tryz.func44, Tryz.ntmps44
    go_wp2
    go_ret2
    exact ⟨none, 0, rfl, hO.below, World.ownsRow_nil _ _ _ _⟩
  have d1 : decide (most < 0) = false := decide_eq_false h1
  obtain ⟨V, hV⟩ : ∃ V, Go.Pz.longV b = V := ⟨_, rfl⟩
  obtain ⟨LE, hLE⟩ : ∃ V, Go.Pz.longE b = V := ⟨_, rfl⟩
  have HLO := Lib.hid (fun w h => plong_calls a n cap b w h V LE hV hLE)
  by_cases h2 : LE ≠ 0
  · have e1 : E = LE := by rw [← hE]; unfold Go.Pz.unE; rw [if_neg h1, hLE, if_pos h2]
    obtain ⟨rfl, rfl⟩ := nilT (by rw [e1]; exact h2)
    subst e1
    have d2 : (E == 0) = false := by simpa using h2
    have d2' : decide (E = 0) = false := by simpa using h2
    have HR := Lib.hid hR
    clear hR hT hE hM hlen nilT h1 hV hLE h2
    generalize hW : w = wn at hO HR ⊢
    clear hW w
    go_enter Tryz.func44, Tryz.ntmps44
    go_wp2_with (first
      | (go_at_call 69; refine (HLO.out _ (hO.rd HR.out)).mono ?_; rintro e w1 ⟨rfl, rfl⟩))
    go_ret2
    exact ⟨none, 0, rfl, hO.below, World.ownsRow_nil _ _ _ _⟩
  have h2' : LE = 0 := Classical.not_not.1 h2
  rw [h2'] at HLO
  have h9 : 9 ≤ n := by
    rw [h2'] at hLE
    unfold Go.Pz.longE at hLE
    split at hLE
    · cases hLE
    · omega
  have hV65 : V ≤ 65536 := by rw [← hV]; exact longV_le b
  by_cases h3 : most < (V : Int)
  · have e1 : E = 3 := by rw [← hE]; unfold Go.Pz.unE; rw [if_neg h1, hLE, if_neg h2, hV, if_pos h3]
    obtain ⟨rfl, rfl⟩ := nilT (by rw [e1]; decide)
    subst e1
    have d2 : decide (most < (V : Int)) = true := decide_eq_true h3
    have HR := Lib.hid hR
    clear hR hT hE hM hlen nilT h1 hV hLE h2 h2' h3
    generalize hW : w = wn at hO HR ⊢
    clear hW w
    go_enter Tryz.func44, Tryz.ntmps44
    go_wp2_with (first
      | (go_at_call 69; refine (HLO.out _ (hO.rd HR.out)).mono ?_; rintro e w1 ⟨rfl, rfl⟩))
    go_ret2
    exact ⟨none, 0, rfl, hO.below, World.ownsRow_nil _ _ _ _⟩
  have d2 : decide (most < (V : Int)) = false := decide_eq_false h3
  obtain ⟨n4, rfl⟩ : ∃ n4, n = n4 + 4 := ⟨n - 4, by omega⟩
  obtain ⟨ba, off, rfl⟩ := hR.place (by omega)
  have hR4 := rd_four hR (by omega)
  rw [Nat.add_sub_cancel] at hR4
  obtain ⟨b4, hb4⟩ : ∃ x, b.drop 4 = x := ⟨_, rfl⟩
  rw [hb4] at hR4
  have hl4 : b4.length = n4 := by rw [← hb4, List.length_drop, hlen, Nat.add_sub_cancel]
  have hmc : n4 + 4 ≤ cap := hR.le
  have hmm := Nat.le_trans hR.le hR.max
  unfold maxLen at hmm
  have hE4 : E = if Go.Kc.opE 528 b4 ≠ 0 then 2 else if (Go.Pz.uloop b4 V V ⟨Go.Kc.open_ 528 b4, false⟩ []).1.bad = true ∨ (Go.Pz.uloop b4 V V ⟨Go.Kc.open_ 528 b4, false⟩ []).1.r.used ≠ n4 then 2 else 0 := by
    rw [← hE]; unfold Go.Pz.unE; rw [if_neg h1, hLE, if_neg h2, hV, if_neg h3, hb4, hlen, Nat.add_sub_cancel]
  by_cases h40 : Go.Kc.opE 528 b4 = 0
  rotate_left
  · have h4 : Go.Kc.opE 528 b4 ≠ 0 := h40
    rw [if_pos h4] at hE4
    obtain ⟨rfl, rfl⟩ := nilT (by rw [hE4]; decide)
    subst hE4
    have h42 : Go.Kc.opE 528 b4 = 2 := by
      unfold Go.Kc.opE at h4 ⊢
      rw [if_pos (by omega)] at h4 ⊢
      split at h4
      · exact absurd rfl h4
      · rename_i hmo; rw [if_neg hmo]
    have HNR := Lib.hid (fun w h => newR_bad 528 (some ⟨ba, off + 4, none⟩) n4 (cap - 4) b4 w h (by omega) 2 h42 (by decide))
    have HR := Lib.hid hR
    have HR4 := Lib.hid hR4
    clear hR hT hE hM hlen nilT h1 hV hLE h2 h2' h3 hR4 hl4 hb4 h4 h40 h42
    generalize hW : w = wn at hO HR HR4 ⊢
    clear hW w
    go_enter Tryz.func44, Tryz.ntmps44
    go_wp2_with (first
      | ((with_reducible refine gG ?_); refine wpList_want rfl ?_)
      | (go_at_call 69; refine (HLO.out _ (hO.rd HR.out)).mono ?_; rintro e w1 ⟨rfl, rfl⟩)
      | (go_at_call 70; refine (HNR.out _ (hO.rd HR4.out)).mono ?_; rintro e ww ⟨rfl, hb⟩; replace hO := hO.call hb; clear hb)
      | ((with_reducible refine gBld (T := 104) ?_); refine own_bld #[.pointer none, .int .i64 2] (by kernel_rfl) ?_)
      | ((with_reducible refine gBox ?_); first | (refine bxA hO rfl ?_; clear hO; intro ub ww hO) | (refine bx1 hO rfl rfl ?_; clear hO; intro ub ww hO))
      | ((with_reducible refine gLoad ?_); first | refine ldX hO 0 rfl rfl (tA rfl) (tS rfl) ?_ | refine ldC hO 0 rfl rfl (tA rfl) rfl ?_))
    go_loopg [] 1 (fun q wr => q ≤ 1 ∧ Own wn wr [.blk ub (.cells #[.pointer none, .int .i64 2] 104 (0,0))])
    case atStart => exact ⟨by omega, hO⟩
    case round =>
      obtain ⟨hq, hO1⟩ := hrel
      clear hO
      have hO := hO1
      clear hO1
      go_wp2_with (first
        | ((with_reducible refine gG ?_); refine wpList_want rfl ?_)
        | ((with_reducible refine gLoad ?_); first | refine ldX hO 0 rfl rfl (tA rfl) (tS rfl) ?_ | refine ldC hO 0 rfl rfl (tA rfl) rfl ?_))
      go_ret2
      exact ⟨none, 0, rfl, hO.below, World.ownsRow_nil _ _ _ _⟩
  · rw [if_neg (fun h => h h40)] at hE4
    have ho : Go.Kc.mayOpen b4 := by obtain ⟨_, _, _, h⟩ := Go.Kc.opE_ok h40; exact h
    have hT4 : T = if E = 0 then (Go.Pz.uloop b4 V V ⟨Go.Kc.open_ 528 b4, false⟩ []).2 else [] := by rw [← hT]; unfold Go.Pz.unT; rw [hE, hV, hb4]
    have HNR := Lib.hid (fun w h => newR_ok 528 (by omega) (some ⟨ba, off + 4, none⟩) n4 (cap - 4) b4 w h (by omega) hl4 (by rw [← hl4]; exact ho.1) ho.2.1 _ rfl)
    have HNV : Hid (¬ Go.Kc.val ((b4.drop 1).take 4) = 4294967295) := ho.2.2
    have HOP := Lib.hid (Go.Kc.rok_open (n := 528) ho)
    have HE4 := Lib.hid hE4
    have HT4 := Lib.hid hT4
    have HMM := Lib.hid hM
    have HR := Lib.hid hR
    have HR4 := Lib.hid hR4
    have HB4 := Lib.hid hl4
    have HN4 : Hid (n4 ≤ 10000000) := by show _ ≤ _; omega
    have HNIL := Lib.hid nilT
    clear hR hT hE hM hlen nilT h1 hV hLE h2 h2' h3 hR4 hl4 hb4 h40 ho hE4 hT4
    generalize hW : w = wn at hO HR HR4 ⊢
    clear hW w
    go_enter Tryz.func44, Tryz.ntmps44
    go_wp2_with (first
      | ((with_reducible refine gG ?_); refine wpList_want rfl ?_)
      | (go_at_call 69; refine (HLO.out _ (hO.rd HR.out)).mono ?_; rintro e w1 ⟨rfl, rfl⟩)
      | (go_at_call 70; refine (HNR.out _ (hO.rd HR4.out)).mono ?_; rintro e ww hpost; unfold newPost at hpost; rw [if_neg HNV.out] at hpost; obtain ⟨rb, aP, cP, aB, cB, rfl, hK⟩ := hpost; replace hO := hO.join hK; clear hK)
      | ((with_reducible refine gBld (T := 104) ?_); refine own_bld (uC rb false) (by kernel_rfl) ?_)
      | ((with_reducible refine gBox ?_); first | (refine bxA hO rfl ?_; clear hO; intro ub ww hO) | (refine bx1 hO rfl rfl ?_; clear hO; intro ub ww hO)))
    have hO2 : Own wn ww (uL rb ub aB n4 cB aP cP b4 ⟨Go.Kc.open_ 528 b4, false⟩ [.sl 5 1 (.slice none 0 0) 0 (u8s [])]) := by
      have h := hO.add (Below.refl _ _) (r := .sl 5 1 (.slice none 0 0) 0 (u8s [])) (World.ownsRow_nil _ _ _ _)
      exact h.perm ((List.perm_append_comm (l₁ := [_, _]) (l₂ := [_, _, _])).trans (List.Perm.append_left [_, _, _] (List.Perm.swap _ _ _)))
    clear hO
    have hO := hO2
    clear hO2 HNR HLO
    go_loopg [10] (V + 1) (fun mm s10 wr => ∃ (s : Go.Pz.Us) (out : List (BitVec 8)) (K f : Nat) (aO : Option Addr) (cO : Nat), mm = (if s.bad then 0 else V - K + 1) ∧ s10 = .slice aO K cO ∧ K ≤ V ∧ Hid (out.length = K) ∧ Hid (Go.Pz.uloop b4 V f s out = Go.Pz.uloop b4 V V ⟨Go.Kc.open_ 528 b4, false⟩ []) ∧ Hid (s.bad = false → V ≤ K + f) ∧ Hid (Go.Kc.Rok 528 b4 s.r) ∧
      Own wn wr (uL rb ub aB n4 cB aP cP b4 s [.sl 5 1 (.slice aO K cO) K (u8s out)]))
    case atStart => exact ⟨⟨Go.Kc.open_ 528 b4, false⟩, [], 0, V, none, 0, by simp, rfl, by omega, rfl, rfl, fun _ => by omega, HOP.out, hO⟩
    case round =>
      obtain ⟨s, out, K, f, aO, cO, hmm2, rfl, hKV, HK, HF, HV, HRK, hO1⟩ := hrel
      clear hO
      have hO := hO1
      clear hO1
      obtain ⟨r, bad⟩ := s
      cases bad
      · dsimp only at hmm2
        simp only [Bool.false_eq_true, if_false] at hmm2
        unfold uL at hO
        dsimp only at hO
        by_cases hlt : K < V
        · have d5 : decide ((K : Int) < (V : Int)) = true := decide_eq_true (by omega)
          obtain ⟨g, rfl⟩ : ∃ g, f = g + 1 := ⟨f - 1, by have := HV.out rfl; omega⟩
          obtain ⟨t, ht⟩ : ∃ t, (Go.Pz.utok b4 ⟨r, false⟩ out V).1 = t := ⟨_, rfl⟩
          obtain ⟨o2, ho2⟩ : ∃ t, (Go.Pz.utok b4 ⟨r, false⟩ out V).2 = t := ⟨_, rfl⟩
          obtain ⟨K2, hK2⟩ : ∃ K2, o2.length = K2 := ⟨_, rfl⟩
          have hlen2 := Go.Pz.utok_len (b := b4) (s := ⟨r, false⟩) (out := out) (most := V) (by rw [HK.out]; exact hlt)
          rw [ht, ho2, hK2, HK.out] at hlen2
          have hst : Go.Pz.uloop b4 V g t o2 = Go.Pz.uloop b4 V V ⟨Go.Kc.open_ 528 b4, false⟩ [] := by
            rw [← HF.out]
            conv => rhs; unfold Go.Pz.uloop
            rw [if_pos ⟨rfl, by rw [HK.out]; exact hlt⟩, ht, ho2]
          have hrk : Go.Kc.Rok 528 b4 t.r := by rw [← ht]; exact Go.Pz.utok_rok HRK.out out V
          have HTC := Lib.hid (fun (w : World) hO => utok_calls (w0 := wn) (w := w) (L := []) (rb := rb) (ub := ub) (aB := aB) (cB := cB) (aP := aP) (cP := cP) (aO := aO) (cO := cO) b4 ⟨r, false⟩ HRK.out HB4.out HN4.out out HK.out V hKV (by omega) t o2 ht ho2 K2 hK2 hO)
          have HST := Lib.hid hst
          have HRK2 := Lib.hid hrk
          have HL2 := Lib.hid hlen2
          have HK2 := Lib.hid hK2
          have HVG : Hid (V ≤ K + (g + 1)) := HV.out rfl
          clear ht ho2 hst hrk hlen2 hK2 HF HV
          go_wp2_with (first
            | ((with_reducible refine gG ?_); refine wpList_want rfl ?_)
            | ((with_reducible refine gLoad ?_); first | refine ldX hO 0 rfl rfl (tA rfl) (tS rfl) ?_ | refine ldC hO 0 rfl rfl (tA rfl) rfl ?_ | refine ldX hO 1 rfl rfl (tA rfl) (tS rfl) ?_ | refine ldC hO 1 rfl rfl (tA rfl) rfl ?_ | refine ldX hO 2 rfl rfl (tA rfl) (tS rfl) ?_ | refine ldC hO 2 rfl rfl (tA rfl) rfl ?_ | refine ldX hO 3 rfl rfl (tA rfl) (tS rfl) ?_ | refine ldC hO 3 rfl rfl (tA rfl) rfl ?_)
            | (go_at_call 71; refine (HTC.out _ hO).mono ?_; rintro e ww ⟨a2, c2, rfl, hO2⟩; clear hO; have hO := hO2; clear hO2))
          go_roundg (if t.bad then 0 else V - K2 + 1)
          case measure =>
            have h := HL2.out
            cases hb : t.bad
            · have := h.2.1 hb
              simp; omega
            · simp; omega
          case rel => exact ⟨t, o2, K2, g, a2, c2, rfl, rfl, HL2.out.1, HK2.out, HST.out, fun hb => by have h := HL2.out.2.1 hb; have h2 := HVG.out; omega, HRK2.out, hO⟩
        · obtain rfl : K = V := by omega
          have d5 : decide ((K : Int) < (K : Int)) = false := decide_eq_false (by omega)
          have hfin : Go.Pz.uloop b4 K K ⟨Go.Kc.open_ 528 b4, false⟩ [] = (⟨r, false⟩, out) := by
            rw [← HF.out]; exact Go.Pz.uloop_stop (.inr (by rw [HK.out]; exact Nat.le_refl _)) f
          have he := HE4.out
          have ht := HT4.out
          rw [hfin] at he ht
          dsimp only at he ht
          by_cases hu : r.used = n4
          · rw [if_neg (by rintro (h | h); cases h; exact h hu)] at he
            rw [he, if_pos rfl] at ht
            subst ht
            subst he
            obtain rfl : M = K := by rw [← HMM.out, HK.out]
            have d6 : ((r.used : Int) == (n4 : Int)) = true := by simp [hu]
            have d6' : decide ((r.used : Int) = (n4 : Int)) = true := decide_eq_true (by omega)
            clear hfin HF HV HK HE4 HT4 HMM HNIL hmm2
            go_wp2_with (first
              | ((with_reducible refine gG ?_); refine wpList_want rfl ?_)
              | ((with_reducible refine gLoad ?_); first | refine ldX hO 0 rfl rfl (tA rfl) (tS rfl) ?_ | refine ldC hO 0 rfl rfl (tA rfl) rfl ?_ | refine ldX hO 1 rfl rfl (tA rfl) (tS rfl) ?_ | refine ldC hO 1 rfl rfl (tA rfl) rfl ?_ | refine ldX hO 2 rfl rfl (tA rfl) (tS rfl) ?_ | refine ldC hO 2 rfl rfl (tA rfl) rfl ?_ | refine ldX hO 3 rfl rfl (tA rfl) (tS rfl) ?_ | refine ldC hO 3 rfl rfl (tA rfl) rfl ?_)
              | (go_at_call 72; refine (used_calls hO).mono ?_; rintro e w1 ⟨rfl, rfl⟩))
            go_ret2
            exact ⟨aO, cO, rfl, hO.below, hO.row 4 rfl⟩
          · rw [if_pos (.inr hu)] at he
            obtain ⟨e1, e2⟩ := HNIL.out (by rw [he]; decide)
            subst e1
            subst e2
            subst he
            have d6 : ((r.used : Int) == (n4 : Int)) = false := by simp; omega
            have d6' : decide ((r.used : Int) = (n4 : Int)) = false := decide_eq_false (by omega)
            clear hfin HF HV HK HE4 HT4 HMM HNIL hmm2
            go_wp2_with (first
              | ((with_reducible refine gG ?_); refine wpList_want rfl ?_)
              | ((with_reducible refine gLoad ?_); first | refine ldX hO 0 rfl rfl (tA rfl) (tS rfl) ?_ | refine ldC hO 0 rfl rfl (tA rfl) rfl ?_ | refine ldX hO 1 rfl rfl (tA rfl) (tS rfl) ?_ | refine ldC hO 1 rfl rfl (tA rfl) rfl ?_ | refine ldX hO 2 rfl rfl (tA rfl) (tS rfl) ?_ | refine ldC hO 2 rfl rfl (tA rfl) rfl ?_ | refine ldX hO 3 rfl rfl (tA rfl) (tS rfl) ?_ | refine ldC hO 3 rfl rfl (tA rfl) rfl ?_)
              | (go_at_call 72; refine (used_calls hO).mono ?_; rintro e w1 ⟨rfl, rfl⟩))
            go_ret2
            exact ⟨none, 0, rfl, hO.below, World.ownsRow_nil _ _ _ _⟩
      · have hfin : Go.Pz.uloop b4 V V ⟨Go.Kc.open_ 528 b4, false⟩ [] = (⟨r, true⟩, out) := by
          rw [← HF.out]; exact Go.Pz.uloop_stop (.inl rfl) f
        have he := HE4.out
        rw [hfin] at he
        dsimp only at he
        rw [if_pos (.inl rfl)] at he
        obtain ⟨e1, e2⟩ := HNIL.out (by rw [he]; decide)
        subst e1
        subst e2
        subst he
        unfold uL at hO
        dsimp only at hO
        clear hfin HF HV HK HE4 HT4 HMM HNIL hmm2
        go_wp2_with (first
          | ((with_reducible refine gG ?_); refine wpList_want rfl ?_)
          | ((with_reducible refine gLoad ?_); first | refine ldX hO 0 rfl rfl (tA rfl) (tS rfl) ?_ | refine ldC hO 0 rfl rfl (tA rfl) rfl ?_ | refine ldX hO 1 rfl rfl (tA rfl) (tS rfl) ?_ | refine ldC hO 1 rfl rfl (tA rfl) rfl ?_ | refine ldX hO 2 rfl rfl (tA rfl) (tS rfl) ?_ | refine ldC hO 2 rfl rfl (tA rfl) rfl ?_ | refine ldX hO 3 rfl rfl (tA rfl) (tS rfl) ?_ | refine ldC hO 3 rfl rfl (tA rfl) rfl ?_))
        go_ret2
        exact ⟨none, 0, rfl, hO.below, World.ownsRow_nil _ _ _ _⟩
end Go.Proofs.YtniibdglodnhoaaGreatDoor

/- Walk: the document's more. -/
namespace Go.Own
open Go.RowKit
/-- of what a call has made, one thing -/
theorem Own.only {w0 w : World} {L : List Res} (h : Own w0 w L) {r : Res} (hr : r ∈ L) : Own w0 w [r] :=
  ⟨h.below, fun q hq => by rw [List.mem_singleton] at hq; rw [hq]; exact h.mem r hr, List.pairwise_singleton _ _⟩
end Go.Own
namespace Go.Proofs.YtniibdglodnhoaaGreatDoor
open Go.RowKit Go.Own Go.Bv Go.Ord Go.Eq Go.Opn Go.Pb

theorem iu8x : (Tryz.prog.info? 5).map (·.size) = some 1 := by kernel_rfl
set_option maxHeartbeats 2000000 in
set_option maxRecDepth 100000 in
theorem rmore_calls {w0 w : World} {L : List Res} {a : Option Addr} {n c : Nat} (b : List (BitVec 8)) (hb : b.length = n) (hn : n ≤ 10000000) (T : List (BitVec 8)) (hT : Go.Kc.be n (Go.Kc.val b + 1) = T)
    (hO : Own w0 w (.sl 5 1 (.slice a n c) n (u8s b) :: L)) :
    Calls Tryz.prog 98 #[.slice a n c] w fun e w' => e = .returned (.tuple #[]) ∧ Own w0 w' (.sl 5 1 (.slice a n c) n (u8s T) :: L) := by
  have HB := Lib.hid hb
  have HT := Lib.hid hT
  clear hb hT
  have i0 : IntKind.i64.wrap ((n : Int) - 1) = (n : Int) - 1 := by rw [IntKind.wrap_i64]; omega
  obtain ⟨z0, hz0⟩ : ∃ z, (n : Int) - 1 = z := ⟨_, rfl⟩
  rw [hz0] at i0
  go_enter Tryz.func98, Tryz.ntmps98
  go_wp2
  go_loopg [2] n (fun m s2 wr => ∃ (j : Nat) (z : Int), m = n - j ∧ j ≤ n ∧ s2 = .int .i64 z ∧ z = (n : Int) - 1 - j ∧ Hid (Go.Kc.val b + 1 = (Go.Kc.val (b.take (n - j)) + 1) * 256 ^ j) ∧
    Own w0 wr (.sl 5 1 (.slice a n c) n (u8s (b.take (n - j) ++ List.replicate j 0#8)) :: L))
  case atStart => exact ⟨0, z0, rfl, by omega, by rw [← hz0], by omega, by show _ = _; rw [Nat.sub_zero, List.take_of_length_le (by rw [HB.out]; omega)]; simp, by rw [Nat.sub_zero, List.take_of_length_le (by rw [HB.out]; omega), List.replicate_zero, List.append_nil]; exact hO⟩
  case round =>
    obtain ⟨j, z, rfl, hj, rfl, hz, HV, hO1⟩ := hrel
    clear hO
    have hO := hO1
    clear hO1 i0 hz0
    by_cases hlt : j < n
    · obtain ⟨i, rfl⟩ : ∃ i : Nat, z = (i : Int) := ⟨z.toNat, by omega⟩
      have hi : i = n - j - 1 := by omega
      have hin : i < n := by omega
      obtain ⟨g, rfl⟩ := hO.slPlace 0 rfl (by omega)
      obtain ⟨cur, hcur⟩ : ∃ cur, b.take (n - j) ++ List.replicate j 0#8 = cur := ⟨_, rfl⟩
      rw [hcur] at hO
      have hil : i < b.length := by rw [HB.out]; exact hin
      have hci : cur[i]? = some b[i] := by
        rw [← hcur, List.getElem?_append_left (by rw [List.length_take, HB.out]; omega), List.getElem?_take_of_lt (by omega), List.getElem?_eq_getElem hil]
      have hcl : i < cur.length := by rw [← hcur]; simp; omega
      have hg : (u8s cur)[i]? = some (.int .u8 ((b[i]).toNat : Int)) := by
        rw [u8s_get cur i hcl]
        have := List.getElem?_eq_getElem hcl
        rw [hci] at this
        rw [← Option.some.inj this]
      obtain ⟨x, hx⟩ : ∃ x, b[i] = x := ⟨_, rfl⟩
      rw [hx] at hg
      have hst : (u8s cur).set i (.int .u8 (((x + 1#8).toNat : Nat) : Int)) = u8s (cur.set i (x + 1#8)) := by unfold u8s; rw [List.map_set]
      have e4 : IntKind.u8.wrap ((x.toNat : Int) + 1) = (((x + 1#8).toNat : Nat) : Int) := by rw [IntKind.wrap_u8', BitVec.toNat_add]; simp
      have hxl := x.isLt
      have hset : cur.set i (x + 1#8) = b.take (n - j - 1) ++ [x + 1#8] ++ List.replicate j 0#8 := by
        rw [← hcur, ← hi, show n - j = i + 1 by omega, List.take_succ_eq_append_getElem hil, List.append_assoc, List.append_assoc, List.set_append_right _ _ (by rw [List.length_take]; omega)]
        congr 1
        rw [List.length_take, HB.out, show i - min i n = 0 by omega]; rfl
      have hg2 : ((u8s cur).set i (.int .u8 (((x + 1#8).toNat : Nat) : Int)))[i]? = some (.int .u8 (((x + 1#8).toNat : Nat) : Int)) := by
        rw [List.getElem?_set_self (by rw [u8s_length]; exact hcl)]
      have HG2 := Lib.hid hg2
      have HG := Lib.hid hg
      have HST := Lib.hid hst
      have HSET := Lib.hid hset
      by_cases hx5 : x.toNat < 255
      · have HR : Hid (b.take (n - j - 1) ++ [x + 1#8] ++ List.replicate j 0#8 = T) := by
          show _ = _
          have h := Go.Kc.more_hit HB.out hlt HV.out (by subst hi; rw [hx]; exact hx5)
          subst hi
          rw [hx] at h
          rw [h, HT.out]
        have i2 : ((((x + 1#8).toNat : Nat) : Int) == 0) = false := by rw [BitVec.toNat_add]; simp; omega
        generalize hy : x + 1#8 = y at *
        clear hy hg2 hci hcl hil hx hg hst hset hi hcur hx5 hz
        go_wp2_with (first
          | ((with_reducible refine gLoad (T := 5) ?_); first | refine ld_sl hO 0 rfl rfl HG.out (tA rfl) ?_ | refine ld_sl hO 0 rfl rfl (HG2.out) (tA rfl) ?_)
          | ((with_reducible refine gStore (T := 5) ?_); refine own_setElem hO 0 5 _ _ _ rfl rfl rfl (by omega) iu8x rfl ?_; clear hO; intro ww hO))
        refine bodyPost_ret (results_none rfl _ _ _) rfl ?_
        exact ⟨rfl, by rw [← HR.out, ← HSET.out, ← HST.out]; exact hO⟩
      · have hv2 := Go.Kc.more_miss HB.out hlt HV.out (by subst hi; rw [hx]; exact hx5)
        have HV2 := Lib.hid hv2
        have hx6 : x + 1#8 = 0#8 := by apply BitVec.eq_of_toNat_eq; rw [BitVec.toNat_add]; simp; omega
        rw [hx6] at e4 HG2 HST HSET
        have HZ : Hid (b.take (n - j - 1) ++ [0#8] ++ List.replicate j 0#8 = b.take (n - (j + 1)) ++ List.replicate (j + 1) 0#8) := by
          show _ = _
          rw [List.append_assoc, Nat.sub_sub]; rfl
        have i3 : IntKind.i64.wrap ((i : Int) - 1) = (i : Int) - 1 := by rw [IntKind.wrap_i64]; omega
        have HZZ : Hid ((i : Int) - 1 = (n : Int) - 1 - (j + 1 : Nat)) := by show _ = _; omega
        clear hv2 hx6 hg2 hci hcl hil hx hg hst hset hcur hx5 hi hz
        go_wp2_with (first
          | ((with_reducible refine gLoad (T := 5) ?_); first | refine ld_sl hO 0 rfl rfl HG.out (tA rfl) ?_ | refine ld_sl hO 0 rfl rfl (HG2.out) (tA rfl) ?_)
          | ((with_reducible refine gStore (T := 5) ?_); refine own_setElem hO 0 5 _ _ _ rfl rfl rfl (by omega) iu8x rfl ?_; clear hO; intro ww hO))
        go_roundg (n - (j + 1))
        case measure => omega
        case rel => exact ⟨j + 1, (i : Int) - 1, rfl, by omega, rfl, HZZ.out, HV2.out, by rw [← HZ.out, ← HSET.out, ← HST.out]; exact hO⟩
    · obtain rfl : j = n := by omega
      have HE : Hid (List.replicate j 0#8 = T) := by
        show _ = _
        rw [Go.Kc.more_end HB.out HV.out, HT.out]
      have d2 : decide (0 ≤ z) = false := decide_eq_false (by omega)
      go_wp2
      refine bodyPost_end (results_none rfl _ _ _) rfl ?_
      exact ⟨rfl, by rw [← HE.out]; rw [Nat.sub_self, List.take_zero, List.nil_append] at hO; exact hO⟩
end Go.Proofs.YtniibdglodnhoaaGreatDoor

/- Walk: the document's Encode. -/
namespace Go.Kc
theorem dtext_carry {K V P : Nat} {tx : List (BitVec 8)} (htx : be (1 + K) (V / 4294967296) = tx) (hc : 4294967296 ≤ V % 4294967296 + P) (hP : P < 4294967296) (hroom : V ≤ 4294967296 * 256 ^ K) : be (1 + K) (val tx + 1) = be (1 + K) ((V + P) / 4294967296) := by
  have h1 : V / 4294967296 < 256 ^ (1 + K) := by
    have : 0 < 256 ^ K := Nat.pow_pos (by decide)
    rw [Nat.pow_add, Nat.pow_one]
    omega
  rw [← htx, val_be _ _ h1]
  congr 1
  omega
/-- the writer's next state and what the document's writer wants of it -/
theorem dfacts {n : Nat} {l : List (Nat × Bool)} (hw : within n l) {k : Nat} {r : Rc} (hr : enc n (l.take k) = r) {a : Nat} (ha : a < n) (b : Bool) :
    r.Good ∧ r.p.length = n ∧ r.V ≤ 4294967296 * 256 ^ r.k ∧ r.k ≤ l.length ∧ 253952 ≤ r.part a ∧ r.part a + 253952 ≤ r.span ∧ mayB (r.p.getD a 0) = true := by
  have hw2 : within n (l.take k) := fun x hx => hw x (List.mem_of_mem_take hx)
  obtain ⟨g, _, h3, h4⟩ := enc_facts hw2
  have h5 := rc_room hw2
  rw [hr] at g h3 h4 h5
  obtain ⟨b1, b2, _⟩ := part_bounds g (a := a) (by rw [h3]; exact ha)
  refine ⟨g, h3, by omega, ?_, b1, b2, all_get g.may (by rw [h3]; exact ha)⟩
  rw [List.length_take] at h4
  omega
end Go.Kc
namespace Go.Proofs.YtniibdglodnhoaaGreatDoor
open Go.RowKit Go.Own Go.Bv Go.Ord Go.Eq Go.Opn Go.Pb

set_option maxHeartbeats 8000000 in
set_option maxRecDepth 100000 in
theorem rencode_ok (n : Nat) (hn : n ≤ 1024) (a : Option Addr) (m cap : Nat) (l : List Bt) (w : World) (hR : Rd w 2 a m cap (bts l)) (hm : m ≤ 1048576) (hl : l.all (okI (n : Int)) = true) (M : Nat) (T : List (BitVec 8)) (hT : Go.Kc.encT n (Go.Kc.prs l) = T) (hM : T.length = M) :
    Calls Tryz.prog 62 #[.int .i64 (n : Int), .slice a m cap] w fun e w' => ∃ a' c', e = .returned (.tuple #[.slice a' M c', .int .i64 0]) ∧ Below w.heap.size w w' ∧ w'.ownsRow w.heap.size 5 1 (.slice a' M c') M (u8s T) := by
  have hO := Own.start w
  have hlen : l.length = m := by have := hR.len; rw [bts_length] at this; omega
  have hnT : newT (n : Int) = List.replicate n 1024 := by unfold newT; rw [if_pos (by omega), Int.toNat_natCast]
  have hnE : newE (n : Int) = 0 := by unfold newE; rw [if_pos (by omega)]
  have HNEW := Lib.hid (fun w => rNew_calls (n : Int) w n (List.replicate n 1024) 0 (by rw [hnT, List.length_replicate]) hnT hnE)
  have hw := within_ok hl
  have HW := Lib.hid hw
  have HALL := Lib.hid hl
  have HLN := Lib.hid hlen
  have HT := Lib.hid hT
  have HTM := Lib.hid hM
  have HR := Lib.hid hR
  have HMX := Lib.hid hm
  have dmx : decide ((1048576 : Int) < (m : Int)) = false := decide_eq_false (by omega)
  clear hR hlen hnT hnE hw hl hT hM
  generalize hWW : w = wn at hO HR ⊢
  clear hWW w
  go_enter Tryz.func62, Tryz.ntmps62
  go_wp2_with (first
    | (go_at_call 76; refine (HNEW.out _).mono ?_; rintro e ww ⟨a1, c1, rfl, hb, hr⟩; replace hO := hO.addRow hb hr; clear hb hr))
  clear dmx
  go_loopg [30] m (fun q c wr => ∃ k : Nat, q = m - k ∧ k ≤ m ∧ c = .int .i64 (k : Int) ∧ Own wn wr [.sl 3 1 (.slice a1 n c1) n (i64s (List.replicate n 1024))])
  case atStart => exact ⟨0, rfl, by omega, rfl, hO⟩
  case round =>
    obtain ⟨k, rfl, hk, rfl, hO1⟩ := hrel
    clear hO
    have hO := hO1
    clear hO1
    by_cases hlt : k < m
    · have hb0 : decide ((k : Int) < (m : Int)) = true := decide_eq_true (by omega)
      have hkl : k < l.length := by rw [HLN.out]; exact hlt
      obtain ⟨ba, off, rfl⟩ := HR.out.place (by omega)
      have hx := List.getElem?_eq_getElem hkl
      have hok := List.all_eq_true.1 HALL.out _ (List.getElem_mem hkl)
      generalize l[k] = x at hx hok
      obtain ⟨pos, b⟩ := x
      simp only [okI, Bool.and_eq_true, decide_eq_true_eq] at hok
      have i1 : decide (pos < 0) = false := decide_eq_false (by omega)
      have i2 : decide ((n : Int) ≤ pos) = false := decide_eq_false (by omega)
      have HX := Lib.hid hx
      clear hx hok hkl
      go_wp2_with (first
        | ((with_reducible refine gG ?_); refine wpList_want rfl ?_)
        | ((with_reducible refine gAlloc (T := 122) ?_); refine own_alloc hO _ _ ibtz ?_; clear hO; intro bx ww hO)
        | ((with_reducible refine gLoad (T := 122) ?_); refine ld_bt (hO.rd HR.out) HX.out rfl (by omega) (tA rfl) (tS rfl) ?_)
        | ((with_reducible refine gLoad ?_); first | refine ldX hO 0 rfl rfl (tA rfl) (tS rfl) ?_ | refine ldC hO 0 rfl rfl (tA rfl) rfl ?_)
        | ((with_reducible refine gStore ?_); first | (refine stX hO 0 rfl rfl rfl rfl rfl (tS rfl) ?_; clear hO; intro ww hO) | (refine stC hO 0 rfl rfl rfl (ltb rfl) rfl (tS rfl) ?_; clear hO; intro ww hO)))
      go_roundg (m - (k + 1))
      case measure => omega
      case rel => exact ⟨k + 1, rfl, by omega, by go_num, hO.tail⟩
    · obtain rfl : k = m := by omega
      go_wp2_with (first
        | ((with_reducible refine gBuild (T := 29) ?_); refine own_build hO 29 1 _ eu8 (u8s [0#8]).toArray (by omega) (by omega) (by kernel_rfl) rfl ?_; clear hO; intro g2 ww hO))
      replace hO : Own wn _ [.sl 5 1 (.slice (some ⟨g2, 0, none⟩) 1 1) 1 (u8s [0#8]), .sl 3 1 (.slice a1 n c1) n (i64s (List.replicate n 1024))] := hO
      go_loopg [10, 11, 12, 47] k (fun q s10 s11 s12 c wr => ∃ (j : Nat) (r : Go.Kc.Rc) (low X : Nat) (tx : List (BitVec 8)) (aX : Option Addr) (cX : Nat), q = k - j ∧ j ≤ k ∧ c = .int .i64 (j : Int) ∧ s10 = .int .u32 (r.span : Int) ∧ s11 = .int .u64 (low : Int) ∧ s12 = .slice aX X cX ∧
        Hid (Go.Kc.enc n ((Go.Kc.prs l).take j) = r) ∧ Hid (r.V % 4294967296 = low) ∧ Hid (Go.Kc.be (1 + r.k) (r.V / 4294967296) = tx) ∧ Hid (1 + r.k = X) ∧ Own wn wr [.sl 5 1 (.slice aX X cX) X (u8s tx), .sl 3 1 (.slice a1 n c1) n (i64s r.p)])
      case atStart => exact ⟨0, Go.Kc.start n, 0, 1, [0#8], some ⟨g2, 0, none⟩, 1, rfl, by omega, rfl, rfl, rfl, rfl, rfl, rfl, by show Go.Kc.be (1 + 0) (0 / 4294967296) = _; rfl, rfl, hO⟩
      case round =>
        obtain ⟨j, r, low, X, tx, aX, cX, rfl, hj, rfl, rfl, rfl, rfl, HRR, HLO, HTX, HXX, hO1⟩ := hrel
        clear hO
        have hO := hO1
        clear hO1
        by_cases hlt2 : j < k
        · have hb0 : decide ((j : Int) < (k : Int)) = true := decide_eq_true (by omega)
          have hjl : j < l.length := by rw [HLN.out]; exact hlt2
          obtain ⟨ba, off, rfl⟩ := HR.out.place (by omega)
          have hx := List.getElem?_eq_getElem hjl
          have hok := List.all_eq_true.1 HALL.out _ (List.getElem_mem hjl)
          have hnx := Go.Kc.prs_next hjl
          generalize l[j] = x at hx hok hnx
          obtain ⟨pos, b⟩ := x
          simp only [okI, Bool.and_eq_true, decide_eq_true_eq] at hok
          obtain ⟨p, rfl⟩ : ∃ p : Nat, pos = (p : Int) := ⟨pos.toNat, by omega⟩
          have hpn : p < n := by omega
          obtain ⟨g, hpl, hroom, hrk, b1, b2, hmv⟩ := Go.Kc.dfacts HW.out HRR.out hpn b
          rw [Go.Kc.prs_length, HLN.out] at hrk
          have hst : Go.Kc.enc n ((Go.Kc.prs l).take (j + 1)) = r.step p b := by
            rw [← Go.Kc.prs_take, hnx, Go.Kc.prs_take]
            show (Go.Kc.start n).run _ = _
            rw [Go.Kc.run_append]
            have h := HRR.out
            unfold Go.Kc.enc at h
            rw [h, Int.toNat_natCast]; rfl
          obtain ⟨gP, rfl⟩ := hO.slPlace 1 rfl (by omega)
          obtain ⟨pv, hpv⟩ : ∃ pv, r.p.getD p 0 = pv := ⟨_, rfl⟩
          obtain ⟨P, hP⟩ : ∃ P, r.part p = P := ⟨_, rfl⟩
          rw [hpv, kc_may] at hmv
          rw [hP] at b1 b2
          have hlo := g.lo
          have hhi := g.hi
          have hg : (i64s r.p)[p]? = some (.int .i64 pv) := by
            rw [i64s_get r.p p (by omega), ← hpv, List.getD_eq_getElem?_getD, List.getElem?_eq_getElem (by omega)]; rfl
          have hsp : ∀ w, Calls Tryz.prog 97 #[.int .u32 (r.span : Int), .int .i64 pv] w fun e w' => e = .returned (.tuple #[.int .u32 (P : Int), .int .i64 0]) ∧ w = w' := fun w => by
            have h := rsplit_calls (r.span : Int) pv w (by omega) (by omega)
            have e : splitOk (r.span : Int) pv = true := by unfold splitOk; rw [hmv, decide_eq_true (by omega)]; rfl
            have e2 : splitI (r.span : Int) pv = (P : Int) := by
              have hp0 := ((mayB_iff pv).1 hmv).1
              rw [← hP]
              unfold splitI Go.Kc.Rc.part
              rw [hpv, Int.natCast_mul, Int.natCast_ediv, Int.toNat_of_nonneg (by omega)]; rfl
            rw [e, if_pos rfl, if_pos rfl, e2] at h
            exact h
          have hln : ∀ w, Calls Tryz.prog 99 #[.int .i64 pv, .bool b] w fun e w' => e = .returned (.tuple #[.int .i64 (learnI pv b), .int .i64 0]) ∧ w = w' := fun w => by
            have h := rLearn_calls pv b w
            rw [hmv, if_pos rfl, if_pos rfl] at h
            exact h
          have hset : (i64s r.p).set p (.int .i64 (learnI pv b)) = i64s (r.mid p b).p := by
            unfold Go.Kc.Rc.mid i64s
            dsimp only
            rw [List.map_set, hpv]; rfl
          have hm1 : (r.mid p b).V = if b then r.V + P else r.V := by rw [← hP]; rfl
          have hm2 : (r.mid p b).span = if b then r.span - P else P := by rw [← hP]; rfl
          have hm3 : (r.mid p b).k = r.k := rfl
          obtain ⟨t, ht⟩ : ∃ t, r.step p b = t := ⟨_, rfl⟩
          have hun : (r.mid p b).norm = t := ht
          rw [ht] at hst
          obtain ⟨u, hu⟩ : ∃ u, r.mid p b = u := ⟨_, rfl⟩
          rw [hu] at hset hm1 hm2 hm3 hun
          have htl : tx.length = X := by rw [← HTX.out, Go.Kc.be_length, HXX.out]
          have hloW : low < 4294967296 := by rw [← HLO.out]; exact Nat.mod_lt _ (by decide)
          have hXm : X + 1 ≤ k + 2 := by rw [← HXX.out]; omega
          have HX := Lib.hid hx
          have HG := Lib.hid hg
          have HSP := Lib.hid hsp
          have HLE := Lib.hid hln
          have HST := Lib.hid hst
          have HUN := Lib.hid hun
          have HUK := Lib.hid hm3
          have HTL := Lib.hid htl
          have HXM1 := Lib.hid hXm
          have HLW := Lib.hid hloW
          have HROOM := Lib.hid hroom
          have HB1 : Hid (253952 ≤ P ∧ P + 253952 ≤ r.span ∧ r.span < 4294967296) := ⟨b1, b2, hhi⟩
          have hXs : X ≤ 10000000 := by omega
          have HXs := Lib.hid hXs
          clear hx hok hnx hst hpv hP hmv b1 b2 hlo hhi hg hsp hln hun hu ht htl hloW hroom hm3 hrk hpl g hXm hXs hjl
          cases b
          · simp only [Bool.false_eq_true, if_false] at hm1 hm2
            have HSET := Lib.hid hset
            have HUV : Hid (u.V = r.V) := hm1
            have HUS : Hid (u.span = P) := hm2
            clear hset hm1 hm2
            have d5 : decide (4294967296 ≤ (low : Int)) = false := decide_eq_false (by have := HLW.out; omega)
            go_wp2_with (first
              | ((with_reducible refine gAlloc (T := 122) ?_); refine own_alloc hO _ _ ibtz ?_; clear hO; intro bx ww hO)
              | ((with_reducible refine gLoad (T := 122) ?_); refine ld_bt (hO.rd HR.out) HX.out rfl (by omega) (tA rfl) (tS rfl) ?_)
              | ((with_reducible refine gLoad ?_); first | refine ldX hO 0 rfl rfl (tA rfl) (tS rfl) ?_ | refine ldC hO 0 rfl rfl (tA rfl) rfl ?_)
              | ((with_reducible refine gLoad (T := 3) ?_); refine ld_sl hO 2 rfl rfl HG.out (tA rfl) ?_)
              | (go_at_call 97; refine (HSP.out _).mono ?_; rintro e ww ⟨rfl, rfl⟩)
              | (go_at_call 98; refine (rmore_calls tx HTL.out HXs.out ty HMO.out hO.swap).mono ?_; rintro e ww ⟨rfl, hO2⟩; clear hO; have hO := hO2.swap; clear hO2)
              | ((with_reducible refine gStore ?_); first | (refine stX hO 0 rfl rfl rfl rfl rfl (tS rfl) ?_; clear hO; intro ww hO) | (refine stC hO 0 rfl rfl rfl (ltb rfl) rfl (tS rfl) ?_; clear hO; intro ww hO)))
            clear d5
            have HLO2 : Hid (u.V % 4294967296 = low) := by show _ = _; rw [HUV.out, HLO.out]
            have HTY : Hid (Go.Kc.be (1 + u.k) (u.V / 4294967296) = tx) := by show _ = _; rw [HUV.out, HUK.out, HTX.out]
            have HUB : Hid (253952 ≤ u.span ∧ u.span < 4294967296) := by have h1 := HUS.out; have h2 := HB1.out; show _ ∧ _; omega
            rw [← HUS.out]
            replace hO : Own wn _ [.blk bx (.cells (Bt.C ⟨(p : Int), false⟩) 122 (0,0)), .sl 5 1 (.slice aX X cX) X (u8s tx), .sl 3 1 (.slice (some ⟨gP, 0, none⟩) n c1) n (i64s r.p)] := hO
            refine wp_region_textS (fun w' => Own wn w' [.blk bx (.cells (Bt.C ⟨(p : Int), false⟩) 122 (0,0))]) (fun op => match op with | .load _ (.tmp 84) => false | .load _ _ => true | _ => false) (by kernel_rfl) (by kernel_rfl) (hO.drew.only (by simp)) ?_
            replace hO := hO.drew
            generalize World.drew _ = wd at hO ⊢
            go_wp2_with (first
              | (((with_reducible refine gIL ?_); first | refine wpI_ldcS (fun w' hS => hS.blk 0 rfl) rfl rfl (tA rfl) rfl ?_); first | (refine wpI_act (by simp only [Act.put, List.setIfInBounds_toArray, List.set_cons_succ, List.set_cons_zero]; rfl) ?_) | skip)
              | ((with_reducible refine gLoad (T := 3) ?_); refine ld_sl hO 2 rfl rfl HG.out (tA rfl) ?_)
              | (go_at_call 99; refine (HLE.out _).mono ?_; rintro e ww ⟨rfl, rfl⟩)
              | ((with_reducible refine gStore (T := 3) ?_); refine own_setElem hO 2 3 _ _ _ rfl rfl rfl (by omega) ii64s rfl ?_; clear hO; intro ww hO)
              | ((with_reducible refine gI ?_); refine wpI_step rfl rfl (by kernel_rfl) ?_; intro K hK; have HK := Lib.hid hK; clear hK) | ((with_reducible refine gI ?_); first | refine wpI_skip rfl ?_ | refine wpI_want rfl ?_) | ((with_reducible refine gOnlyK HK.out ?_ ?_); exact hO.only (by simp); clear HK K; first | (refine wpI_act (by simp only [Act.put, List.setIfInBounds_toArray, List.set_cons_succ, List.set_cons_zero]; rfl) ?_) | skip) | (with_reducible refine wpI_nil ?_))
            replace hO : Own wn _ (.blk bx (.cells (Bt.C ⟨(p : Int), false⟩) 122 (0,0)) :: .sl 5 1 (.slice aX X cX) X (u8s tx) :: .sl 3 1 (.slice (some ⟨gP, 0, none⟩) n c1) n ((i64s r.p).set p (.int .i64 (learnI pv false))) :: []) := hO
            rw [HSET.out] at hO
            replace hO := hO.tail
            clear HG HLE HSET HTX HSP
            go_loopg [10, 11, 12] 1 (fun q s10 s11 s12 wr => ∃ (v : Go.Kc.Rc) (lo Y : Nat) (tz : List (BitVec 8)) (aY : Option Addr) (cY : Nat), q ≤ 1 ∧ Hid (v.span < 16777216 → q = 1) ∧ s10 = .int .u32 (v.span : Int) ∧ s11 = .int .u64 (lo : Int) ∧ s12 = .slice aY Y cY ∧ Hid (v.norm = t) ∧ Hid (v.p = u.p) ∧ Hid (253952 ≤ v.span ∧ v.span < 4294967296) ∧ Hid (v.V % 4294967296 = lo) ∧ Hid (Go.Kc.be (1 + v.k) (v.V / 4294967296) = tz) ∧ Hid (1 + v.k = Y) ∧ Hid (Y ≤ k + 2) ∧ Hid (v.span < 16777216 → Y ≤ k + 1) ∧
              Own wn wr [.sl 5 1 (.slice aY Y cY) Y (u8s tz), .sl 3 1 (.slice (some ⟨gP, 0, none⟩) n c1) n (i64s u.p)])
            case atStart => exact ⟨u, low, X, tx, aX, cX, by omega, fun _ => rfl, rfl, rfl, rfl, HUN.out, rfl, HUB.out, HLO2.out, HTY.out, by show _ = _; rw [HUK.out, HXX.out], by have := HXM1.out; show _ ≤ _; omega, by have := HXM1.out; intro _; omega, hO⟩
            case round =>
              obtain ⟨v, lo, Y, tz, aY, cY, hq, HQ, rfl, rfl, rfl, HN, HP, HS, HLO3, HTZ, HY, HYM, HYV, hO1⟩ := hrel
              clear hO
              have hO := hO1
              clear hO1
              by_cases hv : v.span < 16777216
              · obtain ⟨oc, hoc⟩ : ∃ oc, BitVec.ofNat 8 (lo / 16777216) = oc := ⟨_, rfl⟩
                obtain ⟨R, hRR⟩ : ∃ R, lo % 16777216 = R := ⟨_, rfl⟩
                obtain ⟨W, hWW⟩ : ∃ W, v.span * 256 = W := ⟨_, rfl⟩
                have hlo : lo < 4294967296 := by rw [← HLO3.out]; exact Nat.mod_lt _ (by decide)
                have hoN : oc.toNat = lo / 16777216 := by rw [← hoc, BitVec.toNat_ofNat]; omega
                have hol := oc.isLt
                have hRl : R < 16777216 := by omega
                have f1 : (lo : Int).tdiv 16777216 = (oc.toNat : Int) := by rw [hoN]; rfl
                have f1' : (lo : Int) / 16777216 = (oc.toNat : Int) := by rw [hoN]; rfl
                have f2 : IntKind.u8.wrap (oc.toNat : Int) = (oc.toNat : Int) := by rw [IntKind.wrap_u8']; omega
                have f3 : (lo : Int).tmod 16777216 = (R : Int) := by rw [← hRR]; rfl
                have f3' : (lo : Int) % 16777216 = (R : Int) := by rw [← hRR]; rfl
                have f4 : IntKind.u64.wrap ((R : Int) * 256) = (R : Int) * 256 := by simp [IntKind.wrap, IntKind.bits, IntKind.signed]; omega
                have f5 : IntKind.u32.wrap ((v.span : Int) * 256) = (W : Int) := by have := HS.out; simp [IntKind.wrap, IntKind.bits, IntKind.signed]; omega
                have d1 : decide ((v.span : Int) < 16777216) = true := decide_eq_true (by omega)
                have HNX : Hid (Go.Kc.be (1 + (v.k + 1)) (v.V * 256 / 4294967296) = tz ++ [oc]) := by
                  show _ = _
                  rw [← Go.Kc.be_more, HTZ.out, HLO3.out, hoc]
                have HUA : Hid (u8s (tz ++ [oc]) = u8s tz ++ u8s [oc]) := by
                  show _ = _
                  unfold u8s
                  rw [List.map_append]
                have HNR : Hid (v.norm = ⟨v.p, v.V * 256, W, v.k + 1⟩) := by show _ = _; unfold Go.Kc.Rc.norm; rw [if_pos hv, hWW]
                have HWB : Hid (16777216 ≤ W ∧ W < 4294967296) := by have := HS.out; show _ ∧ _; omega
                have HLX : Hid (v.V * 256 % 4294967296 = R * 256) := by have := HLO3.out; show _ = _; omega
                have hyk : Y ≤ 1048577 := by have h1 := HYV.out hv; omega
                have HYK : Hid (Y ≤ k + 1) := HYV.out hv
                obtain rfl := HQ.out hv
                clear hoc hRR hWW hlo hoN hRl hv hq
                go_wp2_with (first
                  | ((with_reducible refine gBuild (T := 29) ?_); refine own_build hO 29 1 _ eu8 (u8s [oc]).toArray (by omega) (by omega) (by kernel_rfl) rfl ?_; clear hO; intro g2 ww hO)
                  | ((with_reducible refine gAppend ?_); refine own_append hO 1 _ _ 29 eu8 rfl rfl rfl (hO.rdAt 0 rfl) (u8s_one _) (Y + 1) (by omega) (by simp [maxLen]; omega) (by omega) ?_; clear hO; intro a2 c2 ww hO))
                go_roundg 0
                case measure => omega
                case rel => exact ⟨⟨v.p, v.V * 256, W, v.k + 1⟩, R * 256, Y + 1, tz ++ [oc], a2, c2, by omega, by have := HWB.out; intro h; dsimp only at h; omega, rfl, by go_num, rfl, by show Go.Kc.Rc.norm _ = _; rw [← HN.out, HNR.out]; unfold Go.Kc.Rc.norm; have := HWB.out; dsimp only; rw [if_neg (by omega)], HP.out, by have := HWB.out; show _ ∧ _; dsimp only; omega, HLX.out, HNX.out, by have := HY.out; show _ = _; dsimp only; omega, by have := HYK.out; show _ ≤ _; omega, by have := HWB.out; intro h; dsimp only at h; omega, by rw [HUA.out]; exact hO.tail⟩
              · have HVT : Hid (v = t) := by show _ = _; rw [← HN.out]; unfold Go.Kc.Rc.norm; rw [if_neg hv]
                have HTP : Hid (u.p = t.p) := by show _ = _; rw [← HVT.out, HP.out]
                have d1 : decide ((v.span : Int) < 16777216) = false := decide_eq_false (by omega)
                clear hv hq HQ
                go_wp2
                go_roundg (k - (j + 1))
                case measure => omega
                case rel => exact ⟨j + 1, t, lo, Y, tz, aY, cY, rfl, by omega, by go_num, by rw [HVT.out], rfl, rfl, HST.out, by rw [← HVT.out]; exact HLO3.out, by rw [← HVT.out]; exact HTZ.out, by rw [← HVT.out]; exact HY.out, by rw [← HTP.out]; exact hO⟩
          · simp only [if_true] at hm1 hm2
            have HSET := Lib.hid hset
            have HUV : Hid (u.V = r.V + P) := hm1
            have HUS : Hid (u.span = r.span - P) := hm2
            clear hset hm1 hm2
            obtain ⟨lo1, hlo1⟩ : ∃ x, low + P = x := ⟨_, rfl⟩
            have a1 : IntKind.u64.wrap (P : Int) = (P : Int) := by have := HB1.out; simp [IntKind.wrap, IntKind.bits, IntKind.signed]; omega
            have a2 : IntKind.u64.wrap ((low : Int) + (P : Int)) = (lo1 : Int) := by have := HB1.out; have := HLW.out; simp [IntKind.wrap, IntKind.bits, IntKind.signed]; omega
            have a3 : IntKind.u32.wrap ((r.span : Int) - (P : Int)) = (u.span : Int) := by have h1 : u.span = r.span - P := HUS.out; have := HB1.out; simp [IntKind.wrap, IntKind.bits, IntKind.signed]; omega
            have HUB : Hid (253952 ≤ u.span ∧ u.span < 4294967296) := by have h1 : u.span = r.span - P := HUS.out; have h2 := HB1.out; show _ ∧ _; omega
            by_cases hcy : low + P < 4294967296
            · have d5 : decide (4294967296 ≤ (lo1 : Int)) = false := decide_eq_false (by omega)
              have HLO2 : Hid (u.V % 4294967296 = lo1) := by have h1 : u.V = r.V + P := HUV.out; have h2 := HLO.out; show _ = _; omega
              have HTY : Hid (Go.Kc.be (1 + u.k) (u.V / 4294967296) = tx) := by
                have h1 : u.V = r.V + P := HUV.out
                have h2 := HLO.out
                have h3 : u.V / 4294967296 = r.V / 4294967296 := by omega
                show _ = _
                rw [h3, HUK.out, HTX.out]
              clear hcy hlo1
              go_wp2_with (first
                | ((with_reducible refine gAlloc (T := 122) ?_); refine own_alloc hO _ _ ibtz ?_; clear hO; intro bx ww hO)
                | ((with_reducible refine gLoad (T := 122) ?_); refine ld_bt (hO.rd HR.out) HX.out rfl (by omega) (tA rfl) (tS rfl) ?_)
                | ((with_reducible refine gLoad ?_); first | refine ldX hO 0 rfl rfl (tA rfl) (tS rfl) ?_ | refine ldC hO 0 rfl rfl (tA rfl) rfl ?_)
                | ((with_reducible refine gLoad (T := 3) ?_); refine ld_sl hO 2 rfl rfl HG.out (tA rfl) ?_)
                | (go_at_call 97; refine (HSP.out _).mono ?_; rintro e ww ⟨rfl, rfl⟩)
                | (go_at_call 98; refine (rmore_calls tx HTL.out HXs.out ty HMO.out hO.swap).mono ?_; rintro e ww ⟨rfl, hO2⟩; clear hO; have hO := hO2.swap; clear hO2)
                | ((with_reducible refine gStore ?_); first | (refine stX hO 0 rfl rfl rfl rfl rfl (tS rfl) ?_; clear hO; intro ww hO) | (refine stC hO 0 rfl rfl rfl (ltb rfl) rfl (tS rfl) ?_; clear hO; intro ww hO)))
              clear d5 a1 a2 a3
              replace hO : Own wn _ [.blk bx (.cells (Bt.C ⟨(p : Int), true⟩) 122 (0,0)), .sl 5 1 (.slice aX X cX) X (u8s tx), .sl 3 1 (.slice (some ⟨gP, 0, none⟩) n c1) n (i64s r.p)] := hO
              refine wp_region_textS (fun w' => Own wn w' [.blk bx (.cells (Bt.C ⟨(p : Int), true⟩) 122 (0,0))]) (fun op => match op with | .load _ (.tmp 84) => false | .load _ _ => true | _ => false) (by kernel_rfl) (by kernel_rfl) (hO.drew.only (by simp)) ?_
              replace hO := hO.drew
              generalize World.drew _ = wd at hO ⊢
              go_wp2_with (first
                | (((with_reducible refine gIL ?_); first | refine wpI_ldcS (fun w' hS => hS.blk 0 rfl) rfl rfl (tA rfl) rfl ?_); first | (refine wpI_act (by simp only [Act.put, List.setIfInBounds_toArray, List.set_cons_succ, List.set_cons_zero]; rfl) ?_) | skip)
                | ((with_reducible refine gLoad (T := 3) ?_); refine ld_sl hO 2 rfl rfl HG.out (tA rfl) ?_)
                | (go_at_call 99; refine (HLE.out _).mono ?_; rintro e ww ⟨rfl, rfl⟩)
                | ((with_reducible refine gStore (T := 3) ?_); refine own_setElem hO 2 3 _ _ _ rfl rfl rfl (by omega) ii64s rfl ?_; clear hO; intro ww hO)
                | ((with_reducible refine gI ?_); refine wpI_step rfl rfl (by kernel_rfl) ?_; intro K hK; have HK := Lib.hid hK; clear hK) | ((with_reducible refine gI ?_); first | refine wpI_skip rfl ?_ | refine wpI_want rfl ?_) | ((with_reducible refine gOnlyK HK.out ?_ ?_); exact hO.only (by simp); clear HK K; first | (refine wpI_act (by simp only [Act.put, List.setIfInBounds_toArray, List.set_cons_succ, List.set_cons_zero]; rfl) ?_) | skip) | (with_reducible refine wpI_nil ?_))
              replace hO : Own wn _ (.blk bx (.cells (Bt.C ⟨(p : Int), true⟩) 122 (0,0)) :: .sl 5 1 (.slice aX X cX) X (u8s tx) :: .sl 3 1 (.slice (some ⟨gP, 0, none⟩) n c1) n ((i64s r.p).set p (.int .i64 (learnI pv true))) :: []) := hO
              rw [HSET.out] at hO
              replace hO := hO.tail
              clear HG HLE HSET HTX HSP
              go_loopg [10, 11, 12] 1 (fun q s10 s11 s12 wr => ∃ (v : Go.Kc.Rc) (lo Y : Nat) (tz : List (BitVec 8)) (aY : Option Addr) (cY : Nat), q ≤ 1 ∧ Hid (v.span < 16777216 → q = 1) ∧ s10 = .int .u32 (v.span : Int) ∧ s11 = .int .u64 (lo : Int) ∧ s12 = .slice aY Y cY ∧ Hid (v.norm = t) ∧ Hid (v.p = u.p) ∧ Hid (253952 ≤ v.span ∧ v.span < 4294967296) ∧ Hid (v.V % 4294967296 = lo) ∧ Hid (Go.Kc.be (1 + v.k) (v.V / 4294967296) = tz) ∧ Hid (1 + v.k = Y) ∧ Hid (Y ≤ k + 2) ∧ Hid (v.span < 16777216 → Y ≤ k + 1) ∧
                Own wn wr [.sl 5 1 (.slice aY Y cY) Y (u8s tz), .sl 3 1 (.slice (some ⟨gP, 0, none⟩) n c1) n (i64s u.p)])
              case atStart => exact ⟨u, lo1, X, tx, aX, cX, by omega, fun _ => rfl, rfl, rfl, rfl, HUN.out, rfl, HUB.out, HLO2.out, HTY.out, by show _ = _; rw [HUK.out, HXX.out], by have := HXM1.out; show _ ≤ _; omega, by have := HXM1.out; intro _; omega, hO⟩
              case round =>
                obtain ⟨v, lo, Y, tz, aY, cY, hq, HQ, rfl, rfl, rfl, HN, HP, HS, HLO3, HTZ, HY, HYM, HYV, hO1⟩ := hrel
                clear hO
                have hO := hO1
                clear hO1
                by_cases hv : v.span < 16777216
                · obtain ⟨oc, hoc⟩ : ∃ oc, BitVec.ofNat 8 (lo / 16777216) = oc := ⟨_, rfl⟩
                  obtain ⟨R, hRR⟩ : ∃ R, lo % 16777216 = R := ⟨_, rfl⟩
                  obtain ⟨W, hWW⟩ : ∃ W, v.span * 256 = W := ⟨_, rfl⟩
                  have hlo : lo < 4294967296 := by rw [← HLO3.out]; exact Nat.mod_lt _ (by decide)
                  have hoN : oc.toNat = lo / 16777216 := by rw [← hoc, BitVec.toNat_ofNat]; omega
                  have hol := oc.isLt
                  have hRl : R < 16777216 := by omega
                  have f1 : (lo : Int).tdiv 16777216 = (oc.toNat : Int) := by rw [hoN]; rfl
                  have f1' : (lo : Int) / 16777216 = (oc.toNat : Int) := by rw [hoN]; rfl
                  have f2 : IntKind.u8.wrap (oc.toNat : Int) = (oc.toNat : Int) := by rw [IntKind.wrap_u8']; omega
                  have f3 : (lo : Int).tmod 16777216 = (R : Int) := by rw [← hRR]; rfl
                  have f3' : (lo : Int) % 16777216 = (R : Int) := by rw [← hRR]; rfl
                  have f4 : IntKind.u64.wrap ((R : Int) * 256) = (R : Int) * 256 := by simp [IntKind.wrap, IntKind.bits, IntKind.signed]; omega
                  have f5 : IntKind.u32.wrap ((v.span : Int) * 256) = (W : Int) := by have := HS.out; simp [IntKind.wrap, IntKind.bits, IntKind.signed]; omega
                  have d1 : decide ((v.span : Int) < 16777216) = true := decide_eq_true (by omega)
                  have HNX : Hid (Go.Kc.be (1 + (v.k + 1)) (v.V * 256 / 4294967296) = tz ++ [oc]) := by
                    show _ = _
                    rw [← Go.Kc.be_more, HTZ.out, HLO3.out, hoc]
                  have HUA : Hid (u8s (tz ++ [oc]) = u8s tz ++ u8s [oc]) := by
                    show _ = _
                    unfold u8s
                    rw [List.map_append]
                  have HNR : Hid (v.norm = ⟨v.p, v.V * 256, W, v.k + 1⟩) := by show _ = _; unfold Go.Kc.Rc.norm; rw [if_pos hv, hWW]
                  have HWB : Hid (16777216 ≤ W ∧ W < 4294967296) := by have := HS.out; show _ ∧ _; omega
                  have HLX : Hid (v.V * 256 % 4294967296 = R * 256) := by have := HLO3.out; show _ = _; omega
                  have hyk : Y ≤ 1048577 := by have h1 := HYV.out hv; omega
                  have HYK : Hid (Y ≤ k + 1) := HYV.out hv
                  obtain rfl := HQ.out hv
                  clear hoc hRR hWW hlo hoN hRl hv hq
                  go_wp2_with (first
                    | ((with_reducible refine gBuild (T := 29) ?_); refine own_build hO 29 1 _ eu8 (u8s [oc]).toArray (by omega) (by omega) (by kernel_rfl) rfl ?_; clear hO; intro g2 ww hO)
                    | ((with_reducible refine gAppend ?_); refine own_append hO 1 _ _ 29 eu8 rfl rfl rfl (hO.rdAt 0 rfl) (u8s_one _) (Y + 1) (by omega) (by simp [maxLen]; omega) (by omega) ?_; clear hO; intro a2 c2 ww hO))
                  go_roundg 0
                  case measure => omega
                  case rel => exact ⟨⟨v.p, v.V * 256, W, v.k + 1⟩, R * 256, Y + 1, tz ++ [oc], a2, c2, by omega, by have := HWB.out; intro h; dsimp only at h; omega, rfl, by go_num, rfl, by show Go.Kc.Rc.norm _ = _; rw [← HN.out, HNR.out]; unfold Go.Kc.Rc.norm; have := HWB.out; dsimp only; rw [if_neg (by omega)], HP.out, by have := HWB.out; show _ ∧ _; dsimp only; omega, HLX.out, HNX.out, by have := HY.out; show _ = _; dsimp only; omega, by have := HYK.out; show _ ≤ _; omega, by have := HWB.out; intro h; dsimp only at h; omega, by rw [HUA.out]; exact hO.tail⟩
                · have HVT : Hid (v = t) := by show _ = _; rw [← HN.out]; unfold Go.Kc.Rc.norm; rw [if_neg hv]
                  have HTP : Hid (u.p = t.p) := by show _ = _; rw [← HVT.out, HP.out]
                  have d1 : decide ((v.span : Int) < 16777216) = false := decide_eq_false (by omega)
                  clear hv hq HQ
                  go_wp2
                  go_roundg (k - (j + 1))
                  case measure => omega
                  case rel => exact ⟨j + 1, t, lo, Y, tz, aY, cY, rfl, by omega, by go_num, by rw [HVT.out], rfl, rfl, HST.out, by rw [← HVT.out]; exact HLO3.out, by rw [← HVT.out]; exact HTZ.out, by rw [← HVT.out]; exact HY.out, by rw [← HTP.out]; exact hO⟩
            · have d5 : decide (4294967296 ≤ (lo1 : Int)) = true := decide_eq_true (by omega)
              obtain ⟨lo2, hlo2⟩ : ∃ x, low + P - 4294967296 = x := ⟨_, rfl⟩
              have a4 : IntKind.u64.wrap ((lo1 : Int) - 4294967296) = (lo2 : Int) := by have := HB1.out; have := HLW.out; simp [IntKind.wrap, IntKind.bits, IntKind.signed]; omega
              have HLO2 : Hid (u.V % 4294967296 = lo2) := by have h1 : u.V = r.V + P := HUV.out; have h2 := HLO.out; have := HB1.out; have := HLW.out; show _ = _; omega
              obtain ⟨ty, hty⟩ : ∃ x, Go.Kc.be X (Go.Kc.val tx + 1) = x := ⟨_, rfl⟩
              have HTY : Hid (Go.Kc.be (1 + u.k) (u.V / 4294967296) = ty) := by
                have h1 : u.V = r.V + P := HUV.out
                show _ = _
                rw [← hty, ← HXX.out, HUK.out, h1]
                exact (Go.Kc.dtext_carry HTX.out (by rw [HLO.out]; omega) (by have := HB1.out; omega) HROOM.out).symm
              have HMO := Lib.hid hty
              clear hcy hlo1 hlo2 hty
              go_wp2_with (first
                | ((with_reducible refine gAlloc (T := 122) ?_); refine own_alloc hO _ _ ibtz ?_; clear hO; intro bx ww hO)
                | ((with_reducible refine gLoad (T := 122) ?_); refine ld_bt (hO.rd HR.out) HX.out rfl (by omega) (tA rfl) (tS rfl) ?_)
                | ((with_reducible refine gLoad ?_); first | refine ldX hO 0 rfl rfl (tA rfl) (tS rfl) ?_ | refine ldC hO 0 rfl rfl (tA rfl) rfl ?_)
                | ((with_reducible refine gLoad (T := 3) ?_); refine ld_sl hO 2 rfl rfl HG.out (tA rfl) ?_)
                | (go_at_call 97; refine (HSP.out _).mono ?_; rintro e ww ⟨rfl, rfl⟩)
                | (go_at_call 98; refine (rmore_calls tx HTL.out HXs.out ty HMO.out hO.swap).mono ?_; rintro e ww ⟨rfl, hO2⟩; clear hO; have hO := hO2.swap; clear hO2)
                | ((with_reducible refine gStore ?_); first | (refine stX hO 0 rfl rfl rfl rfl rfl (tS rfl) ?_; clear hO; intro ww hO) | (refine stC hO 0 rfl rfl rfl (ltb rfl) rfl (tS rfl) ?_; clear hO; intro ww hO)))
              clear d5 a1 a2 a3 a4
              replace hO : Own wn _ [.blk bx (.cells (Bt.C ⟨(p : Int), true⟩) 122 (0,0)), .sl 5 1 (.slice aX X cX) X (u8s ty), .sl 3 1 (.slice (some ⟨gP, 0, none⟩) n c1) n (i64s r.p)] := hO
              refine wp_region_textS (fun w' => Own wn w' [.blk bx (.cells (Bt.C ⟨(p : Int), true⟩) 122 (0,0))]) (fun op => match op with | .load _ (.tmp 84) => false | .load _ _ => true | _ => false) (by kernel_rfl) (by kernel_rfl) (hO.drew.only (by simp)) ?_
              replace hO := hO.drew
              generalize World.drew _ = wd at hO ⊢
              go_wp2_with (first
                | (((with_reducible refine gIL ?_); first | refine wpI_ldcS (fun w' hS => hS.blk 0 rfl) rfl rfl (tA rfl) rfl ?_); first | (refine wpI_act (by simp only [Act.put, List.setIfInBounds_toArray, List.set_cons_succ, List.set_cons_zero]; rfl) ?_) | skip)
                | ((with_reducible refine gLoad (T := 3) ?_); refine ld_sl hO 2 rfl rfl HG.out (tA rfl) ?_)
                | (go_at_call 99; refine (HLE.out _).mono ?_; rintro e ww ⟨rfl, rfl⟩)
                | ((with_reducible refine gStore (T := 3) ?_); refine own_setElem hO 2 3 _ _ _ rfl rfl rfl (by omega) ii64s rfl ?_; clear hO; intro ww hO)
                | ((with_reducible refine gI ?_); refine wpI_step rfl rfl (by kernel_rfl) ?_; intro K hK; have HK := Lib.hid hK; clear hK) | ((with_reducible refine gI ?_); first | refine wpI_skip rfl ?_ | refine wpI_want rfl ?_) | ((with_reducible refine gOnlyK HK.out ?_ ?_); exact hO.only (by simp); clear HK K; first | (refine wpI_act (by simp only [Act.put, List.setIfInBounds_toArray, List.set_cons_succ, List.set_cons_zero]; rfl) ?_) | skip) | (with_reducible refine wpI_nil ?_))
              replace hO : Own wn _ (.blk bx (.cells (Bt.C ⟨(p : Int), true⟩) 122 (0,0)) :: .sl 5 1 (.slice aX X cX) X (u8s ty) :: .sl 3 1 (.slice (some ⟨gP, 0, none⟩) n c1) n ((i64s r.p).set p (.int .i64 (learnI pv true))) :: []) := hO
              rw [HSET.out] at hO
              replace hO := hO.tail
              clear HG HLE HSET HTX HSP
              go_loopg [10, 11, 12] 1 (fun q s10 s11 s12 wr => ∃ (v : Go.Kc.Rc) (lo Y : Nat) (tz : List (BitVec 8)) (aY : Option Addr) (cY : Nat), q ≤ 1 ∧ Hid (v.span < 16777216 → q = 1) ∧ s10 = .int .u32 (v.span : Int) ∧ s11 = .int .u64 (lo : Int) ∧ s12 = .slice aY Y cY ∧ Hid (v.norm = t) ∧ Hid (v.p = u.p) ∧ Hid (253952 ≤ v.span ∧ v.span < 4294967296) ∧ Hid (v.V % 4294967296 = lo) ∧ Hid (Go.Kc.be (1 + v.k) (v.V / 4294967296) = tz) ∧ Hid (1 + v.k = Y) ∧ Hid (Y ≤ k + 2) ∧ Hid (v.span < 16777216 → Y ≤ k + 1) ∧
                Own wn wr [.sl 5 1 (.slice aY Y cY) Y (u8s tz), .sl 3 1 (.slice (some ⟨gP, 0, none⟩) n c1) n (i64s u.p)])
              case atStart => exact ⟨u, lo2, X, ty, aX, cX, by omega, fun _ => rfl, rfl, rfl, rfl, HUN.out, rfl, HUB.out, HLO2.out, HTY.out, by show _ = _; rw [HUK.out, HXX.out], by have := HXM1.out; show _ ≤ _; omega, by have := HXM1.out; intro _; omega, hO⟩
              case round =>
                obtain ⟨v, lo, Y, tz, aY, cY, hq, HQ, rfl, rfl, rfl, HN, HP, HS, HLO3, HTZ, HY, HYM, HYV, hO1⟩ := hrel
                clear hO
                have hO := hO1
                clear hO1
                by_cases hv : v.span < 16777216
                · obtain ⟨oc, hoc⟩ : ∃ oc, BitVec.ofNat 8 (lo / 16777216) = oc := ⟨_, rfl⟩
                  obtain ⟨R, hRR⟩ : ∃ R, lo % 16777216 = R := ⟨_, rfl⟩
                  obtain ⟨W, hWW⟩ : ∃ W, v.span * 256 = W := ⟨_, rfl⟩
                  have hlo : lo < 4294967296 := by rw [← HLO3.out]; exact Nat.mod_lt _ (by decide)
                  have hoN : oc.toNat = lo / 16777216 := by rw [← hoc, BitVec.toNat_ofNat]; omega
                  have hol := oc.isLt
                  have hRl : R < 16777216 := by omega
                  have f1 : (lo : Int).tdiv 16777216 = (oc.toNat : Int) := by rw [hoN]; rfl
                  have f1' : (lo : Int) / 16777216 = (oc.toNat : Int) := by rw [hoN]; rfl
                  have f2 : IntKind.u8.wrap (oc.toNat : Int) = (oc.toNat : Int) := by rw [IntKind.wrap_u8']; omega
                  have f3 : (lo : Int).tmod 16777216 = (R : Int) := by rw [← hRR]; rfl
                  have f3' : (lo : Int) % 16777216 = (R : Int) := by rw [← hRR]; rfl
                  have f4 : IntKind.u64.wrap ((R : Int) * 256) = (R : Int) * 256 := by simp [IntKind.wrap, IntKind.bits, IntKind.signed]; omega
                  have f5 : IntKind.u32.wrap ((v.span : Int) * 256) = (W : Int) := by have := HS.out; simp [IntKind.wrap, IntKind.bits, IntKind.signed]; omega
                  have d1 : decide ((v.span : Int) < 16777216) = true := decide_eq_true (by omega)
                  have HNX : Hid (Go.Kc.be (1 + (v.k + 1)) (v.V * 256 / 4294967296) = tz ++ [oc]) := by
                    show _ = _
                    rw [← Go.Kc.be_more, HTZ.out, HLO3.out, hoc]
                  have HUA : Hid (u8s (tz ++ [oc]) = u8s tz ++ u8s [oc]) := by
                    show _ = _
                    unfold u8s
                    rw [List.map_append]
                  have HNR : Hid (v.norm = ⟨v.p, v.V * 256, W, v.k + 1⟩) := by show _ = _; unfold Go.Kc.Rc.norm; rw [if_pos hv, hWW]
                  have HWB : Hid (16777216 ≤ W ∧ W < 4294967296) := by have := HS.out; show _ ∧ _; omega
                  have HLX : Hid (v.V * 256 % 4294967296 = R * 256) := by have := HLO3.out; show _ = _; omega
                  have hyk : Y ≤ 1048577 := by have h1 := HYV.out hv; omega
                  have HYK : Hid (Y ≤ k + 1) := HYV.out hv
                  obtain rfl := HQ.out hv
                  clear hoc hRR hWW hlo hoN hRl hv hq
                  go_wp2_with (first
                    | ((with_reducible refine gBuild (T := 29) ?_); refine own_build hO 29 1 _ eu8 (u8s [oc]).toArray (by omega) (by omega) (by kernel_rfl) rfl ?_; clear hO; intro g2 ww hO)
                    | ((with_reducible refine gAppend ?_); refine own_append hO 1 _ _ 29 eu8 rfl rfl rfl (hO.rdAt 0 rfl) (u8s_one _) (Y + 1) (by omega) (by simp [maxLen]; omega) (by omega) ?_; clear hO; intro a2 c2 ww hO))
                  go_roundg 0
                  case measure => omega
                  case rel => exact ⟨⟨v.p, v.V * 256, W, v.k + 1⟩, R * 256, Y + 1, tz ++ [oc], a2, c2, by omega, by have := HWB.out; intro h; dsimp only at h; omega, rfl, by go_num, rfl, by show Go.Kc.Rc.norm _ = _; rw [← HN.out, HNR.out]; unfold Go.Kc.Rc.norm; have := HWB.out; dsimp only; rw [if_neg (by omega)], HP.out, by have := HWB.out; show _ ∧ _; dsimp only; omega, HLX.out, HNX.out, by have := HY.out; show _ = _; dsimp only; omega, by have := HYK.out; show _ ≤ _; omega, by have := HWB.out; intro h; dsimp only at h; omega, by rw [HUA.out]; exact hO.tail⟩
                · have HVT : Hid (v = t) := by show _ = _; rw [← HN.out]; unfold Go.Kc.Rc.norm; rw [if_neg hv]
                  have HTP : Hid (u.p = t.p) := by show _ = _; rw [← HVT.out, HP.out]
                  have d1 : decide ((v.span : Int) < 16777216) = false := decide_eq_false (by omega)
                  clear hv hq HQ
                  go_wp2
                  go_roundg (k - (j + 1))
                  case measure => omega
                  case rel => exact ⟨j + 1, t, lo, Y, tz, aY, cY, rfl, by omega, by go_num, by rw [HVT.out], rfl, rfl, HST.out, by rw [← HVT.out]; exact HLO3.out, by rw [← HVT.out]; exact HTZ.out, by rw [← HVT.out]; exact HY.out, by rw [← HTP.out]; exact hO⟩
        · obtain rfl : j = k := by omega
          have HRT : Hid (Go.Kc.enc n (Go.Kc.prs l) = r) := by
            have h := HRR.out
            rw [List.take_of_length_le (by rw [Go.Kc.prs_length, HLN.out]; omega)] at h
            exact h
          have hXm : X ≤ j + 1 := by
            obtain ⟨_, _, _, h4⟩ := Go.Kc.enc_facts HW.out
            rw [HRT.out, Go.Kc.prs_length, HLN.out] at h4
            rw [← HXX.out]; omega
          have HTE : Hid (Go.Kc.be (1 + (r.k + 4)) (r.V * 256 ^ 4 / 4294967296) = T) := by
            show _ = _
            rw [← HT.out]
            unfold Go.Kc.encT
            rw [HRT.out, show 1 + (r.k + 4) = 5 + r.k by omega, show (256 : Nat) ^ 4 = 4294967296 by decide, Nat.mul_div_cancel _ (by decide)]
          have HME : Hid (X + 4 = M) := by
            show _ = _
            rw [← HTM.out, ← HT.out, Go.Kc.encT_length, HRT.out, ← HXX.out]; omega
          clear HRR HRT
          go_wp2
          go_loopg [11, 12, 106] 4 (fun q s11 s12 c wr => ∃ (i lo Y : Nat) (tz : List (BitVec 8)) (aY : Option Addr) (cY : Nat), q = 4 - i ∧ i ≤ 4 ∧ c = .int .i64 (i : Int) ∧ s11 = .int .u64 (lo : Int) ∧ s12 = .slice aY Y cY ∧ Hid (r.V * 256 ^ i % 4294967296 = lo) ∧ Hid (Go.Kc.be (1 + (r.k + i)) (r.V * 256 ^ i / 4294967296) = tz) ∧ Hid (X + i = Y) ∧
            Own wn wr [.sl 5 1 (.slice aY Y cY) Y (u8s tz), .sl 3 1 (.slice a1 n c1) n (i64s r.p)])
          case atStart => exact ⟨0, low, X, tx, aX, cX, rfl, by omega, rfl, rfl, rfl, by show _ = _; rw [Nat.pow_zero, Nat.mul_one, HLO.out], by show _ = _; rw [Nat.pow_zero, Nat.mul_one, Nat.add_zero, HTX.out], rfl, hO⟩
          case round =>
            obtain ⟨i, lo, Y, tz, aY, cY, rfl, hi, rfl, rfl, rfl, HLI, HTZ, HYI, hO1⟩ := hrel
            clear hO
            have hO := hO1
            clear hO1
            by_cases hi4 : i < 4
            · obtain ⟨oc, hoc⟩ : ∃ oc, BitVec.ofNat 8 (lo / 16777216) = oc := ⟨_, rfl⟩
              obtain ⟨R, hRR⟩ : ∃ R, lo % 16777216 = R := ⟨_, rfl⟩
              have hlo : lo < 4294967296 := by rw [← HLI.out]; exact Nat.mod_lt _ (by decide)
              have hoN : oc.toNat = lo / 16777216 := by rw [← hoc, BitVec.toNat_ofNat]; omega
              have hol := oc.isLt
              have hRl : R < 16777216 := by omega
              have f1 : (lo : Int).tdiv 16777216 = (oc.toNat : Int) := by rw [hoN]; rfl
              have f1' : (lo : Int) / 16777216 = (oc.toNat : Int) := by rw [hoN]; rfl
              have f2 : IntKind.u8.wrap (oc.toNat : Int) = (oc.toNat : Int) := by rw [IntKind.wrap_u8']; omega
              have f3 : (lo : Int).tmod 16777216 = (R : Int) := by rw [← hRR]; rfl
              have f3' : (lo : Int) % 16777216 = (R : Int) := by rw [← hRR]; rfl
              have f4 : IntKind.u64.wrap ((R : Int) * 256) = (R : Int) * 256 := by simp [IntKind.wrap, IntKind.bits, IntKind.signed]; omega
              have hb0 : decide ((i : Int) < 4) = true := decide_eq_true (by omega)
              have HNX : Hid (Go.Kc.be (1 + (r.k + (i + 1))) (r.V * 256 ^ (i + 1) / 4294967296) = tz ++ [oc]) := by
                show _ = _
                rw [← Nat.add_assoc r.k i 1, Nat.pow_succ, ← Nat.mul_assoc, ← Go.Kc.be_more, HTZ.out, HLI.out, hoc]
              have HUA : Hid (u8s (tz ++ [oc]) = u8s tz ++ u8s [oc]) := by
                show _ = _
                unfold u8s
                rw [List.map_append]
              have HLX : Hid (r.V * 256 ^ (i + 1) % 4294967296 = R * 256) := by
                have h := HLI.out
                show _ = _
                rw [Nat.pow_succ, ← Nat.mul_assoc]
                generalize r.V * 256 ^ i = z at *
                omega
              have hyk : Y ≤ 1048585 := by have h1 := HYI.out; omega
              clear hoc hRR hlo hoN hRl
              go_wp2_with (first
                | ((with_reducible refine gBuild (T := 29) ?_); refine own_build hO 29 1 _ eu8 (u8s [oc]).toArray (by omega) (by omega) (by kernel_rfl) rfl ?_; clear hO; intro g3 ww hO)
                | ((with_reducible refine gAppend ?_); refine own_append hO 1 _ _ 29 eu8 rfl rfl rfl (hO.rdAt 0 rfl) (u8s_one _) (Y + 1) (by omega) (by simp [maxLen]; omega) (by omega) ?_; clear hO; intro a2 c2 ww hO))
              go_roundg (4 - (i + 1))
              case measure => omega
              case rel => exact ⟨i + 1, R * 256, Y + 1, tz ++ [oc], a2, c2, rfl, by omega, by go_num, by go_num, rfl, HLX.out, HNX.out, by have := HYI.out; show _ = _; omega, by rw [HUA.out]; exact hO.tail⟩
            · obtain rfl : i = 4 := by omega
              obtain rfl : M = Y := by rw [← HME.out, HYI.out]
              obtain rfl : T = tz := by rw [← HTE.out, HTZ.out]
              go_wp2
              go_ret2
              exact ⟨aY, cY, rfl, hO.below, hO.row 0 rfl⟩
end Go.Proofs.YtniibdglodnhoaaGreatDoor

/- Walk: the document's Encode, whatever it is given. -/
namespace Go.Proofs.YtniibdglodnhoaaGreatDoor
open Go.RowKit Go.Own Go.Bv Go.Ord Go.Eq Go.Opn Go.Pb

set_option maxHeartbeats 4000000 in
set_option maxRecDepth 100000 in
theorem rencode_calls (x : Int) (a : Option Addr) (m cap : Nat) (l : List Bt) (w : World) (hR : Rd w 2 a m cap (bts l)) (M : Nat) (T : List (BitVec 8)) (E : Int) (hE : encE x l = E) (hT : encO x l = T) (hM : T.length = M) :
    Calls Tryz.prog 62 #[.int .i64 x, .slice a m cap] w fun e w' => ∃ a' c', e = .returned (.tuple #[.slice a' M c', .int .i64 E]) ∧ Below w.heap.size w w' ∧ w'.ownsRow w.heap.size 5 1 (.slice a' M c') M (u8s T) := by
  have hlen : l.length = m := by have := hR.len; rw [bts_length] at this; omega
  by_cases hx : 0 ≤ x ∧ x ≤ 1024
  · obtain ⟨n, rfl⟩ : ∃ n : Nat, x = (n : Int) := ⟨x.toNat, by omega⟩
    have hnT : newT (n : Int) = List.replicate n 1024 := by unfold newT; rw [if_pos (by omega), Int.toNat_natCast]
    have hnE : newE (n : Int) = 0 := by unfold newE; rw [if_pos (by omega)]
    have HNEW := Lib.hid (fun w => rNew_calls (n : Int) w n (List.replicate n 1024) 0 (by rw [hnT, List.length_replicate]) hnT hnE)
    by_cases hm : m ≤ 1048576
    · cases hl : l.all (okI (n : Int))
      · have e1 : E = 4 := by rw [← hE]; unfold encE; rw [if_pos hx, if_pos (by omega), hl]; rfl
        have e2 : T = [] := by rw [← hT]; unfold encO; rw [hE, e1]; rfl
        have e3 : M = 0 := by rw [← hM, e2]; rfl
        subst e1 e2 e3
        have hO := Own.start w
        have HALL := Lib.hid hl
        have HR := Lib.hid hR
        have HLN := Lib.hid hlen
        have dmx : decide ((1048576 : Int) < (m : Int)) = false := decide_eq_false (by omega)
        clear hE hT hM hnT hnE hl hR hx hlen
        generalize hWW : w = wn at hO HR ⊢
        clear hWW w
        go_enter Tryz.func62, Tryz.ntmps62
        go_wp2_with (first
          | (go_at_call 76; refine (HNEW.out _).mono ?_; rintro e ww ⟨a1, c1, rfl, hb, hr⟩; replace hO := hO.addRow hb hr; clear hb hr))
        clear dmx
        go_loopg [30] m (fun q c wr => ∃ k : Nat, q = m - k ∧ k ≤ m ∧ c = .int .i64 (k : Int) ∧ Hid ((l.take k).all (okI (n : Int)) = true) ∧ Own wn wr [.sl 3 1 (.slice a1 n c1) n (i64s (List.replicate n 1024))])
        case atStart => exact ⟨0, rfl, by omega, rfl, rfl, hO⟩
        case round =>
          obtain ⟨k, rfl, hk, rfl, HA, hO1⟩ := hrel
          clear hO
          have hO := hO1
          clear hO1
          by_cases hlt : k < m
          · have hb0 : decide ((k : Int) < (m : Int)) = true := decide_eq_true (by omega)
            have hkl : k < l.length := by rw [HLN.out]; exact hlt
            obtain ⟨ba, off, rfl⟩ := HR.out.place (by omega)
            have hx := List.getElem?_eq_getElem hkl
            have hnx : okI (n : Int) l[k] = true → (l.take (k + 1)).all (okI (n : Int)) = true := okI_next hkl HA.out
            generalize l[k] = x at hx hnx
            obtain ⟨pos, b⟩ := x
            have HX := Lib.hid hx
            have HNX := Lib.hid hnx
            clear hx hnx hkl
            by_cases h1 : pos < 0
            · have i1 : decide (pos < 0) = true := decide_eq_true (by omega)
              go_wp2_with (first
                | ((with_reducible refine gG ?_); refine wpList_want rfl ?_)
                | ((with_reducible refine gAlloc (T := 122) ?_); refine own_alloc hO _ _ ibtz ?_; clear hO; intro bx ww hO)
                | ((with_reducible refine gLoad (T := 122) ?_); refine ld_bt (hO.rd HR.out) HX.out rfl (by omega) (tA rfl) (tS rfl) ?_)
                | ((with_reducible refine gLoad ?_); first | refine ldX hO 0 rfl rfl (tA rfl) (tS rfl) ?_ | refine ldC hO 0 rfl rfl (tA rfl) rfl ?_)
                | ((with_reducible refine gStore ?_); first | (refine stX hO 0 rfl rfl rfl rfl rfl (tS rfl) ?_; clear hO; intro ww hO) | (refine stC hO 0 rfl rfl rfl (ltb rfl) rfl (tS rfl) ?_; clear hO; intro ww hO)))
              go_ret2
              exact ⟨none, 0, rfl, hO.below, World.ownsRow_nil _ _ _ _⟩
            · have i1 : decide (pos < 0) = false := decide_eq_false (by omega)
              by_cases h2 : (n : Int) ≤ pos
              · have i2 : decide ((n : Int) ≤ pos) = true := decide_eq_true (by omega)
                go_wp2_with (first
                  | ((with_reducible refine gG ?_); refine wpList_want rfl ?_)
                  | ((with_reducible refine gAlloc (T := 122) ?_); refine own_alloc hO _ _ ibtz ?_; clear hO; intro bx ww hO)
                  | ((with_reducible refine gLoad (T := 122) ?_); refine ld_bt (hO.rd HR.out) HX.out rfl (by omega) (tA rfl) (tS rfl) ?_)
                  | ((with_reducible refine gLoad ?_); first | refine ldX hO 0 rfl rfl (tA rfl) (tS rfl) ?_ | refine ldC hO 0 rfl rfl (tA rfl) rfl ?_)
                  | ((with_reducible refine gStore ?_); first | (refine stX hO 0 rfl rfl rfl rfl rfl (tS rfl) ?_; clear hO; intro ww hO) | (refine stC hO 0 rfl rfl rfl (ltb rfl) rfl (tS rfl) ?_; clear hO; intro ww hO)))
                go_ret2
                exact ⟨none, 0, rfl, hO.below, World.ownsRow_nil _ _ _ _⟩
              · have i2 : decide ((n : Int) ≤ pos) = false := decide_eq_false (by omega)
                have HN1 : Hid ((l.take (k + 1)).all (okI (n : Int)) = true) := HNX.out (by simp only [okI, Bool.and_eq_true, decide_eq_true_eq]; omega)
                go_wp2_with (first
                  | ((with_reducible refine gG ?_); refine wpList_want rfl ?_)
                  | ((with_reducible refine gAlloc (T := 122) ?_); refine own_alloc hO _ _ ibtz ?_; clear hO; intro bx ww hO)
                  | ((with_reducible refine gLoad (T := 122) ?_); refine ld_bt (hO.rd HR.out) HX.out rfl (by omega) (tA rfl) (tS rfl) ?_)
                  | ((with_reducible refine gLoad ?_); first | refine ldX hO 0 rfl rfl (tA rfl) (tS rfl) ?_ | refine ldC hO 0 rfl rfl (tA rfl) rfl ?_)
                  | ((with_reducible refine gStore ?_); first | (refine stX hO 0 rfl rfl rfl rfl rfl (tS rfl) ?_; clear hO; intro ww hO) | (refine stC hO 0 rfl rfl rfl (ltb rfl) rfl (tS rfl) ?_; clear hO; intro ww hO)))
                go_roundg (m - (k + 1))
                case measure => omega
                case rel => exact ⟨k + 1, rfl, by omega, by go_num, HN1.out, hO.tail⟩
          · obtain rfl : k = m := by omega
            exfalso
            have h := HA.out
            rw [List.take_of_length_le (by rw [HLN.out]; omega), HALL.out] at h
            cases h
      · have e1 : E = 0 := by rw [← hE]; unfold encE; rw [if_pos hx, if_pos (by omega), hl]; rfl
        have e2 : Go.Kc.encT n (Go.Kc.prs l) = T := by rw [← hT]; unfold encO; rw [hE, e1, Int.toNat_natCast]; rfl
        subst e1
        exact rencode_ok n (by omega) a m cap l w hR hm hl M T e2 hM
    · have e1 : E = 3 := by rw [← hE]; unfold encE; rw [if_pos hx, if_neg (by omega)]
      have e2 : T = [] := by rw [← hT]; unfold encO; rw [hE, e1]; rfl
      have e3 : M = 0 := by rw [← hM, e2]; rfl
      subst e1 e2 e3
      have hO := Own.start w
      have dmx : decide ((1048576 : Int) < (m : Int)) = true := decide_eq_true (by omega)
      clear hE hT hM hnT hnE hR hx hlen hm
      generalize hWW : w = wn at hO ⊢
      clear hWW w
      go_enter Tryz.func62, Tryz.ntmps62
      go_wp2_with (first
        | (go_at_call 76; refine (HNEW.out _).mono ?_; rintro e ww ⟨a1, c1, rfl, hb, hr⟩; replace hO := hO.addRow hb hr; clear hb hr))
      go_ret2
      exact ⟨none, 0, rfl, hO.below, World.ownsRow_nil _ _ _ _⟩
  · have e1 : E = 1 := by rw [← hE]; unfold encE; rw [if_neg hx]
    have e2 : T = [] := by rw [← hT]; unfold encO; rw [hE, e1]; rfl
    have e3 : M = 0 := by rw [← hM, e2]; rfl
    subst e1 e2 e3
    have hnT : newT x = [] := by unfold newT; rw [if_neg hx]
    have hnE : newE x = 1 := by unfold newE; rw [if_neg hx]
    have HNEW := Lib.hid (fun w => rNew_calls x w 0 [] 1 (by rw [hnT]; rfl) hnT hnE)
    have hO := Own.start w
    clear hE hT hM hnT hnE hR hx hlen
    generalize hWW : w = wn at hO ⊢
    clear hWW w
    go_enter Tryz.func62, Tryz.ntmps62
    go_wp2_with (first
      | (go_at_call 76; refine (HNEW.out _).mono ?_; rintro e ww ⟨a1, c1, rfl, hb, hr⟩; replace hO := hO.addRow hb hr; clear hb hr))
    go_ret2
    exact ⟨none, 0, rfl, hO.below, World.ownsRow_nil _ _ _ _⟩
end Go.Proofs.YtniibdglodnhoaaGreatDoor

/- Walks: the document's SameBits, Start. -/
namespace Go.Own
open Go.RowKit
section
variable {P : Program}
/-- three results: a slot, a block, a slot -/
theorem res_tct {fn : Func} {p u v : Tmp} {ty : TypeId} (h : fn.results = #[.tmp v, .cell p ty, .tmp u]) (tmps : Array Value) (w : World) (g : Nat) (t : TypeId) (cs : Array Value) (fr : Nat × Nat) (d : TypeDesc)
    (hp : tmps.getD p undef = .pointer (some ⟨g, 0, none⟩)) (hg : w.heap[g]? = some (.cells cs t fr))
    (hu : P.underlying ty = some d) (hd : (match d with | .struct _ | .array _ _ => true | _ => false) = true) (hi : (P.info? ty).map (·.size) = some cs.size) :
    (results fn tmps).run P w = .ok (.tuple #[tmps.getD v undef, .agg cs, tmps.getD u undef]) w := by
  have hp' : tmps[p]?.getD undef = .pointer (some ⟨g, 0, none⟩) := by simpa using hp
  simp [results, h, hp', asAddr, run_loadVar_row w g t ty cs fr d hg hu hd hi]
end
end Go.Own
namespace Go.Proofs.YtniibdglodnhoaaGreatDoor
open Go.RowKit Go.Own Go.Bv Go.Ord Go.Eq Go.Opn Go.Pb

def rgC (pS : Value) (span code used : Nat) : Array Value := #[pS, .int .u32 (span : Int), .int .u32 (code : Int), .int .i64 (used : Int)]
theorem irgz : (Tryz.prog.info? 73).bind (·.zero) = some (.agg (rgC (.slice none 0 0) 0 0 0)) := by kernel_rfl
theorem irg (pS : Value) (span code used : Nat) : (Tryz.prog.info? 73).map (·.size) = some (rgC pS span code used).size := by
  show _ = some 4
  kernel_rfl

set_option maxHeartbeats 4000000 in
set_option maxRecDepth 100000 in
theorem rstart_ok (n : Nat) (hn : n ≤ 1024) (a : Option Addr) (m cap : Nat) (b : List (BitVec 8)) (w : World) (hR : Rd w 1 a m cap (u8s b)) (ho : Go.Kc.mayOpen b) (V : Nat) (hV : Go.Kc.val ((b.drop 1).take 4) = V) :
    Calls Tryz.prog 49 #[.int .i64 (n : Int), .slice a m cap] w fun e w' => ∃ a' c', e = .returned (.tuple #[.agg (rgC (.slice a' n c') 4294967295 V 5), .int .i64 0]) ∧ Below w.heap.size w w' ∧ w'.ownsRow w.heap.size 3 1 (.slice a' n c') n (i64s (List.replicate n 1024)) := by
  have hb : b.length = m := by have := hR.len; rw [u8s_length] at this; omega
  obtain ⟨h5, h0, hV2⟩ := ho
  have hO := Own.start w
  have hnT : newT (n : Int) = List.replicate n 1024 := by unfold newT; rw [if_pos (by omega), Int.toNat_natCast]
  have hnE : newE (n : Int) = 0 := by unfold newE; rw [if_pos (by omega)]
  have HNEW := Lib.hid (fun w => rNew_calls (n : Int) w n (List.replicate n 1024) 0 (by rw [hnT, List.length_replicate]) hnT hnE)
  have hg0 : (u8s b)[0]? = some (.int .u8 0) := by
    have h : 0 < b.length := by omega
    rw [u8s_get b 0 h]
    have h0' : b[0] = 0#8 := by
      have e : b.getD 0 0 = b[0] := by simp [h]
      rw [← e]; exact h0
    rw [h0']; rfl
  obtain ⟨ba, off, rfl⟩ := hR.place (by omega)
  have hcut := hR.cut 1 4 (by omega)
  have HG0 := Lib.hid hg0
  have HR := Lib.hid hR
  have HC := Lib.hid hcut
  have HV := Lib.hid hV
  have HB := Lib.hid hb
  have HV2 : Hid (V ≠ 4294967295) := by rw [← hV]; exact hV2
  have hmc : m ≤ cap := hR.le
  have hm5 : 5 ≤ m := by omega
  have hmm := Nat.le_trans hR.le hR.max
  unfold maxLen at hmm
  have d1 : decide ((m : Int) < 5) = false := decide_eq_false (by omega)
  clear hR hb h0 hg0 hnT hnE hV hV2 h5 hcut
  generalize hWW : w = wn at hO HR HC ⊢
  clear hWW w
  go_enter Tryz.func49, Tryz.ntmps49
  go_wp2_with (first
    | ((with_reducible refine gG ?_); refine wpList_want rfl ?_)
    | ((with_reducible refine gAlloc ?_); refine own_alloc hO _ _ irgz ?_; clear hO; intro zb ww hO)
    | (go_at_call 76; refine (HNEW.out _).mono ?_; rintro e ww ⟨a1, c1, rfl, hb, hr⟩; replace hO := hO.addRow hb hr; clear hb hr)
    | ((with_reducible refine gLoad (T := 5) ?_); refine ld_rd (hO.rd HR.out) rfl HG0.out (tA rfl) ?_))
  clear d1
  go_loopg [8, 33] 4 (fun q s8 c wr => ∃ (j code : Nat), q = 4 - j ∧ j ≤ 4 ∧ c = .int .i64 (j : Int) ∧ s8 = .int .u32 (code : Int) ∧ Hid (Go.Kc.val ((b.drop 1).take j) = code) ∧
    Own wn wr [.sl 3 1 (.slice a1 n c1) n (i64s (List.replicate n 1024)), .blk zb (.cells (rgC (.slice none 0 0) 0 0 0) 73 (0,0))])
  case atStart => exact ⟨0, 0, rfl, by omega, rfl, rfl, rfl, hO⟩
  case round =>
    obtain ⟨j, code, rfl, hj, rfl, rfl, HCD, hO1⟩ := hrel
    clear hO
    have hO := hO1
    clear hO1
    by_cases hj4 : j < 4
    · have hb0 : decide ((j : Int) < 4) = true := decide_eq_true (by omega)
      have hlt : 1 + j < b.length := by rw [HB.out]; omega
      have hx : (u8s ((b.drop 1).take 4))[j]? = some (.int .u8 ((b.getD (1 + j) 0).toNat : Int)) := by
        have hjl : j < ((b.drop 1).take 4).length := by simp; omega
        rw [u8s_get _ j hjl, List.getElem_take, List.getElem_drop]
        simp [hlt]
      have hx2 : ((u8s b).drop 1).take 4 = u8s ((b.drop 1).take 4) := by unfold u8s; rw [List.map_take, List.map_drop]
      rw [← hx2] at hx
      obtain ⟨C, hC⟩ : ∃ C, code * 256 + (b.getD (1 + j) 0).toNat = C := ⟨_, rfl⟩
      have HN : Hid (Go.Kc.val ((b.drop 1).take (j + 1)) = C) := by
        show _ = _
        rw [Go.Kc.be4 j hlt, HCD.out, hC]
      have hcl : code < 16777216 := by rw [← HCD.out]; exact Go.Kc.lt4 b j (by omega)
      have hxl := (b.getD (1 + j) 0).isLt
      generalize b.getD (1 + j) 0 = x at hx hC hxl
      have e1 : IntKind.u32.wrap ((code : Int) * 256) = (code : Int) * 256 := by simp [IntKind.wrap, IntKind.bits, IntKind.signed]; omega
      have e2 : IntKind.u32.wrap (x.toNat : Int) = (x.toNat : Int) := by simp [IntKind.wrap, IntKind.bits, IntKind.signed]; omega
      have e3 : IntKind.u32.wrap ((code : Int) * 256 + (x.toNat : Int)) = (C : Int) := by simp [IntKind.wrap, IntKind.bits, IntKind.signed]; omega
      have HX := Lib.hid hx
      clear hx hC hcl hlt hx2
      go_wp2_with (first
        | ((with_reducible refine gLoad (T := 5) ?_); refine ld_rd (hO.rd HC.out) rfl HX.out (tA rfl) ?_))
      go_roundg (4 - (j + 1))
      case measure => omega
      case rel => exact ⟨j + 1, C, rfl, by omega, by go_num, rfl, HN.out, hO⟩
    · obtain rfl : j = 4 := by omega
      obtain rfl : code = V := by rw [← HCD.out, HV.out]
      have d3 : ((code : Int) == 4294967295) = false := by have := HV2.out; simp; omega
      go_wp2_with (first
        | ((with_reducible refine gBld (T := 73) ?_); refine own_bld (rgC (.slice a1 n c1) 4294967295 code 5) (by kernel_rfl) ?_)
        | ((with_reducible refine gStore ?_); first | (refine stX hO 0 rfl rfl rfl rfl rfl (tS rfl) ?_; clear hO; intro ww hO) | (refine stC hO 0 rfl rfl rfl (ltb rfl) rfl (tS rfl) ?_; clear hO; intro ww hO) | (refine stX hO 1 rfl rfl rfl rfl rfl (tS rfl) ?_; clear hO; intro ww hO) | (refine stC hO 1 rfl rfl rfl (ltb rfl) rfl (tS rfl) ?_; clear hO; intro ww hO)))
      refine bodyPost_ret (res_ct rfl _ _ zb 73 (rgC (.slice a1 n c1) 4294967295 code 5) (0,0) _ rfl (hO.blk 1 rfl) Tryz.underlying73 rfl (irg _ _ _ _)) rfl ⟨a1, c1, rfl, hO.below, hO.row 0 rfl⟩

set_option maxHeartbeats 4000000 in
set_option maxRecDepth 100000 in
theorem rstart_max (n : Nat) (hn : n ≤ 1024) (a : Option Addr) (m cap : Nat) (b : List (BitVec 8)) (w : World) (hR : Rd w 1 a m cap (u8s b)) (h5 : 5 ≤ b.length) (h0 : b.getD 0 0 = 0#8) (hV : Go.Kc.val ((b.drop 1).take 4) = 4294967295) :
    Calls Tryz.prog 49 #[.int .i64 (n : Int), .slice a m cap] w fun e w' => e = .returned (.tuple #[.agg (rgC (.slice none 0 0) 0 0 0), .int .i64 2]) ∧ Below w.heap.size w w' := by
  have hb : b.length = m := by have := hR.len; rw [u8s_length] at this; omega
  have hO := Own.start w
  have hnT : newT (n : Int) = List.replicate n 1024 := by unfold newT; rw [if_pos (by omega), Int.toNat_natCast]
  have hnE : newE (n : Int) = 0 := by unfold newE; rw [if_pos (by omega)]
  have HNEW := Lib.hid (fun w => rNew_calls (n : Int) w n (List.replicate n 1024) 0 (by rw [hnT, List.length_replicate]) hnT hnE)
  have hg0 : (u8s b)[0]? = some (.int .u8 0) := by
    have h : 0 < b.length := by omega
    rw [u8s_get b 0 h]
    have h0' : b[0] = 0#8 := by
      have e : b.getD 0 0 = b[0] := by simp [h]
      rw [← e]; exact h0
    rw [h0']; rfl
  obtain ⟨ba, off, rfl⟩ := hR.place (by omega)
  have hcut := hR.cut 1 4 (by omega)
  have HG0 := Lib.hid hg0
  have HR := Lib.hid hR
  have HC := Lib.hid hcut
  have HV := Lib.hid hV
  have HB := Lib.hid hb
  have hmc : m ≤ cap := hR.le
  have hm5 : 5 ≤ m := by omega
  have hmm := Nat.le_trans hR.le hR.max
  unfold maxLen at hmm
  have d1 : decide ((m : Int) < 5) = false := decide_eq_false (by omega)
  clear hR hb h0 hg0 hnT hnE hV h5 hcut
  generalize hWW : w = wn at hO HR HC ⊢
  clear hWW w
  go_enter Tryz.func49, Tryz.ntmps49
  go_wp2_with (first
    | ((with_reducible refine gG ?_); refine wpList_want rfl ?_)
    | ((with_reducible refine gAlloc ?_); refine own_alloc hO _ _ irgz ?_; clear hO; intro zb ww hO)
    | (go_at_call 76; refine (HNEW.out _).mono ?_; rintro e ww ⟨a1, c1, rfl, hb, hr⟩; replace hO := hO.addRow hb hr; clear hb hr)
    | ((with_reducible refine gLoad (T := 5) ?_); refine ld_rd (hO.rd HR.out) rfl HG0.out (tA rfl) ?_))
  clear d1
  go_loopg [8, 33] 4 (fun q s8 c wr => ∃ (j code : Nat), q = 4 - j ∧ j ≤ 4 ∧ c = .int .i64 (j : Int) ∧ s8 = .int .u32 (code : Int) ∧ Hid (Go.Kc.val ((b.drop 1).take j) = code) ∧
    Own wn wr [.sl 3 1 (.slice a1 n c1) n (i64s (List.replicate n 1024)), .blk zb (.cells (rgC (.slice none 0 0) 0 0 0) 73 (0,0))])
  case atStart => exact ⟨0, 0, rfl, by omega, rfl, rfl, rfl, hO⟩
  case round =>
    obtain ⟨j, code, rfl, hj, rfl, rfl, HCD, hO1⟩ := hrel
    clear hO
    have hO := hO1
    clear hO1
    by_cases hj4 : j < 4
    · have hb0 : decide ((j : Int) < 4) = true := decide_eq_true (by omega)
      have hlt : 1 + j < b.length := by rw [HB.out]; omega
      have hx : (u8s ((b.drop 1).take 4))[j]? = some (.int .u8 ((b.getD (1 + j) 0).toNat : Int)) := by
        have hjl : j < ((b.drop 1).take 4).length := by simp; omega
        rw [u8s_get _ j hjl, List.getElem_take, List.getElem_drop]
        simp [hlt]
      have hx2 : ((u8s b).drop 1).take 4 = u8s ((b.drop 1).take 4) := by unfold u8s; rw [List.map_take, List.map_drop]
      rw [← hx2] at hx
      obtain ⟨C, hC⟩ : ∃ C, code * 256 + (b.getD (1 + j) 0).toNat = C := ⟨_, rfl⟩
      have HN : Hid (Go.Kc.val ((b.drop 1).take (j + 1)) = C) := by
        show _ = _
        rw [Go.Kc.be4 j hlt, HCD.out, hC]
      have hcl : code < 16777216 := by rw [← HCD.out]; exact Go.Kc.lt4 b j (by omega)
      have hxl := (b.getD (1 + j) 0).isLt
      generalize b.getD (1 + j) 0 = x at hx hC hxl
      have e1 : IntKind.u32.wrap ((code : Int) * 256) = (code : Int) * 256 := by simp [IntKind.wrap, IntKind.bits, IntKind.signed]; omega
      have e2 : IntKind.u32.wrap (x.toNat : Int) = (x.toNat : Int) := by simp [IntKind.wrap, IntKind.bits, IntKind.signed]; omega
      have e3 : IntKind.u32.wrap ((code : Int) * 256 + (x.toNat : Int)) = (C : Int) := by simp [IntKind.wrap, IntKind.bits, IntKind.signed]; omega
      have HX := Lib.hid hx
      clear hx hC hcl hlt hx2
      go_wp2_with (first
        | ((with_reducible refine gLoad (T := 5) ?_); refine ld_rd (hO.rd HC.out) rfl HX.out (tA rfl) ?_))
      go_roundg (4 - (j + 1))
      case measure => omega
      case rel => exact ⟨j + 1, C, rfl, by omega, by go_num, rfl, HN.out, hO⟩
    · obtain rfl : j = 4 := by omega
      have hc4 : code = 4294967295 := by rw [← HCD.out, HV.out]
      subst hc4
      clear HCD HV
      go_wp2_with (first
        | ((with_reducible refine gBld (T := 73) ?_); refine own_bld (rgC (.slice none 0 0) 0 0 0) (by kernel_rfl) ?_)
        | ((with_reducible refine gStore ?_); first | (refine stX hO 0 rfl rfl rfl rfl rfl (tS rfl) ?_; clear hO; intro ww hO) | (refine stC hO 0 rfl rfl rfl (ltb rfl) rfl (tS rfl) ?_; clear hO; intro ww hO) | (refine stX hO 1 rfl rfl rfl rfl rfl (tS rfl) ?_; clear hO; intro ww hO) | (refine stC hO 1 rfl rfl rfl (ltb rfl) rfl (tS rfl) ?_; clear hO; intro ww hO)))
      refine bodyPost_ret (res_ct rfl _ _ zb 73 (rgC (.slice none 0 0) 0 0 0) (0,0) _ rfl (hO.blk 1 rfl) Tryz.underlying73 rfl (irg _ _ _ _)) rfl ⟨rfl, hO.below⟩

set_option maxHeartbeats 4000000 in
set_option maxRecDepth 100000 in
theorem rstart_bad (x : Int) (a : Option Addr) (m cap : Nat) (b : List (BitVec 8)) (w : World) (hR : Rd w 1 a m cap (u8s b)) (E : Int) (hE : Go.Kc.opE x b = E) (h0 : E ≠ 0) :
    Calls Tryz.prog 49 #[.int .i64 x, .slice a m cap] w fun e w' => e = .returned (.tuple #[.agg (rgC (.slice none 0 0) 0 0 0), .int .i64 E]) ∧ Below w.heap.size w w' := by
  have hb : b.length = m := by have := hR.len; rw [u8s_length] at this; omega
  have hO := Own.start w
  by_cases hx : 0 ≤ x ∧ x ≤ 1024
  · obtain ⟨n, rfl⟩ : ∃ n : Nat, x = (n : Int) := ⟨x.toNat, by omega⟩
    have hnT : newT (n : Int) = List.replicate n 1024 := by unfold newT; rw [if_pos (by omega), Int.toNat_natCast]
    have hnE : newE (n : Int) = 0 := by unfold newE; rw [if_pos (by omega)]
    have HNEW := Lib.hid (fun w => rNew_calls (n : Int) w n (List.replicate n 1024) 0 (by rw [hnT, List.length_replicate]) hnT hnE)
    have hmo : ¬ Go.Kc.mayOpen b := by
      intro h
      unfold Go.Kc.opE at hE
      rw [if_pos hx, if_pos h] at hE
      exact h0 hE.symm
    have e1 : E = 2 := by rw [← hE]; unfold Go.Kc.opE; rw [if_pos hx, if_neg hmo]
    subst e1
    by_cases h5 : m < 5
    · have d1 : decide ((m : Int) < 5) = true := decide_eq_true (by omega)
      clear hE hnT hnE hR hx hb hmo h0
      generalize hWW : w = wn at hO ⊢
      clear hWW w
      go_enter Tryz.func49, Tryz.ntmps49
      go_wp2_with (first
        | ((with_reducible refine gG ?_); refine wpList_want rfl ?_) | ((with_reducible refine gAlloc ?_); refine own_alloc hO _ _ irgz ?_; clear hO; intro zb ww hO) | ((with_reducible refine gBld (T := 73) ?_); refine own_bld (rgC (.slice none 0 0) 0 0 0) (by kernel_rfl) ?_) | ((with_reducible refine gStore ?_); first | (refine stX hO 0 rfl rfl rfl rfl rfl (tS rfl) ?_; clear hO; intro ww hO) | (refine stC hO 0 rfl rfl rfl (ltb rfl) rfl (tS rfl) ?_; clear hO; intro ww hO) | (refine stX hO 1 rfl rfl rfl rfl rfl (tS rfl) ?_; clear hO; intro ww hO) | (refine stC hO 1 rfl rfl rfl (ltb rfl) rfl (tS rfl) ?_; clear hO; intro ww hO))
        | (go_at_call 76; refine (HNEW.out _).mono ?_; rintro e ww ⟨a1, c1, rfl, hb, hr⟩; replace hO := hO.addRow hb hr; clear hb hr))
      refine bodyPost_ret (res_ct rfl _ _ zb 73 (rgC (.slice none 0 0) 0 0 0) (0,0) _ rfl (hO.blk 1 rfl) Tryz.underlying73 rfl (irg _ _ _ _)) rfl ?_
      exact ⟨rfl, hO.below⟩
    · by_cases hz : b.getD 0 0 = 0#8
      · have hV : Go.Kc.val ((b.drop 1).take 4) = 4294967295 := by
          apply Classical.byContradiction
          intro hne
          exact hmo ⟨by omega, hz, hne⟩
        exact rstart_max n (by omega) a m cap b w hR (by omega) hz hV
      · have d1 : decide ((m : Int) < 5) = false := decide_eq_false (by omega)
        have h0b : 0 < b.length := by omega
        have hg0 : (u8s b)[0]? = some (.int .u8 ((b.getD 0 0).toNat : Int)) := by
          rw [u8s_get b 0 h0b]; simp [h0b]
        have hzz : ((b.getD 0 0).toNat : Int) ≠ 0 := by
          intro h; exact hz (BitVec.eq_of_toNat_eq (by simpa using h))
        generalize b.getD 0 0 = c0 at hg0 hzz
        have dz : ((c0.toNat : Int) == 0) = false := by simpa using hzz
        have HG0 := Lib.hid hg0
        have HR := Lib.hid hR
        obtain ⟨ba, off, rfl⟩ := hR.place (by omega)
        have hm5 : 0 < m := by omega
        clear hE hnT hnE hR hx hb hmo h0 hz h0b hg0 hzz
        generalize hWW : w = wn at hO HR ⊢
        clear hWW w
        go_enter Tryz.func49, Tryz.ntmps49
        go_wp2_with (first
          | ((with_reducible refine gG ?_); refine wpList_want rfl ?_) | ((with_reducible refine gAlloc ?_); refine own_alloc hO _ _ irgz ?_; clear hO; intro zb ww hO) | ((with_reducible refine gBld (T := 73) ?_); refine own_bld (rgC (.slice none 0 0) 0 0 0) (by kernel_rfl) ?_) | ((with_reducible refine gStore ?_); first | (refine stX hO 0 rfl rfl rfl rfl rfl (tS rfl) ?_; clear hO; intro ww hO) | (refine stC hO 0 rfl rfl rfl (ltb rfl) rfl (tS rfl) ?_; clear hO; intro ww hO) | (refine stX hO 1 rfl rfl rfl rfl rfl (tS rfl) ?_; clear hO; intro ww hO) | (refine stC hO 1 rfl rfl rfl (ltb rfl) rfl (tS rfl) ?_; clear hO; intro ww hO))
          | (go_at_call 76; refine (HNEW.out _).mono ?_; rintro e ww ⟨a1, c1, rfl, hb, hr⟩; replace hO := hO.addRow hb hr; clear hb hr)
          | ((with_reducible refine gLoad (T := 5) ?_); refine ld_rd (hO.rd HR.out) rfl HG0.out (tA rfl) ?_))
        refine bodyPost_ret (res_ct rfl _ _ zb 73 (rgC (.slice none 0 0) 0 0 0) (0,0) _ rfl (hO.blk 1 rfl) Tryz.underlying73 rfl (irg _ _ _ _)) rfl ?_
        exact ⟨rfl, hO.below⟩
  · have e1 : E = 1 := by rw [← hE]; unfold Go.Kc.opE; rw [if_neg hx]
    subst e1
    have hnT : newT x = [] := by unfold newT; rw [if_neg hx]
    have hnE : newE x = 1 := by unfold newE; rw [if_neg hx]
    have HNEW := Lib.hid (fun w => rNew_calls x w 0 [] 1 (by rw [hnT]; rfl) hnT hnE)
    clear hE hnT hnE hR hx hb h0
    generalize hWW : w = wn at hO ⊢
    clear hWW w
    go_enter Tryz.func49, Tryz.ntmps49
    go_wp2_with (first
      | ((with_reducible refine gG ?_); refine wpList_want rfl ?_) | ((with_reducible refine gAlloc ?_); refine own_alloc hO _ _ irgz ?_; clear hO; intro zb ww hO) | ((with_reducible refine gBld (T := 73) ?_); refine own_bld (rgC (.slice none 0 0) 0 0 0) (by kernel_rfl) ?_) | ((with_reducible refine gStore ?_); first | (refine stX hO 0 rfl rfl rfl rfl rfl (tS rfl) ?_; clear hO; intro ww hO) | (refine stC hO 0 rfl rfl rfl (ltb rfl) rfl (tS rfl) ?_; clear hO; intro ww hO) | (refine stX hO 1 rfl rfl rfl rfl rfl (tS rfl) ?_; clear hO; intro ww hO) | (refine stC hO 1 rfl rfl rfl (ltb rfl) rfl (tS rfl) ?_; clear hO; intro ww hO))
      | (go_at_call 76; refine (HNEW.out _).mono ?_; rintro e ww ⟨a1, c1, rfl, hb, hr⟩; replace hO := hO.addRow hb hr; clear hb hr))
    refine bodyPost_ret (res_ct rfl _ _ zb 73 (rgC (.slice none 0 0) 0 0 0) (0,0) _ rfl (hO.blk 1 rfl) Tryz.underlying73 rfl (irg _ _ _ _)) rfl ?_
    exact ⟨rfl, hO.below⟩

end Go.Proofs.YtniibdglodnhoaaGreatDoor

/- Walks: solid's Seal. -/
namespace Go.Proofs.YtniibdglodnhoaaGreatDoor
open Go.RowKit Go.Own Go.Bv Go.Ord Go.Eq Go.Opn Go.Pb

set_option maxHeartbeats 4000000 in
set_option maxRecDepth 100000 in
theorem sseal_ok (key : St) (n : BitVec 64) (a : Option Addr) (len cap : Nat) (b : List (BitVec 8)) (w : World) (hR : Rd w 1 a len cap (u8s b)) (hl : len ≤ 600) (hn : n ≠ 18446744073709551615#64) (hT : Turns w) (T : List (BitVec 8)) (hTT : sealT key n b = T) (M : Nat) (hM : T.length = M) :
    Calls Tryz.prog 13 #[.agg (ringC key n), .slice a len cap] w fun e w' => ∃ a' c', e = .returned (.tuple #[.slice a' M c', .agg (ringC key (n + 1#64)), .int .i64 0]) ∧ Below w.heap.size w w' ∧ w'.ownsRow w.heap.size 5 1 (.slice a' M c') M (u8s T) := by
  have hO := Own.start w
  have hbl : b.length = len := by have := hR.len; rw [u8s_length] at this; omega
  obtain ⟨l1, l2⟩ := Go.Pz.pack_length b
  have hls := sealT_length key n b
  obtain ⟨p, hp⟩ : ∃ p, Go.Pz.packT b = p := ⟨_, rfl⟩
  obtain ⟨P, hP⟩ : ∃ P, p.length = P := ⟨_, rfl⟩
  have hTT2 := hTT
  unfold sealT boxT at hTT2
  rw [hp] at l1 l2 hls hTT2
  rw [hP] at l1 l2 hls
  rw [hTT, hM] at hls
  obtain ⟨t, ht⟩ : ∃ t, key.hide n p = t := ⟨_, rfl⟩
  have htl : t.length = P := by rw [← ht, St.hide_length, hP]
  obtain ⟨u, hu⟩ : ∃ u, key.tag n t = u := ⟨_, rfl⟩
  rw [ht, hu] at hTT2
  have g1 := fun w h => pack_ok a len cap b w h (by omega) p hp P hP
  have g2 := fun w a c h hT => seal_ok key n a P c p w h (by omega) hn hT
  rw [ht, hu] at g2
  have g3 := fun w a c h => bytes_ok n u a P c t w h (by omega)
  have hx : (eight n ++ u.octs ++ t).length = 24 + P := by rw [List.length_append, List.length_append, eight_length, St.octs_length, htl]
  obtain ⟨X, hX⟩ : ∃ X, eight n ++ u.octs ++ t = X := ⟨_, rfl⟩
  rw [hX] at g3 hTT2 hx
  have hP8 : 8 + 16 + P + 4 = M := by omega
  have g4 := fun w a c h => seal_calls a (8 + 16 + P) c X w h (by omega)
  rw [hTT2, hP8] at g4
  obtain ⟨n1, hn1⟩ : ∃ n1, n + 1#64 = n1 := ⟨_, rfl⟩
  rw [hn1] at g2 ⊢
  have G1 := Lib.hid g1
  have G2 := Lib.hid g2
  have G3 := Lib.hid g3
  have G4 := Lib.hid g4
  have HR := Lib.hid hR
  have HT := Lib.hid hT
  have HTL := Lib.hid htl
  have hP6 : P ≤ 65536 := by omega
  clear hR hT hTT hTT2 hM hbl l1 l2 hls hp hP ht htl hu g1 g2 g3 g4 hx hX hn1 hn hP8
  generalize hW : w = wn at hO HT HR ⊢
  clear hW w
  go_enter Tryz.func13, Tryz.ntmps13
  go_wp2_with (first
    | ((with_reducible refine gBox ?_); first | (refine bxA hO rfl ?_; clear hO; intro br ww hO) | (refine bx1 hO rfl rfl ?_; clear hO; intro br ww hO))
    | ((with_reducible refine gG ?_); refine wpList_want rfl ?_)
    | ((with_reducible refine gAlloc (T := 54) ?_); refine own_alloc hO _ _ ibz ?_; clear hO; intro bx ww hO)
    | ((with_reducible refine gAlloc (T := 27) ?_); refine own_alloc hO _ _ irz ?_; clear hO; intro bn ww hO)
    | (go_at_call 27; refine (G1.out _ (hO.rd HR.out)).mono ?_; rintro e ww ⟨a2, c2, rfl, hb, hr⟩; replace hO := hO.addRow hb hr; clear hb hr)
    | (go_at_call 28; refine (G2.out _ _ _ (hO.rdAt 0 rfl) (HT.out.own hO)).mono ?_; rintro e ww ⟨g, C, rfl, hb, hh, hC⟩; replace hO := hO.add hb hh; clear hb hh)
    | (go_at_call 29; refine (G3.out _ _ _ (rd_blk_off (hO.blk 2 rfl) 0 (by rw [List.drop_zero]; exact hC) (by rw [u8s_length]; exact HTL.out) (Nat.le_refl _) (by simp [maxLen]; omega))).mono ?_; rintro e ww ⟨a3, c3, rfl, hb, hr⟩; replace hO := hO.addRow hb hr; clear hb hr)
    | ((with_reducible refine gLoad ?_); first | refine ldX hO 0 rfl rfl (tA rfl) (tS rfl) ?_ | refine ldC hO 0 rfl rfl (tA rfl) rfl ?_ | refine ldX hO 1 rfl rfl (tA rfl) (tS rfl) ?_ | refine ldC hO 1 rfl rfl (tA rfl) rfl ?_ | refine ldX hO 2 rfl rfl (tA rfl) (tS rfl) ?_ | refine ldC hO 2 rfl rfl (tA rfl) rfl ?_ | refine ldX hO 3 rfl rfl (tA rfl) (tS rfl) ?_ | refine ldC hO 3 rfl rfl (tA rfl) rfl ?_ | refine ldX hO 4 rfl rfl (tA rfl) (tS rfl) ?_ | refine ldC hO 4 rfl rfl (tA rfl) rfl ?_ | refine ldX hO 5 rfl rfl (tA rfl) (tS rfl) ?_ | refine ldC hO 5 rfl rfl (tA rfl) rfl ?_)
    | ((with_reducible refine gStore ?_); first | (refine stX hO 0 rfl rfl rfl rfl rfl (tS rfl) ?_; clear hO; intro ww hO) | (refine stC hO 0 rfl rfl rfl (ltb rfl) rfl (tS rfl) ?_; clear hO; intro ww hO) | (refine stX hO 1 rfl rfl rfl rfl rfl (tS rfl) ?_; clear hO; intro ww hO) | (refine stC hO 1 rfl rfl rfl (ltb rfl) rfl (tS rfl) ?_; clear hO; intro ww hO) | (refine stX hO 2 rfl rfl rfl rfl rfl (tS rfl) ?_; clear hO; intro ww hO) | (refine stC hO 2 rfl rfl rfl (ltb rfl) rfl (tS rfl) ?_; clear hO; intro ww hO) | (refine stX hO 3 rfl rfl rfl rfl rfl (tS rfl) ?_; clear hO; intro ww hO) | (refine stC hO 3 rfl rfl rfl (ltb rfl) rfl (tS rfl) ?_; clear hO; intro ww hO) | (refine stX hO 4 rfl rfl rfl rfl rfl (tS rfl) ?_; clear hO; intro ww hO) | (refine stC hO 4 rfl rfl rfl (ltb rfl) rfl (tS rfl) ?_; clear hO; intro ww hO) | (refine stX hO 5 rfl rfl rfl rfl rfl (tS rfl) ?_; clear hO; intro ww hO) | (refine stC hO 5 rfl rfl rfl (ltb rfl) rfl (tS rfl) ?_; clear hO; intro ww hO)))
  refine wp_region_textS (fun w' => Own wn w' [.blk bn (.cells (ringC key n1) 27 (0,0))]) (fun op => match op with | .load _ _ => true | _ => false) (by kernel_rfl) (by kernel_rfl) (hO.drew.only (by simp)) ?_
  replace hO := hO.drew
  generalize World.drew _ = wd at hO ⊢
  go_wp2_with (first
    | (((with_reducible refine gIL ?_); first | refine wpI_ldS (fun w' hS => hS.blk 0 rfl) rfl rfl (tA rfl) (tS rfl) ?_); first | (refine wpI_act (by simp only [Act.put, List.setIfInBounds_toArray, List.set_cons_succ, List.set_cons_zero]; rfl) ?_) | skip)
    | (go_at_call 30; refine (G4.out _ _ _ (hO.rdAt 0 rfl)).mono ?_; rintro e ww ⟨a4, c4, rfl, hb, hr⟩; replace hO := hO.addRow hb hr; clear hb hr)
    | ((with_reducible refine gStore ?_); first | (refine stX hO 0 rfl rfl rfl rfl rfl (tS rfl) ?_; clear hO; intro ww hO) | (refine stC hO 0 rfl rfl rfl (ltb rfl) rfl (tS rfl) ?_; clear hO; intro ww hO) | (refine stX hO 1 rfl rfl rfl rfl rfl (tS rfl) ?_; clear hO; intro ww hO) | (refine stC hO 1 rfl rfl rfl (ltb rfl) rfl (tS rfl) ?_; clear hO; intro ww hO) | (refine stX hO 2 rfl rfl rfl rfl rfl (tS rfl) ?_; clear hO; intro ww hO) | (refine stC hO 2 rfl rfl rfl (ltb rfl) rfl (tS rfl) ?_; clear hO; intro ww hO) | (refine stX hO 3 rfl rfl rfl rfl rfl (tS rfl) ?_; clear hO; intro ww hO) | (refine stC hO 3 rfl rfl rfl (ltb rfl) rfl (tS rfl) ?_; clear hO; intro ww hO) | (refine stX hO 4 rfl rfl rfl rfl rfl (tS rfl) ?_; clear hO; intro ww hO) | (refine stC hO 4 rfl rfl rfl (ltb rfl) rfl (tS rfl) ?_; clear hO; intro ww hO) | (refine stX hO 5 rfl rfl rfl rfl rfl (tS rfl) ?_; clear hO; intro ww hO) | (refine stC hO 5 rfl rfl rfl (ltb rfl) rfl (tS rfl) ?_; clear hO; intro ww hO) | (refine stX hO 6 rfl rfl rfl rfl rfl (tS rfl) ?_; clear hO; intro ww hO) | (refine stC hO 6 rfl rfl rfl (ltb rfl) rfl (tS rfl) ?_; clear hO; intro ww hO) | (refine stX hO 7 rfl rfl rfl rfl rfl (tS rfl) ?_; clear hO; intro ww hO) | (refine stC hO 7 rfl rfl rfl (ltb rfl) rfl (tS rfl) ?_; clear hO; intro ww hO))
    | ((with_reducible refine gI ?_); refine wpI_step rfl rfl (by kernel_rfl) ?_; intro K hK; have HK := Lib.hid hK; clear hK) | ((with_reducible refine gI ?_); first | refine wpI_skip rfl ?_ | refine wpI_want rfl ?_) | ((with_reducible refine gOnlyK HK.out ?_ ?_); exact hO.only (by simp); clear HK K; first | (refine wpI_act (by simp only [Act.put, List.setIfInBounds_toArray, List.set_cons_succ, List.set_cons_zero]; rfl) ?_) | skip) | (with_reducible refine wpI_nil ?_))
  refine bodyPost_ret (res_tct rfl _ _ _ 27 (ringC key n1) (0,0) _ rfl (hO.blk 6 rfl) Tryz.underlying27 rfl (irs _ _)) rfl ⟨a4, c4, rfl, hO.below, hO.row 0 rfl⟩

set_option maxHeartbeats 2000000 in
set_option maxRecDepth 100000 in
theorem sseal_full (key : St) (n : BitVec 64) (a : Option Addr) (len cap : Nat) (b : List (BitVec 8)) (w : World) (hR : Rd w 1 a len cap (u8s b)) (hl : len ≤ 600) (hn : n = 18446744073709551615#64) (hT : Turns w) :
    Calls Tryz.prog 13 #[.agg (ringC key n), .slice a len cap] w fun e w' => e = .returned (.tuple #[.slice none 0 0, .agg (ringC St.zero 0#64), .int .i64 6]) ∧ Below w.heap.size w w' := by
  have hO := Own.start w
  have hbl : b.length = len := by have := hR.len; rw [u8s_length] at this; omega
  obtain ⟨l1, l2⟩ := Go.Pz.pack_length b
  obtain ⟨p, hp⟩ : ∃ p, Go.Pz.packT b = p := ⟨_, rfl⟩
  obtain ⟨P, hP⟩ : ∃ P, p.length = P := ⟨_, rfl⟩
  rw [hp] at l1 l2
  rw [hP] at l1 l2
  have g1 := fun w h => pack_ok a len cap b w h (by omega) p hp P hP
  have g2 := fun w a c h hT => seal_full key n a P c p w h (by omega) hn hT
  have G1 := Lib.hid g1
  have G2 := Lib.hid g2
  have HR := Lib.hid hR
  have HT := Lib.hid hT
  clear hR hT hbl l1 l2 hp hP g1 g2 hn
  generalize hW : w = wn at hO HT HR ⊢
  clear hW w
  go_enter Tryz.func13, Tryz.ntmps13
  go_wp2_with (first
    | ((with_reducible refine gBox ?_); first | (refine bxA hO rfl ?_; clear hO; intro br ww hO) | (refine bx1 hO rfl rfl ?_; clear hO; intro br ww hO))
    | ((with_reducible refine gG ?_); refine wpList_want rfl ?_)
    | ((with_reducible refine gAlloc (T := 54) ?_); refine own_alloc hO _ _ ibz ?_; clear hO; intro bx ww hO)
    | ((with_reducible refine gAlloc (T := 27) ?_); refine own_alloc hO _ _ irz ?_; clear hO; intro bn ww hO)
    | (go_at_call 27; refine (G1.out _ (hO.rd HR.out)).mono ?_; rintro e ww ⟨a2, c2, rfl, hb, hr⟩; replace hO := hO.addRow hb hr; clear hb hr)
    | (go_at_call 28; refine (G2.out _ _ _ (hO.rdAt 0 rfl) (HT.out.own hO)).mono ?_; rintro e ww ⟨rfl, hb⟩; replace hO := hO.call hb; clear hb)
    | ((with_reducible refine gBld (T := 27) ?_); refine own_bld (ringC St.zero 0#64) (by kernel_rfl) ?_)
    | ((with_reducible refine gLoad ?_); first | refine ldX hO 0 rfl rfl (tA rfl) (tS rfl) ?_ | refine ldC hO 0 rfl rfl (tA rfl) rfl ?_ | refine ldX hO 1 rfl rfl (tA rfl) (tS rfl) ?_ | refine ldC hO 1 rfl rfl (tA rfl) rfl ?_ | refine ldX hO 2 rfl rfl (tA rfl) (tS rfl) ?_ | refine ldC hO 2 rfl rfl (tA rfl) rfl ?_ | refine ldX hO 3 rfl rfl (tA rfl) (tS rfl) ?_ | refine ldC hO 3 rfl rfl (tA rfl) rfl ?_ | refine ldX hO 4 rfl rfl (tA rfl) (tS rfl) ?_ | refine ldC hO 4 rfl rfl (tA rfl) rfl ?_ | refine ldX hO 5 rfl rfl (tA rfl) (tS rfl) ?_ | refine ldC hO 5 rfl rfl (tA rfl) rfl ?_)
    | ((with_reducible refine gStore ?_); first | (refine stX hO 0 rfl rfl rfl rfl rfl (tS rfl) ?_; clear hO; intro ww hO) | (refine stC hO 0 rfl rfl rfl (ltb rfl) rfl (tS rfl) ?_; clear hO; intro ww hO) | (refine stX hO 1 rfl rfl rfl rfl rfl (tS rfl) ?_; clear hO; intro ww hO) | (refine stC hO 1 rfl rfl rfl (ltb rfl) rfl (tS rfl) ?_; clear hO; intro ww hO) | (refine stX hO 2 rfl rfl rfl rfl rfl (tS rfl) ?_; clear hO; intro ww hO) | (refine stC hO 2 rfl rfl rfl (ltb rfl) rfl (tS rfl) ?_; clear hO; intro ww hO) | (refine stX hO 3 rfl rfl rfl rfl rfl (tS rfl) ?_; clear hO; intro ww hO) | (refine stC hO 3 rfl rfl rfl (ltb rfl) rfl (tS rfl) ?_; clear hO; intro ww hO) | (refine stX hO 4 rfl rfl rfl rfl rfl (tS rfl) ?_; clear hO; intro ww hO) | (refine stC hO 4 rfl rfl rfl (ltb rfl) rfl (tS rfl) ?_; clear hO; intro ww hO) | (refine stX hO 5 rfl rfl rfl rfl rfl (tS rfl) ?_; clear hO; intro ww hO) | (refine stC hO 5 rfl rfl rfl (ltb rfl) rfl (tS rfl) ?_; clear hO; intro ww hO)))
  refine bodyPost_ret (res_tct rfl _ _ _ 27 (ringC St.zero 0#64) (0,0) _ rfl (hO.blk 3 rfl) Tryz.underlying27 rfl (irs _ _)) rfl ⟨rfl, hO.below⟩
end Go.Proofs.YtniibdglodnhoaaGreatDoor

/- Equality of states. -/
namespace Go.Proofs.YtniibdglodnhoaaGreatDoor
open Go.RowKit Go.Own Go.Bv Go.Ord Go.Eq

end Go.Proofs.YtniibdglodnhoaaGreatDoor

/- Walks: bytes.Equal, envelope's Same. -/
namespace Go.Proofs.YtniibdglodnhoaaGreatDoor
open Go.RowKit Go.Own Go.Bv Go.Ord Go.Eq

end Go.Proofs.YtniibdglodnhoaaGreatDoor

/- Walks of the document's envelope: eight, Bytes, Same, From; both From's and Bytes' refusals. -/
namespace Go.Bva
open Go.RowKit Go.Bv
section
variable {P : Program} {ops : Array Oper} {Q : Exit → Act → World → Prop} {a : Act} {w : World} {rest : List Oper}
variable {d : Option Tmp} {ty : TypeId} {pos : String} {aft : Array Edge}
def brem (u : BitVec 64) : BitVec 64 := u % 256#64
def bquo (u : BitVec 64) : BitVec 64 := u / 256#64
def blow (u : BitVec 64) : BitVec 8 := u.setWidth 8
theorem rem_u64 {t yt : TypeId} {x y : Operand} {u : BitVec 64} (hx : a.eval x = .int .u64 (u.toNat : Int)) (hy : a.eval y = .int .u64 256)
    (h : wpList P ops Q rest (a.put d (.int .u64 ((brem u).toNat : Int))) w) : wpList P ops Q ({ dst := d, op := .binOp .rem t x y yt, type := ty, pos := pos, after := aft, guard := none } :: rest) a w := by
  unfold brem at h
  refine step_val ?_ h
  simp only [execOp, hx, hy]
  have e : ∀ z : Int, IntKind.u64.wrap z = z % 18446744073709551616 := fun z => by simp [IntKind.wrap, IntKind.bits, IntKind.signed]
  have hu := u.isLt
  simp [go_sem, binOp, eqGuard, Op.intArith, e, BitVec.toNat_umod, Int.tmod_eq_emod_of_nonneg]
  try omega
theorem quo_u64 {t yt : TypeId} {x y : Operand} {u : BitVec 64} (hx : a.eval x = .int .u64 (u.toNat : Int)) (hy : a.eval y = .int .u64 256)
    (h : wpList P ops Q rest (a.put d (.int .u64 ((bquo u).toNat : Int))) w) : wpList P ops Q ({ dst := d, op := .binOp .quo t x y yt, type := ty, pos := pos, after := aft, guard := none } :: rest) a w := by
  unfold bquo at h
  refine step_val ?_ h
  simp only [execOp, hx, hy]
  have e : ∀ z : Int, IntKind.u64.wrap z = z % 18446744073709551616 := fun z => by simp [IntKind.wrap, IntKind.bits, IntKind.signed]
  have hu := u.isLt
  simp [go_sem, binOp, eqGuard, Op.intArith, e, BitVec.toNat_udiv, Int.tdiv_eq_ediv_of_nonneg]
  try omega
theorem cnv_64_8 {s t : TypeId} {x : Operand} {u : BitVec 64} (hs : P.underlying s = some (.int .u64)) (ht : P.underlying t = some (.int .u8)) (hx : a.eval x = .int .u64 (u.toNat : Int))
    (h : wpList P ops Q rest (a.put d (.int .u8 ((blow u).toNat : Int))) w) : wpList P ops Q ({ dst := d, op := .convert s t x, type := ty, pos := pos, after := aft, guard := none } :: rest) a w := by
  unfold blow at h
  refine step_val ?_ h
  have e : IntKind.u8.wrap (u.toNat : Int) = ((u.setWidth 8).toNat : Int) := by
    rw [IntKind.wrap_u8', BitVec.toNat_setWidth]; omega
  simp only [execOp, hx]
  have hc : (convert s t (.int IntKind.u64 (u.toNat : Int))).run P w = .ok (.int IntKind.u8 (IntKind.u8.wrap (u.toNat : Int))) w := by simp [convert, run_underlying hs, run_underlying ht, Conv.intToInt]
  simp [hc, e]
end
end Go.Bva
namespace Go.Proofs.YtniibdglodnhoaaGreatDoor
open Go.RowKit Go.Own Go.Bv Go.Ord Go.Eq

def quoK (n : BitVec 64) : Nat → BitVec 64
  | 0 => n
  | k + 1 => Go.Bva.bquo (quoK n k)
def reK (n : BitVec 64) : Nat → List (BitVec 8)
  | 0 => []
  | k + 1 => reK n k ++ [Go.Bva.blow (Go.Bva.brem (quoK n k))]
theorem reK_eight (n : BitVec 64) : reK n 8 = eight n := by
  simp only [reK, quoK, eight, List.nil_append, List.cons_append, List.cons.injEq, and_true]
  have := n.isLt
  refine ⟨?_, ?_, ?_, ?_, ?_, ?_, ?_, ?_⟩ <;> apply BitVec.eq_of_toNat_eq <;> simp [Go.Bva.blow, Go.Bva.brem, Go.Bva.bquo, Nat.shiftRight_eq_div_pow] <;> omega

set_option maxHeartbeats 2000000 in
set_option maxRecDepth 100000 in
theorem reight_calls (n : BitVec 64) (w : World) :
    Calls Tryz.prog 63 #[.int .u64 (n.toNat : Int)] w fun e w' => ∃ a' c', e = .returned (.slice a' 8 c') ∧ Below w.heap.size w w' ∧ w'.ownsRow w.heap.size 5 1 (.slice a' 8 c') 8 (u8s (eight n)) := by
  have hO := Own.start w
  have H8 := Lib.hid (reK_eight n)
  generalize hW : w = wn at hO ⊢
  clear hW w
  go_enter Tryz.func63, Tryz.ntmps63
  go_wp2
  replace hO : Own wn _ [.sl 5 1 (.slice none 0 0) 0 (u8s (reK n 0))] := hO.add (Below.refl _ _) (World.ownsRow_nil _ _ _ _)
  go_loopg [0, 3, 4] 8 (fun m s0 s3 c wr => ∃ (k : Nat) (aK : Option Addr) (cK : Nat), m = 8 - k ∧ k ≤ 8 ∧ c = .int .i64 k ∧ s0 = .int .u64 ((quoK n k).toNat : Int) ∧ s3 = .slice aK k cK ∧ Own wn wr [.sl 5 1 (.slice aK k cK) k (u8s (reK n k))])
  case atStart => exact ⟨0, _, _, rfl, by omega, rfl, rfl, rfl, hO⟩
  case round =>
    obtain ⟨k, aK, cK, rfl, hk, rfl, rfl, rfl, hO1⟩ := hrel
    clear hO
    have hO := hO1
    clear hO1
    by_cases hlt : k < 8
    · have hb0 : decide ((k : Int) < 8) = true := by simp; omega
      have HQ : Hid (quoK n (k + 1) = Go.Bva.bquo (quoK n k)) := rfl
      have HR : Hid (u8s (reK n (k + 1)) = u8s (reK n k) ++ u8s [Go.Bva.blow (Go.Bva.brem (quoK n k))]) := by show _ = _; rw [u8s_append']; rfl
      generalize quoK n k = q at *
      generalize u8s (reK n k) = L at *
      obtain ⟨x, hx⟩ : ∃ x, Go.Bva.blow (Go.Bva.brem q) = x := ⟨_, rfl⟩
      rw [hx] at HR
      have HX := Lib.hid hx
      clear hx
      go_wp2_with (first
        | ((with_reducible refine Go.Bva.gBin (op := .rem) ?_); refine Go.Bva.rem_u64 rfl rfl ?_)
        | ((with_reducible refine Go.Bva.gBin (op := .quo) ?_); refine Go.Bva.quo_u64 rfl rfl ?_)
        | ((with_reducible refine Go.Bva.gCnv ?_); refine Go.Bva.cnv_64_8 Tryz.underlying25 Tryz.underlying5 rfl ?_; rw [HX.out])
        | ((with_reducible refine gBuild ?_); refine own_build hO 29 1 _ eu8_8 (u8s [x]).toArray (by omega) (by omega) (by simp [go_sem, Instr.fill, u8s]) rfl ?_; clear hO; intro g ww hO)
        | ((with_reducible refine gAppend ?_); refine own_append hO 1 _ _ 29 eu8_8 rfl rfl rfl (hO.rdAt 0 rfl) (u8s_one _) (k + 1) rfl (by simp [maxLen]; omega) (by omega) ?_; clear hO; intro a2 c2 ww hO))
      go_roundg (8 - (k + 1))
      case measure => omega
      case rel =>
        refine ⟨k + 1, a2, c2, rfl, by omega, by go_num, by rw [HQ.out], rfl, ?_⟩
        rw [HR.out]
        exact hO.sub (by repeat first | exact List.Sublist.refl _ | apply List.Sublist.cons)
    · obtain rfl : k = 8 := by omega
      rw [H8.out] at hO
      go_wp2
      go_ret
      exact ⟨_, _, rfl, hO.below, hO.row 0 rfl⟩

set_option maxHeartbeats 4000000 in
set_option maxRecDepth 100000 in
theorem rbytes_ok (n : BitVec 64) (u : St) (a : Option Addr) (len cap : Nat) (t : List (BitVec 8)) (w : World) (hR : Rd w 1 a len cap (u8s t)) (hl : len ≤ 65536) :
    Calls Tryz.prog 33 #[.agg (boxC n (.slice a len cap) u)] w fun e w' => ∃ a' c', e = .returned (.tuple #[.slice a' (8 + 16 + len) c', .int .i64 0]) ∧ Below w.heap.size w w' ∧ w'.ownsRow w.heap.size 5 1 (.slice a' (8 + 16 + len) c') (8 + 16 + len) (u8s (eight n ++ u.octs ++ t)) := by
  have hO := Own.start w
  have HR := Lib.hid hR
  have d1 : decide ((65536 : Int) < (len : Int)) = false := by simp; omega
  have G1 := Lib.hid (reight_calls n)
  have G2 := Lib.hid (rocts_calls u)
  rw [← u8s_append', ← u8s_append']
  obtain ⟨E8, hE8⟩ : ∃ E8, eight n = E8 := ⟨_, rfl⟩
  obtain ⟨UO, hUO⟩ : ∃ UO, u.octs = UO := ⟨_, rfl⟩
  rw [hE8] at G1 ⊢
  rw [hUO] at G2 ⊢
  clear hR hE8 hUO
  generalize hW : w = wn at hO HR ⊢
  clear hW w
  go_enter Tryz.func33, Tryz.ntmps33
  go_wp2_with (first
    | ((with_reducible refine gBox ?_); first | (refine bxA hO rfl ?_; clear hO; intro b ww hO) | (refine bx1 hO rfl rfl ?_; clear hO; intro b ww hO))
    | ((with_reducible refine gLoad (T := 29) ?_); refine ldC hO 0 rfl rfl (tA rfl) rfl ?_))
  refine wp_region_textS (fun w' => Own wn w' [.blk b (.cells (boxC n (.slice a len cap) u) 54 (0,0))]) (fun op => match op with | .load _ _ => true | _ => false) (by kernel_rfl) (by kernel_rfl) hO.drew ?_
  replace hO := hO.drew
  generalize World.drew _ = wd at hO ⊢
  go_wp2_with (first
    | (((with_reducible refine gIL ?_); first | refine wpI_ldcS (fun w' hS => hS.blk 0 rfl) rfl rfl (tA rfl) rfl ?_); first | (refine wpI_act (by simp only [Act.put, List.setIfInBounds_toArray, List.set_cons_succ, List.set_cons_zero]; rfl) ?_) | skip)
    | ((with_reducible refine gIL ?_); refine wpI_ldpS u.C.toList (fun w' hS => hS.blk 0 rfl) rfl rfl (tA rfl) (tS rfl) rfl ?_; first | (refine wpI_act (by simp only [Act.put, List.setIfInBounds_toArray, List.set_cons_succ, List.set_cons_zero]; rfl) ?_) | skip)
    | (go_at_call 63; refine (G1.out _).mono ?_; rintro e ww ⟨a1, c1, rfl, hb, hr⟩; replace hO := hO.addRow hb hr; clear hb hr)
    | (go_at_call 64; refine (G2.out _).mono ?_; rintro e ww ⟨a2, c2, rfl, hb, hr⟩; replace hO := hO.addRow hb hr; clear hb hr)
    | ((with_reducible refine gAppend ?_); first
        | (refine own_append hO 1 _ _ 29 eu8_8 rfl rfl rfl (hO.rdAt 0 rfl) (u8s_one _) (8 + 16) rfl (by simp [maxLen]) (by omega) ?_; clear hO; intro a3 c3 ww hO)
        | (refine own_append hO 1 _ _ 29 eu8_8 rfl rfl rfl (hO.rd HR.out) (u8s_one _) (8 + 16 + len) rfl (by simp [maxLen]; omega) (by omega) ?_; clear hO; intro a4 c4 ww hO))
    | ((with_reducible refine gI ?_); refine wpI_step rfl rfl (by kernel_rfl) ?_; intro K hK; have HK := Lib.hid hK; clear hK) | ((with_reducible refine gI ?_); first | refine wpI_skip rfl ?_ | refine wpI_want rfl ?_) | ((with_reducible refine gOnlyK HK.out ?_ ?_); exact hO.sub (by repeat first | exact List.Sublist.refl _ | apply List.Sublist.cons); clear HK K; first | (refine wpI_act (by simp only [Act.put, List.setIfInBounds_toArray, List.set_cons_succ, List.set_cons_zero]; rfl) ?_) | skip) | (with_reducible refine wpI_nil ?_))
  go_ret2
  exact ⟨_, _, rfl, hO.below, hO.row 1 rfl⟩

set_option maxHeartbeats 1000000 in
set_option maxRecDepth 100000 in
theorem from_long (a : Option Addr) (len cap : Nat) (w : World) (hl : 65560 < len) :
    Calls Tryz.prog 41 #[.slice a len cap] w fun e w' => e = .returned (.tuple #[.agg (boxC 0#64 (.slice none 0 0) St.zero), .int .i64 3]) ∧ Below w.heap.size w w' := by
  have hO := Own.start w
  have d0 : decide ((len : Int) < 24) = false := by simp; omega
  have d1 : decide ((65560 : Int) < (len : Int)) = true := by simp; omega
  generalize hW : w = wn at hO ⊢
  clear hW w
  go_enter Tryz.func41, Tryz.ntmps41
  go_wp2_with (first
    | ((with_reducible refine gAlloc (T := 54) ?_); refine own_alloc hO _ _ ibz ?_; clear hO; intro bx ww hO)
    | ((with_reducible refine gLoad (T := 54) ?_); refine ldX hO 0 rfl rfl (tA rfl) (tS rfl) ?_)
    | ((with_reducible refine gStore (T := 54) ?_); refine stX hO 0 rfl rfl rfl rfl rfl (tS rfl) ?_; clear hO; intro ww hO))
  refine bodyPost_ret (res_ct rfl _ _ bx 54 (boxC 0#64 (.slice none 0 0) St.zero) (0,0) _ rfl (hO.blk 0 rfl) Tryz.underlying54 rfl (ibs _ _ _)) rfl ⟨rfl, hO.below⟩

set_option maxHeartbeats 1000000 in
set_option maxRecDepth 100000 in
theorem rfrom_no (a : Option Addr) (len cap : Nat) (w : World) (hl : len < 24) :
    Calls Tryz.prog 24 #[.slice a len cap] w fun e w' => e = .returned (.tuple #[.agg (boxC 0#64 (.slice none 0 0) St.zero), .int .i64 2]) ∧ Below w.heap.size w w' := by
  have hO := Own.start w
  have d1 : decide ((len : Int) < 24) = true := by simp; omega
  generalize hW : w = wn at hO ⊢
  clear hW w
  go_enter Tryz.func24, Tryz.ntmps24
  go_wp2_with (first
    | ((with_reducible refine gAlloc (T := 54) ?_); refine own_alloc hO _ _ ibz ?_; clear hO; intro bx ww hO)
    | ((with_reducible refine gLoad (T := 54) ?_); refine ldX hO 0 rfl rfl (tA rfl) (tS rfl) ?_)
    | ((with_reducible refine gStore (T := 54) ?_); refine stX hO 0 rfl rfl rfl rfl rfl (tS rfl) ?_; clear hO; intro ww hO))
  refine bodyPost_ret (res_ct rfl _ _ bx 54 (boxC 0#64 (.slice none 0 0) St.zero) (0,0) _ rfl (hO.blk 0 rfl) Tryz.underlying54 rfl (ibs _ _ _)) rfl ⟨rfl, hO.below⟩

set_option maxHeartbeats 1000000 in
set_option maxRecDepth 100000 in
theorem rfrom_long (a : Option Addr) (len cap : Nat) (w : World) (hl : 65560 < len) :
    Calls Tryz.prog 24 #[.slice a len cap] w fun e w' => e = .returned (.tuple #[.agg (boxC 0#64 (.slice none 0 0) St.zero), .int .i64 3]) ∧ Below w.heap.size w w' := by
  have hO := Own.start w
  have d0 : decide ((len : Int) < 24) = false := by simp; omega
  have d1 : decide ((65560 : Int) < (len : Int)) = true := by simp; omega
  generalize hW : w = wn at hO ⊢
  clear hW w
  go_enter Tryz.func24, Tryz.ntmps24
  go_wp2_with (first
    | ((with_reducible refine gAlloc (T := 54) ?_); refine own_alloc hO _ _ ibz ?_; clear hO; intro bx ww hO)
    | ((with_reducible refine gLoad (T := 54) ?_); refine ldX hO 0 rfl rfl (tA rfl) (tS rfl) ?_)
    | ((with_reducible refine gStore (T := 54) ?_); refine stX hO 0 rfl rfl rfl rfl rfl (tS rfl) ?_; clear hO; intro ww hO))
  refine bodyPost_ret (res_ct rfl _ _ bx 54 (boxC 0#64 (.slice none 0 0) St.zero) (0,0) _ rfl (hO.blk 0 rfl) Tryz.underlying54 rfl (ibs _ _ _)) rfl ⟨rfl, hO.below⟩

end Go.Proofs.YtniibdglodnhoaaGreatDoor

/- Results that are texts: an opaque piece of memory that holds them. -/
namespace Go.Proofs.YtniibdglodnhoaaGreatDoor
open Go.RowKit Go.Own Go.Bv Go.Ord

/-- a piece of memory that holds, wherever it is held, these octets at this place -/
def Gives (r : Res) (a : Option Addr) (m c : Nat) (X : List (BitVec 8)) : Prop := ∀ lo w', Res.holds lo w' r → Rd w' 1 a m c (u8s X)
theorem gives_sl {e : TypeId} {a : Option Addr} {N c n : Nat} {xs : List Value} {X : List (BitVec 8)} (hn : n ≤ N) (h : xs.take (n * 1) = u8s X) : Gives (.sl e 1 (.slice a N c) N xs) a n c X := fun lo w' hh => by
  obtain ⟨a', c', h1, h2⟩ := rd_of_row hh
  simp only [Value.slice.injEq, true_and] at h1
  obtain ⟨rfl, rfl⟩ := h1
  rw [← h]
  exact h2.take n hn
theorem gives_row {e : TypeId} {a : Option Addr} {n c : Nat} {X : List (BitVec 8)} (hl : X.length = n) : Gives (.sl e 1 (.slice a n c) n (u8s X)) a n c X :=
  gives_sl (Nat.le_refl _) (List.take_of_length_le (by rw [u8s_length]; omega))
theorem gives_blk {g : Nat} {C : Array Value} {t : TypeId} {fr : Nat × Nat} {n : Nat} {X : List (BitVec 8)} (hC : C.toList.take n = u8s X) (hl : X.length = n) (hm : n ≤ maxLen) : Gives (.blk g (.cells C t fr)) (some ⟨g, 0, none⟩) n n X := fun lo w' hh =>
  rd_blk_off hh.2 0 (by rw [List.drop_zero]; exact hC) (by rw [u8s_length]; exact hl) (Nat.le_refl _) hm
end Go.Proofs.YtniibdglodnhoaaGreatDoor
