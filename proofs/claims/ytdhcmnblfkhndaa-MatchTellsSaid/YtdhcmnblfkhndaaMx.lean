/- Walks: SameBytes, match.Check, Text. -/
import Derived.Test.YtdhcmnblfkhndaaMl
namespace Go.Mt
theorem again_next (d j : Nat) (b : List (BitVec 8)) (M : Nat) (hb : b.length = M) (hd : 1 ≤ d) (hdM : d ≤ M) : ∃ x, (again d j b)[M - d + j]? = some x ∧ again d (j + 1) b = again d j b ++ [x] := by
  have hl := again_length d j b
  have h : M - d + j < (again d j b).length := by rw [hl, hb]; omega
  refine ⟨(again d j b)[M - d + j], List.getElem?_eq_getElem h, ?_⟩
  rw [again_succ, hl, hb, show M + j - d = M - d + j by omega, List.getD_eq_getElem?_getD, List.getElem?_eq_getElem h]
  rfl
end Go.Mt
namespace Go.Proofs.Ytdhcmnblfkhndaa
open Go.RowKit Go.Own Go.Bv Go.Ord Go.Eq Go.Mt

set_option maxHeartbeats 1000000 in
theorem same_calls (a1 a2 : Option Addr) (n1 c1 n2 c2 : Nat) (b1 b2 : List (BitVec 8)) (w : World) (h1 : Rd w 1 a1 n1 c1 (u8s b1)) (h2 : Rd w 1 a2 n2 c2 (u8s b2)) :
    Calls Try.prog 17 #[.slice a1 n1 c1, .slice a2 n2 c2] w fun e w' => e = .returned (.bool (decide (b1 = b2))) ∧ w = w' := by
  have r1 := run_bytes_string (P := Try.prog) w Try.underlying23 Try.underlying5 Try.underlying9 h1
  have r2 := run_bytes_string (P := Try.prog) w Try.underlying23 Try.underlying5 Try.underlying9 h2
  clear h1 h2
  go_enter Try.func17, Try.ntmps17
  go_wp2
  go_ret
  exact ⟨by rw [strB_beq]; rfl, rfl⟩

set_option maxHeartbeats 1000000 in
theorem check_calls (a : Option Addr) (n c : Nat) (l : List Tok) (w : World) (hR : Rd w 3 a n c (tks l)) (E : Int) (hok : n ≤ 65536 → okFrom 0 l → E = 0) (hno : 65536 < n ∨ ¬ okFrom 0 l → E = 1) :
    Calls Try.prog 20 #[.slice a n c] w fun e w' => e = .returned (.int .i64 E) ∧ Below w.heap.size w w' := by
  have hO := Own.start w
  obtain ⟨N, hN⟩ : ∃ N : Int, (n ≤ 65536 → okFrom 0 l → N = told l ∧ E = 0) ∧ (65536 < n ∨ ¬ okFrom 0 l → N = 0 ∧ E = 1) := by
    by_cases h : n ≤ 65536 ∧ okFrom 0 l
    · exact ⟨told l, fun h1 h2 => ⟨rfl, hok h1 h2⟩, fun h1 => by rcases h1 with h1 | h1; omega; exact absurd h.2 h1⟩
    · exact ⟨0, fun h1 h2 => absurd ⟨h1, h2⟩ h, fun h1 => ⟨rfl, hno h1⟩⟩
  have HC := Lib.hid (fun w h => long_calls a n c l w h N E hN.1 hN.2)
  have HR := Lib.hid hR
  clear hN hok hno hR
  generalize hW : w = wn at hO HR ⊢
  clear hW w
  go_enter Try.func20, Try.ntmps20
  go_wp2_with (first
    | (go_at_call 15; refine (HC.out _ (hO.rd HR.out)).mono ?_; rintro e ww ⟨rfl, hb⟩; replace hO := hO.call hb; clear hb))
  go_ret
  exact ⟨rfl, hO.below⟩

set_option maxHeartbeats 1000000 in
theorem text_bad (a : Option Addr) (n c : Nat) (l : List Tok) (most : Int) (w : World) (hR : Rd w 3 a n c (tks l)) (h : (65536 < n ∨ ¬ okFrom 0 l) ∨ most < 0) :
    Calls Try.prog 16 #[.slice a n c, .int .i64 most] w fun e w' => e = .returned (.tuple #[.slice none 0 0, .int .i64 1]) ∧ Below w.heap.size w w' := by
  have hO := Own.start w
  have HR := Lib.hid hR
  by_cases hb : 65536 < n ∨ ¬ okFrom 0 l
  · have HC := Lib.hid (fun w h => long_calls a n c l w h 0 1 (fun h1 h2 => by rcases hb with hb | hb; omega; exact absurd h2 hb) (fun _ => ⟨rfl, rfl⟩))
    clear hR hb h
    generalize hW : w = wn at hO HR ⊢
    clear hW w
    go_enter Try.func16, Try.ntmps16
    go_wp2_with (first
      | (go_at_call 15; refine (HC.out _ (hO.rd HR.out)).mono ?_; rintro e ww ⟨rfl, hb⟩; replace hO := hO.call hb; clear hb))
    go_ret2
    exact ⟨rfl, hO.below⟩
  · have hm : most < 0 := by rcases h with h | h; exact absurd h hb; exact h
    have d1 : decide (most < 0) = true := by simpa using hm
    have HC := Lib.hid (fun w h => long_calls a n c l w h (told l) 0 (fun _ _ => ⟨rfl, rfl⟩) (fun h1 => absurd h1 hb))
    clear hR hb h hm
    generalize hW : w = wn at hO HR ⊢
    clear hW w
    generalize told l = N at HC
    go_enter Try.func16, Try.ntmps16
    go_wp2_with (first
      | ((with_reducible refine gG ?_); refine wpList_want rfl ?_)
      | (go_at_call 15; refine (HC.out _ (hO.rd HR.out)).mono ?_; rintro e ww ⟨rfl, hb⟩; replace hO := hO.call hb; clear hb))
    go_ret2
    exact ⟨rfl, hO.below⟩

set_option maxHeartbeats 1000000 in
theorem text_long (a : Option Addr) (n c : Nat) (l : List Tok) (most : Int) (w : World) (hR : Rd w 3 a n c (tks l)) (hn : n ≤ 65536) (hk : okFrom 0 l) (hm : 0 ≤ most) (h : most < (told l : Int) ∨ 65536 < told l) :
    Calls Try.prog 16 #[.slice a n c, .int .i64 most] w fun e w' => e = .returned (.tuple #[.slice none 0 0, .int .i64 3]) ∧ Below w.heap.size w w' := by
  have hO := Own.start w
  have HR := Lib.hid hR
  have d1 : decide (most < 0) = false := by simpa using hm
  have HC := Lib.hid (fun w h => long_calls a n c l w h (told l) 0 (fun _ _ => ⟨rfl, rfl⟩) (fun h1 => by rcases h1 with h1 | h1; omega; exact absurd hk h1))
  have HMN : Hid ((if (65536 : Int) < most then 65536 else most) = min most 65536) := by show _ = _; split <;> omega
  have d2 : decide (min most 65536 < (told l : Int)) = true := by simp; omega
  clear hR hk hm h
  generalize hW : w = wn at hO HR ⊢
  clear hW w
  generalize told l = N at HC d2
  go_enter Try.func16, Try.ntmps16
  go_wp2_with (first
    | ((with_reducible refine gG ?_); refine wpList_want rfl ?_)
    | ((with_reducible refine gMin ?_); refine minV _ HMN.out rfl rfl ?_)
    | (go_at_call 15; refine (HC.out _ (hO.rd HR.out)).mono ?_; rintro e ww ⟨rfl, hb⟩; replace hO := hO.call hb; clear hb))
  go_ret2
  exact ⟨rfl, hO.below⟩

set_option maxHeartbeats 4000000 in
set_option maxRecDepth 100000 in
theorem text_ok (a : Option Addr) (n c : Nat) (l : List Tok) (most : Int) (w : World) (hR : Rd w 3 a n c (tks l)) (hn : n ≤ 65536) (hk : okFrom 0 l) (hm : (told l : Int) ≤ most) (h6 : told l ≤ 65536) :
    Calls Try.prog 16 #[.slice a n c, .int .i64 most] w fun e w' => ∃ a' N c', N = told l ∧ e = .returned (.tuple #[.slice a' N c', .int .i64 0]) ∧ Below w.heap.size w w' ∧ w'.ownsRow w.heap.size 5 1 (.slice a' N c') N (u8s (text l)) := by
  have hO := Own.start w
  have HR := Lib.hid hR
  have HL : Hid (l.length = n) := by have := hR.len; rw [tks_length] at this; show _ = _; omega
  have d1 : decide (most < 0) = false := by simp; omega
  have HC := Lib.hid (fun w h => long_calls a n c l w h (told l) 0 (fun _ _ => ⟨rfl, rfl⟩) (fun h1 => by rcases h1 with h1 | h1; omega; exact absurd hk h1))
  have HMN : Hid ((if (65536 : Int) < most then 65536 else most) = min most 65536) := by show _ = _; split <;> omega
  have d2 : decide (min most 65536 < (told l : Int)) = false := by simp; omega
  have HK := Lib.hid hk
  clear hR hm hk
  generalize hW : w = wn at hO HR ⊢
  clear hW w
  obtain ⟨N, hN⟩ : ∃ N, told l = N := ⟨_, rfl⟩
  rw [hN] at HC d2 h6
  have HN := Lib.hid hN
  clear hN
  go_enter Try.func16, Try.ntmps16
  go_wp2_with (first
    | ((with_reducible refine gG ?_); refine wpList_want rfl ?_)
    | ((with_reducible refine gMin ?_); refine minV _ HMN.out rfl rfl ?_)
    | ((with_reducible refine gMake ?_); refine own_make0 hO _ _ 23 eu8 N rfl rfl rfl (by omega) (by simp [maxLen]; omega) ?_; clear hO; intro g ww hO)
    | (go_at_call 15; refine (HC.out _ (hO.rd HR.out)).mono ?_; rintro e ww ⟨rfl, hb⟩; replace hO := hO.call hb; clear hb))
  clear d1 d2 HMN HC
  go_loopg [8, 33] n (fun m s8 s33 wr => ∃ (k M : Nat) (aO : Option Addr) (cO : Nat), m = n - k ∧ k ≤ n ∧ s33 = .int .i64 (k : Int) ∧ s8 = .slice aO M cO ∧ M = told (l.take k) ∧ Own wn wr [.sl 5 1 (.slice aO M cO) M (u8s (text (l.take k)))])
  case atStart => exact ⟨0, 0, _, _, rfl, by omega, rfl, rfl, rfl, hO⟩
  case round =>
    obtain ⟨k, M, aO, cO, rfl, hkn, rfl, rfl, hM, hO1⟩ := hrel
    clear hO
    have hO := hO1
    have HM := Lib.hid hM
    clear hO1 hM
    by_cases c1 : k < n
    · have d1 : decide ((k : Int) < (n : Int)) = true := by simp; omega
      have hkl : k < l.length := by rw [HL.out]; exact c1
      have ht := List.getElem?_eq_getElem (l := l) (i := k) hkl
      have hto := told_next hkl
      have htx := text_next hkl
      have htl := text_length (okFrom_take k HK.out)
      have hto2 := told_take_le l (k + 1)
      have hokk := (okFrom_next hkl).1 (okFrom_take (k + 1) HK.out)
      rw [← HM.out] at hto htl hokk
      rw [HN.out] at hto2
      obtain ⟨t, hte⟩ : ∃ t, l[k] = t := ⟨_, rfl⟩
      rw [hte] at ht hto htx hokk
      have HT := Lib.hid ht
      have hz := Tok.ok_size hokk.2
      have hok := hokk.2
      clear ht hte hkl hokk
      obtain ⟨b0, off, rfl⟩ := HR.out.place (by omega)
      obtain ⟨B, hB⟩ : ∃ B, text (l.take k) = B := ⟨_, rfl⟩
      rw [hB] at htx htl hO
      have HTX := Lib.hid htx
      have HTO := Lib.hid hto
      have HTL := Lib.hid htl
      have hbd : M + t.size ≤ 65536 := by omega
      clear htx hB
      rcases hok with ⟨h1, h2⟩ | ⟨h1, h2, h3, h4, h5, h6⟩
      · obtain ⟨lit, len, dist⟩ := t
        dsimp only at h1 h2
        subst h1 h2
        have HB1 : Hid (u8s (text (l.take (k + 1))) = u8s B ++ u8s [lit]) := by show _ = _; rw [HTX.out]; unfold u8s; rw [← List.map_append]; rfl
        have HM1 : Hid (told (l.take (k + 1)) = M + 1) := by show _ = _; rw [HTO.out]; rfl
        have hM6 : M + 1 ≤ 65536 := hbd
        clear hto htl hto2 hz hbd HTX HTO
        go_wp2_with (first
          | ((with_reducible refine gAlloc (T := 25) ?_); refine own_alloc hO _ _ itz ?_; clear hO; intro bx ww hO)
          | ((with_reducible refine gLoad (T := 25) ?_); refine ld_tok (hO.rd HR.out) HT.out rfl (by omega) (tA rfl) (tS rfl) ?_)
          | ((with_reducible refine gLoad ?_); first | refine ldX hO 0 rfl rfl (tA rfl) (tS rfl) ?_ | refine ldC hO 0 rfl rfl (tA rfl) rfl ?_ | refine ldX hO 1 rfl rfl (tA rfl) (tS rfl) ?_ | refine ldC hO 1 rfl rfl (tA rfl) rfl ?_)
          | ((with_reducible refine gStore ?_); first | (refine stX hO 0 rfl rfl rfl rfl rfl (tS rfl) ?_; clear hO; intro ww hO) | (refine stC hO 0 rfl rfl rfl (ltb rfl) rfl (tS rfl) ?_; clear hO; intro ww hO))
          | ((with_reducible refine gBuild (T := 23) ?_); refine own_build hO 23 1 _ eu8 (u8s [lit]).toArray (by omega) (by omega) (by kernel_rfl) rfl ?_; clear hO; intro g2 ww hO)
          | ((with_reducible refine gAppend ?_); refine own_append hO 2 _ _ 23 eu8 rfl rfl rfl (hO.rdAt 0 rfl) (u8s_one _) (M + 1) rfl (by simp [maxLen]; omega) (by omega) ?_; clear hO; intro a2 c2 ww hO))
        go_roundg (n - (k + 1))
        case measure => omega
        case rel => exact ⟨k + 1, M + 1, a2, c2, rfl, by omega, by go_num, rfl, HM1.out.symm, by rw [HB1.out]; exact hO.sub (by repeat first | exact List.Sublist.refl _ | apply List.Sublist.cons)⟩
      · obtain ⟨lit, len, dist⟩ := t
        dsimp only at h1 h2 h3 h4 h5 h6
        obtain ⟨L, rfl⟩ : ∃ L : Nat, len = (L : Int) := ⟨len.toNat, by omega⟩
        obtain ⟨D, rfl⟩ : ∃ D : Nat, dist = (D : Int) := ⟨dist.toNat, by omega⟩
        have hs : Tok.size ⟨lit, (L : Int), (D : Int)⟩ = L := by unfold Tok.size; dsimp only; rw [if_neg (by omega)]; omega
        rw [hs] at hbd
        have HB1 : Hid (text (l.take (k + 1)) = again D L B) := by show _ = _; rw [HTX.out]; unfold Tok.tell; dsimp only; rw [if_neg (by omega)]; rfl
        have HM1 : Hid (told (l.take (k + 1)) = M + L) := by show _ = _; rw [HTO.out, hs]
        have hDM : D ≤ M := by omega
        have hD1 : 1 ≤ D := by omega
        have hL3 : 3 ≤ L := by omega
        have e1 : ((L : Int) == 0) = false := by simp; omega
        obtain ⟨F, hF⟩ : ∃ F, F = M - D := ⟨_, rfl⟩
        have e2 : wrap64 ((M : Int) - (D : Int)) = (F : Int) := by unfold wrap64; omega
        have e3 : (M : Int) - (D : Int) = (F : Int) := by omega
        have HAN : Hid (∀ j, ∃ x, (again D j B)[F + j]? = some x ∧ again D (j + 1) B = again D j B ++ [x]) := fun j => by rw [hF]; exact again_next D j B M HTL.out hD1 hDM
        have hFM : F < M := by omega
        clear hF
        clear hto htl hto2 hz hs HTX HTO h1 h2 h3 h4 h5 h6
        go_wp2_with (first
          | ((with_reducible refine gAlloc (T := 25) ?_); refine own_alloc hO _ _ itz ?_; clear hO; intro bx ww hO)
          | ((with_reducible refine gLoad (T := 25) ?_); refine ld_tok (hO.rd HR.out) HT.out rfl (by omega) (tA rfl) (tS rfl) ?_)
          | ((with_reducible refine gLoad ?_); first | refine ldX hO 0 rfl rfl (tA rfl) (tS rfl) ?_ | refine ldC hO 0 rfl rfl (tA rfl) rfl ?_)
          | ((with_reducible refine gStore ?_); first | (refine stX hO 0 rfl rfl rfl rfl rfl (tS rfl) ?_; clear hO; intro ww hO) | (refine stC hO 0 rfl rfl rfl (ltb rfl) rfl (tS rfl) ?_; clear hO; intro ww hO)))
        clear e1 e2 e3
        replace hO : Own wn _ [.blk bx (.cells (Tok.C ⟨lit, (L : Int), (D : Int)⟩) 25 (0,0)), .sl 5 1 (.slice aO M cO) M (u8s B)] := hO
        go_loopg [8, 11] L (fun m s8 s11 wq => ∃ (j q : Nat) (aJ : Option Addr) (cJ : Nat), m = L - j ∧ j + q = L ∧ s8 = .slice aJ (M + j) cJ ∧ s11 = .int .i64 ((F + j : Nat) : Int) ∧ Own wn wq [.blk bx (.cells (Tok.C ⟨lit, (q : Int), (D : Int)⟩) 25 (0,0)), .sl 5 1 (.slice aJ (M + j) cJ) (M + j) (u8s (again D j B))])
        case atStart => exact ⟨0, L, aO, cO, rfl, by omega, rfl, rfl, hO⟩
        case round =>
          obtain ⟨j, q, aJ, cJ, rfl, hjq, rfl, rfl, hO1⟩ := hrel
          clear hO
          have hO := hO1
          clear hO1
          by_cases c2 : 0 < q
          · have e1 : decide ((0 : Int) < (q : Int)) = true := by simp; omega
            obtain ⟨r, rfl⟩ : ∃ r, q = r + 1 := ⟨q - 1, by omega⟩
            obtain ⟨gJ, rfl⟩ := hO.slPlace 1 rfl (by omega)
            obtain ⟨x, hx1, hx2⟩ := HAN.out j
            have HX : Hid ((u8s (again D j B))[F + j]? = some (.int .u8 (x.toNat : Int))) := by show _ = _; unfold u8s; rw [List.getElem?_map, hx1]; rfl
            have HX2 : Hid (u8s (again D (j + 1) B) = u8s (again D j B) ++ u8s [x]) := by show _ = _; rw [hx2]; unfold u8s; rw [← List.map_append]
            clear hx1 hx2
            generalize u8s (again D j B) = cur at *
            go_wp2_with (first
              | ((with_reducible refine gLoad (T := 5) ?_); refine ld_sl hO 1 rfl rfl HX.out (tA rfl) ?_)
              | ((with_reducible refine gBuild (T := 23) ?_); refine own_build hO 23 1 _ eu8 (u8s [x]).toArray (by omega) (by omega) (by kernel_rfl) rfl ?_; clear hO; intro g2 ww hO)
              | ((with_reducible refine gAppend ?_); refine own_append hO 2 _ _ 23 eu8 rfl rfl rfl (hO.rdAt 0 rfl) (u8s_one _) (M + (j + 1)) (by omega) (by simp [maxLen]; omega) (by omega) ?_; clear hO; intro a2 c2 ww hO)
              | ((with_reducible refine gLoad ?_); first | refine ldX hO 0 rfl rfl (tA rfl) (tS rfl) ?_ | refine ldC hO 0 rfl rfl (tA rfl) rfl ?_ | refine ldX hO 1 rfl rfl (tA rfl) (tS rfl) ?_ | refine ldC hO 1 rfl rfl (tA rfl) rfl ?_)
              | ((with_reducible refine gStore ?_); first | (refine stX hO 0 rfl rfl rfl rfl rfl (tS rfl) ?_; clear hO; intro ww hO) | (refine stC hO 0 rfl rfl rfl (ltb rfl) rfl (tS rfl) ?_; clear hO; intro ww hO) | (refine stX hO 1 rfl rfl rfl rfl rfl (tS rfl) ?_; clear hO; intro ww hO) | (refine stC hO 1 rfl rfl rfl (ltb rfl) rfl (tS rfl) ?_; clear hO; intro ww hO)))
            go_roundg (L - (j + 1))
            case measure => omega
            case rel => exact ⟨j + 1, r, a2, c2, rfl, by omega, rfl, by go_num, by rw [HX2.out]; exact hO.tail⟩
          · obtain rfl : q = 0 := by omega
            obtain rfl : j = L := by omega
            go_wp2_with (first
              | ((with_reducible refine gLoad ?_); first | refine ldX hO 0 rfl rfl (tA rfl) (tS rfl) ?_ | refine ldC hO 0 rfl rfl (tA rfl) rfl ?_))
            go_roundg (n - (k + 1))
            case measure => omega
            case rel => exact ⟨k + 1, M + j, aJ, cJ, rfl, by omega, by go_num, rfl, HM1.out.symm, by rw [HB1.out]; exact hO.tail⟩
    · obtain rfl : k = n := by omega
      have HA : Hid (l.take k = l) := List.take_of_length_le (by rw [HL.out]; exact Nat.le_refl _)
      have HMN : Hid (M = told l) := by show _ = _; rw [HM.out, HA.out]
      rw [HA.out] at hO
      go_wp2
      go_ret2
      exact ⟨aO, M, cO, HMN.out, rfl, hO.below, hO.row 0 rfl⟩
theorem text_okN (a : Option Addr) (n c : Nat) (l : List Tok) (most : Int) (N : Nat) (hN : told l = N) (w : World) (hR : Rd w 3 a n c (tks l)) (hn : n ≤ 65536) (hk : okFrom 0 l) (hm : (N : Int) ≤ most) (h6 : N ≤ 65536) :
    Calls Try.prog 16 #[.slice a n c, .int .i64 most] w fun e w' => ∃ a' c', e = .returned (.tuple #[.slice a' N c', .int .i64 0]) ∧ Below w.heap.size w w' ∧ w'.ownsRow w.heap.size 5 1 (.slice a' N c') N (u8s (text l)) := by
  subst hN
  refine (text_ok a n c l most w hR hn hk hm h6).mono ?_
  rintro e w' ⟨a', N, c', rfl, he, hb, hr⟩
  exact ⟨a', c', he, hb, hr⟩
end Go.Proofs.Ytdhcmnblfkhndaa
