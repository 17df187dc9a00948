/- Walks of the document's tell, Text. -/
import Derived.Test.YtnkpjmcgecdkfaaMn
import Derived.Test.YtnkpjmcgecdkfaaMx
namespace Go.Own
open Go.RowKit
theorem Apart.symmM {r s : Res} (h : Apart r s) : Apart s r := fun k h1 h2 => h k h2 h1
/-- the first two the other way round -/
theorem Own.swapM {w0 w : World} {L : List Res} {x y : Res} (h : Own w0 w (x :: y :: L)) : Own w0 w (y :: x :: L) := by
  refine ⟨h.below, fun r hr => h.mem r ?_, ?_⟩
  · simp only [List.mem_cons] at hr ⊢
    rcases hr with h | h | h
    · exact .inr (.inl h)
    · exact .inl h
    · exact .inr (.inr h)
  · obtain ⟨h1, h2⟩ := List.pairwise_cons.1 h.apart
    obtain ⟨h3, h4⟩ := List.pairwise_cons.1 h2
    refine List.pairwise_cons.2 ⟨fun s hs => ?_, List.pairwise_cons.2 ⟨fun s hs => h1 s (List.mem_cons_of_mem _ hs), h4⟩⟩
    rcases List.mem_cons.1 hs with rfl | hs
    · exact (h1 y (List.mem_cons_self)).symmM
    · exact h3 s hs
end Go.Own
namespace Go.Mt
theorem again_next2 (d j : Nat) (b : List (BitVec 8)) (M : Nat) (hb : b.length = M) (hd : 1 ≤ d) (hdM : d ≤ M) : ∃ x, (again d j b)[M + j - d]? = some x ∧ again d (j + 1) b = again d j b ++ [x] := by
  obtain ⟨x, h1, h2⟩ := again_next d j b M hb hd hdM
  exact ⟨x, by rw [show M + j - d = M - d + j by omega]; exact h1, h2⟩
end Go.Mt
namespace Go.Proofs.Ytnkpjmcgecdkfaa
open Go.RowKit Go.Own Go.Bv Go.Ord Go.Eq Go.Mt

set_option maxHeartbeats 4000000 in
set_option maxRecDepth 100000 in
theorem rtell_calls {w0 w : World} {L : List Res} {a : Option Addr} {M c : Nat} {B : List (BitVec 8)} (hO : Own w0 w (.sl 5 1 (.slice a M c) M (u8s B) :: L)) (t : Tok) (h : t.ok M) (hM : M + t.size ≤ 1000000) (N : Nat) (hN : M + t.size = N) (C : List (BitVec 8)) (hC : t.tell B = C) :
    Calls Try.prog 57 #[.slice a M c, .agg t.C] w fun e w' => ∃ a' c', e = .returned (.slice a' N c') ∧ Own w0 w' (.sl 5 1 (.slice a' N c') N (u8s C) :: L) := by
  have hBl : B.length = M := by have := (hO.row 0 rfl).1; rw [u8s_length] at this; omega
  subst hC hN
  rcases h with ⟨h1, h2⟩ | ⟨h1, h2, h3, h4, h5, h6⟩
  · obtain ⟨lit, len, dist⟩ := t
    dsimp only at h1 h2
    subst h1 h2
    have hC : u8s (Tok.tell B ⟨lit, 0, 0⟩) = u8s B ++ u8s [lit] := by unfold Tok.tell u8s; rw [← List.map_append]; rfl
    have hs : M + Tok.size ⟨lit, 0, 0⟩ = M + 1 := rfl
    rw [hC, hs]
    rw [hs] at hM
    clear hC hs hBl
    generalize u8s B = X at hO ⊢
    go_enter Try.func57, Try.ntmps57
    go_wp2_with (first
      | ((with_reducible refine gBox ?_); first | (refine bxA hO rfl ?_; clear hO; intro b ww hO) | (refine bx1 hO rfl rfl ?_; clear hO; intro b ww hO))
      | ((with_reducible refine gLoad ?_); first | refine ldX hO 0 rfl rfl (tA rfl) (tS rfl) ?_ | refine ldC hO 0 rfl rfl (tA rfl) rfl ?_ | refine ldX hO 1 rfl rfl (tA rfl) (tS rfl) ?_ | refine ldC hO 1 rfl rfl (tA rfl) rfl ?_)
      | ((with_reducible refine gBuild (T := 34) ?_); refine own_build hO 34 1 _ eu8m (u8s [lit]).toArray (by omega) (by omega) (by kernel_rfl) rfl ?_; clear hO; intro g2 ww hO)
      | ((with_reducible refine gAppend ?_); refine own_append hO 2 _ _ 34 eu8m rfl rfl rfl (hO.rdAt 0 rfl) (u8s_one _) (M + 1) rfl (by simp [maxLen]; omega) (by omega) ?_; clear hO; intro a2 c2 ww hO))
    go_ret
    exact ⟨a2, c2, rfl, hO.tail.tail⟩
  · obtain ⟨lit, len, dist⟩ := t
    dsimp only at h1 h2 h3 h4 h5 h6
    obtain ⟨Ln, rfl⟩ : ∃ Ln : Nat, len = (Ln : Int) := ⟨len.toNat, by omega⟩
    obtain ⟨D, rfl⟩ : ∃ D : Nat, dist = (D : Int) := ⟨dist.toNat, by omega⟩
    have hs : Tok.size ⟨lit, (Ln : Int), (D : Int)⟩ = Ln := by unfold Tok.size; dsimp only; rw [if_neg (by omega)]; omega
    have hC : Tok.tell B ⟨lit, (Ln : Int), (D : Int)⟩ = again D Ln B := by unfold Tok.tell; dsimp only; rw [if_neg (by omega)]; rfl
    rw [hC, hs]
    rw [hs] at hM
    have hDM : D ≤ M := by omega
    have hD1 : 1 ≤ D := by omega
    have e1 : ((Ln : Int) == 0) = false := by simp; omega
    have HAN : Hid (∀ j, ∃ x, (again D j B)[M + j - D]? = some x ∧ again D (j + 1) B = again D j B ++ [x]) := fun j => again_next2 D j B M hBl hD1 hDM
    clear hC hs hBl h1 h2 h3 h4 h5 h6
    go_enter Try.func57, Try.ntmps57
    go_wp2_with (first
      | ((with_reducible refine gBox ?_); first | (refine bxA hO rfl ?_; clear hO; intro b ww hO) | (refine bx1 hO rfl rfl ?_; clear hO; intro b ww hO))
      | ((with_reducible refine gLoad ?_); first | refine ldX hO 0 rfl rfl (tA rfl) (tS rfl) ?_ | refine ldC hO 0 rfl rfl (tA rfl) rfl ?_))
    clear e1
    replace hO : Own w0 _ (.blk b (.cells (Tok.C ⟨lit, (Ln : Int), (D : Int)⟩) 30 (0,0)) :: .sl 5 1 (.slice a M c) M (u8s B) :: L) := hO
    go_loopg [0, 15] Ln (fun m s0 s15 wr => ∃ (j : Nat) (aJ : Option Addr) (cJ : Nat), m = Ln - j ∧ j ≤ Ln ∧ s15 = .int .i64 (j : Int) ∧ s0 = .slice aJ (M + j) cJ ∧ Own w0 wr (.blk b (.cells (Tok.C ⟨lit, (Ln : Int), (D : Int)⟩) 30 (0,0)) :: .sl 5 1 (.slice aJ (M + j) cJ) (M + j) (u8s (again D j B)) :: L))
    case atStart => exact ⟨0, a, c, rfl, by omega, rfl, rfl, hO⟩
    case round =>
      obtain ⟨j, aJ, cJ, rfl, hj, rfl, rfl, hO1⟩ := hrel
      clear hO
      have hO := hO1
      clear hO1
      by_cases c1 : j < Ln
      · have d1 : decide ((j : Int) < (Ln : Int)) = true := by simp; omega
        obtain ⟨gJ, rfl⟩ := hO.slPlace 1 rfl (by omega)
        obtain ⟨x, hx1, hx2⟩ := HAN.out j
        have HX : Hid ((u8s (again D j B))[M + j - D]? = some (.int .u8 (x.toNat : Int))) := by show _ = _; unfold u8s; rw [List.getElem?_map, hx1]; rfl
        have HX2 : Hid (u8s (again D (j + 1) B) = u8s (again D j B) ++ u8s [x]) := by show _ = _; rw [hx2]; unfold u8s; rw [← List.map_append]
        have hF : ∃ F, M + j - D = F := ⟨_, rfl⟩
        obtain ⟨F, hF⟩ := hF
        rw [hF] at HX
        have e2 : wrap64 ((M : Int) + (j : Int) - (D : Int)) = (F : Int) := by unfold wrap64; omega
        have e3 : (M : Int) + (j : Int) - (D : Int) = (F : Int) := by omega
        have e4 : F < M + j := by omega
        clear hx1 hx2 hF
        generalize u8s (again D j B) = cur at *
        go_wp2_with (first
          | ((with_reducible refine gLoad (T := 5) ?_); refine ld_sl hO 1 rfl rfl HX.out (tA rfl) ?_)
          | ((with_reducible refine gBuild (T := 34) ?_); refine own_build hO 34 1 _ eu8m (u8s [x]).toArray (by omega) (by omega) (by kernel_rfl) rfl ?_; clear hO; intro g2 ww hO)
          | ((with_reducible refine gAppend ?_); refine own_append hO 2 _ _ 34 eu8m rfl rfl rfl (hO.rdAt 0 rfl) (u8s_one _) (M + (j + 1)) (by omega) (by simp [maxLen]; omega) (by omega) ?_; clear hO; intro a2 c2 ww hO)
          | ((with_reducible refine gLoad ?_); first | refine ldX hO 0 rfl rfl (tA rfl) (tS rfl) ?_ | refine ldC hO 0 rfl rfl (tA rfl) rfl ?_))
        go_roundg (Ln - (j + 1))
        case measure => omega
        case rel => exact ⟨j + 1, a2, c2, rfl, by omega, by go_num, rfl, by rw [HX2.out]; exact hO.tail⟩
      · obtain rfl : j = Ln := by omega
        go_wp2
        go_ret
        exact ⟨aJ, cJ, rfl, hO.tail⟩

set_option maxHeartbeats 1000000 in
theorem rtext_bad (a : Option Addr) (n c : Nat) (l : List Tok) (most : Int) (w : World) (hR : Rd w 3 a n c (tks l)) (h : (65536 < n ∨ ¬ okFrom 0 l) ∨ most < 0) :
    Calls Try.prog 34 #[.slice a n c, .int .i64 most] w fun e w' => e = .returned (.tuple #[.slice none 0 0, .int .i64 1]) ∧ Below w.heap.size w w' := by
  have hO := Own.start w
  have HR := Lib.hid hR
  by_cases hb : 65536 < n ∨ ¬ okFrom 0 l
  · have HC := Lib.hid (fun w h => rlong_calls a n c l w h 0 1 (fun h1 h2 => by rcases hb with hb | hb; omega; exact absurd h2 hb) (fun _ => ⟨rfl, rfl⟩))
    clear hR hb h
    generalize hW : w = wn at hO HR ⊢
    clear hW w
    go_enter Try.func34, Try.ntmps34
    go_wp2_with (first
      | (go_at_call 56; refine (HC.out _ (hO.rd HR.out)).mono ?_; rintro e ww ⟨rfl, hb⟩; replace hO := hO.call hb; clear hb))
    go_ret2
    exact ⟨rfl, hO.below⟩
  · have hm : most < 0 := by rcases h with h | h; exact absurd h hb; exact h
    have d1 : decide (most < 0) = true := by simpa using hm
    have HC := Lib.hid (fun w h => rlong_calls a n c l w h (told l) 0 (fun _ _ => ⟨rfl, rfl⟩) (fun h1 => absurd h1 hb))
    clear hR hb h hm
    generalize hW : w = wn at hO HR ⊢
    clear hW w
    generalize told l = N at HC
    go_enter Try.func34, Try.ntmps34
    go_wp2_with (first
      | ((with_reducible refine gG ?_); refine wpList_want rfl ?_)
      | (go_at_call 56; refine (HC.out _ (hO.rd HR.out)).mono ?_; rintro e ww ⟨rfl, hb⟩; replace hO := hO.call hb; clear hb))
    go_ret2
    exact ⟨rfl, hO.below⟩

set_option maxHeartbeats 1000000 in
theorem rtext_long (a : Option Addr) (n c : Nat) (l : List Tok) (most : Int) (w : World) (hR : Rd w 3 a n c (tks l)) (hn : n ≤ 65536) (hk : okFrom 0 l) (hm : 0 ≤ most) (h : most < (told l : Int) ∨ 65536 < told l) :
    Calls Try.prog 34 #[.slice a n c, .int .i64 most] w fun e w' => e = .returned (.tuple #[.slice none 0 0, .int .i64 3]) ∧ Below w.heap.size w w' := by
  have hO := Own.start w
  have HR := Lib.hid hR
  have d1 : decide (most < 0) = false := by simpa using hm
  have HC := Lib.hid (fun w h => rlong_calls a n c l w h (told l) 0 (fun _ _ => ⟨rfl, rfl⟩) (fun h1 => by rcases h1 with h1 | h1; omega; exact absurd hk h1))
  clear hR hk hm
  generalize hW : w = wn at hO HR ⊢
  clear hW w
  generalize told l = N at HC h
  by_cases h1 : most < (N : Int)
  · have d2 : decide (most < (N : Int)) = true := by simpa using h1
    clear h h1
    go_enter Try.func34, Try.ntmps34
    go_wp2_with (first
      | ((with_reducible refine gG ?_); refine wpList_want rfl ?_)
      | (go_at_call 56; refine (HC.out _ (hO.rd HR.out)).mono ?_; rintro e ww ⟨rfl, hb⟩; replace hO := hO.call hb; clear hb))
    go_ret2
    exact ⟨rfl, hO.below⟩
  · have d2 : decide (most < (N : Int)) = false := by simpa using h1
    have d3 : decide ((65536 : Int) < (N : Int)) = true := by simp; omega
    clear h h1
    go_enter Try.func34, Try.ntmps34
    go_wp2_with (first
      | ((with_reducible refine gG ?_); refine wpList_want rfl ?_)
      | (go_at_call 56; refine (HC.out _ (hO.rd HR.out)).mono ?_; rintro e ww ⟨rfl, hb⟩; replace hO := hO.call hb; clear hb))
    go_ret2
    exact ⟨rfl, hO.below⟩

set_option maxHeartbeats 4000000 in
set_option maxRecDepth 100000 in
theorem rtext_ok (a : Option Addr) (n c : Nat) (l : List Tok) (most : Int) (N : Nat) (hN : told l = N) (w : World) (hR : Rd w 3 a n c (tks l)) (hn : n ≤ 65536) (hk : okFrom 0 l) (hm : (N : Int) ≤ most) (h6 : N ≤ 65536) :
    Calls Try.prog 34 #[.slice a n c, .int .i64 most] w fun e w' => ∃ a' c', e = .returned (.tuple #[.slice a' N c', .int .i64 0]) ∧ Below w.heap.size w w' ∧ w'.ownsRow w.heap.size 5 1 (.slice a' N c') N (u8s (text l)) := by
  have hO := Own.start w
  have HR := Lib.hid hR
  have HL : Hid (l.length = n) := by have := hR.len; rw [tks_length] at this; show _ = _; omega
  have d1 : decide (most < 0) = false := by simp; omega
  have HC := Lib.hid (fun w h => rlong_calls a n c l w h (N : Int) 0 (fun _ _ => ⟨by rw [hN], rfl⟩) (fun h1 => by rcases h1 with h1 | h1; omega; exact absurd hk h1))
  have d2 : decide (most < (N : Int)) = false := by simp; omega
  have d3 : decide ((65536 : Int) < (N : Int)) = false := by simp; omega
  have HK := Lib.hid hk
  have HN := Lib.hid hN
  clear hR hm hk hN
  generalize hW : w = wn at hO HR ⊢
  clear hW w
  go_enter Try.func34, Try.ntmps34
  go_wp2_with (first
    | ((with_reducible refine gG ?_); refine wpList_want rfl ?_)
    | (go_at_call 56; refine (HC.out _ (hO.rd HR.out)).mono ?_; rintro e ww ⟨rfl, hb⟩; replace hO := hO.call hb; clear hb))
  clear d1 d2 d3 HC
  replace hO : Own wn _ [.sl 5 1 (.slice none 0 0) 0 (u8s [])] := hO.add (Below.refl _ _) (World.ownsRow_nil _ _ _ _)
  go_loopg [8, 31] n (fun m s8 s31 wr => ∃ (k M : Nat) (aO : Option Addr) (cO : Nat), m = n - k ∧ k ≤ n ∧ s31 = .int .i64 (k : Int) ∧ s8 = .slice aO M cO ∧ M = told (l.take k) ∧ Own wn wr [.sl 5 1 (.slice aO M cO) M (u8s (text (l.take k)))])
  case atStart => exact ⟨0, 0, none, 0, rfl, by omega, rfl, rfl, rfl, hO⟩
  case round =>
    obtain ⟨k, M, aO, cO, rfl, hkn, rfl, rfl, hM, hO1⟩ := hrel
    clear hO
    have hO := hO1
    have HM := Lib.hid hM
    clear hO1 hM
    by_cases c1 : k < n
    · have d1 : decide ((k : Int) < (n : Int)) = true := by simp; omega
      have hkl : k < l.length := by rw [HL.out]; exact c1
      have ht := List.getElem?_eq_getElem (l := l) (i := k) hkl
      have hto := told_next hkl
      have htx := text_next hkl
      have hto2 := told_take_le l (k + 1)
      have hokk := (okFrom_next hkl).1 (okFrom_take (k + 1) HK.out)
      rw [← HM.out] at hto hokk
      rw [HN.out] at hto2
      obtain ⟨t, hte⟩ : ∃ t, l[k] = t := ⟨_, rfl⟩
      rw [hte] at ht hto htx hokk
      have HT := Lib.hid ht
      have hok := hokk.2
      obtain ⟨b0, off, rfl⟩ := HR.out.place (by omega)
      have HTE := fun (wx : World) (Lx : List Res) (hOx : Own wn wx (.sl 5 1 (.slice aO M cO) M (u8s (text (l.take k))) :: Lx)) => rtell_calls hOx t hok (by omega) (told (l.take (k + 1))) (by rw [hto]) (text (l.take (k + 1))) htx.symm
      have HTELL := Lib.hid HTE
      clear ht hte hkl hokk hto htx hto2 hok HTE
      go_wp2_with (first
        | ((with_reducible refine gAlloc (T := 30) ?_); refine own_alloc hO _ _ itz ?_; clear hO; intro bx ww hO)
        | ((with_reducible refine gLoad (T := 30) ?_); first | refine ldX hO 0 rfl rfl (tA rfl) (tS rfl) ?_ | refine ld_tok (hO.rd HR.out) HT.out rfl (by omega) (tA rfl) (tS rfl) ?_)
        | ((with_reducible refine gStore ?_); first | (refine stX hO 0 rfl rfl rfl rfl rfl (tS rfl) ?_; clear hO; intro ww hO) | (refine stC hO 0 rfl rfl rfl (ltb rfl) rfl (tS rfl) ?_; clear hO; intro ww hO))
        | (go_at_call 57; refine (HTELL.out _ _ hO.swapM).mono ?_; clear hO; rintro e ww ⟨a2, c2, rfl, hO⟩))
      go_roundg (n - (k + 1))
      case measure => omega
      case rel => exact ⟨k + 1, _, a2, c2, rfl, by omega, by go_num, rfl, rfl, hO.mem1 (by simp)⟩
    · obtain rfl : k = n := by omega
      have HA : Hid (l.take k = l) := List.take_of_length_le (by rw [HL.out]; exact Nat.le_refl _)
      rw [HA.out] at HM
      rw [HN.out] at HM
      obtain rfl := HM.out
      rw [HA.out] at hO
      go_wp2
      go_ret2
      exact ⟨aO, cO, rfl, hO.below, hO.row 0 rfl⟩
end Go.Proofs.Ytnkpjmcgecdkfaa
