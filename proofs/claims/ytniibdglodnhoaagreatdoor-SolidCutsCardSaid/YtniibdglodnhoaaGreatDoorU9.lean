/- Of several texts of this claim, one behind the other: Mo Md Mp Mq Y OG Zr Ph Vf. -/
import Derived.Test.YtniibdglodnhoaaGreatDoorU8
import Derived.Deep.CutRange
import Derived.Laws.StructEq

/- Walks of the document's tell, Text. -/
namespace Go.Own
open Go.RowKit
theorem Apart.symmM {r s : Res} (h : Apart r s) : Apart s r := fun k h1 h2 => h k h2 h1
/-- the first two the other way round -/
theorem Own.swapM {w0 w : World} {L : List Res} {x y : Res} (h : Own w0 w (x :: y :: L)) : Own w0 w (y :: x :: L) := by
  refine ⟨h.below, fun r hr => h.mem r ?_, ?_⟩
  · simp only [List.mem_cons] at hr ⊢
    rcases hr with h | h | h
    · exact .inr (.inl h)
    · exact .inl h
    · exact .inr (.inr h)
  · obtain ⟨h1, h2⟩ := List.pairwise_cons.1 h.apart
    obtain ⟨h3, h4⟩ := List.pairwise_cons.1 h2
    refine List.pairwise_cons.2 ⟨fun s hs => ?_, List.pairwise_cons.2 ⟨fun s hs => h1 s (List.mem_cons_of_mem _ hs), h4⟩⟩
    rcases List.mem_cons.1 hs with rfl | hs
    · exact (h1 y (List.mem_cons_self)).symmM
    · exact h3 s hs
end Go.Own
namespace Go.Mt
theorem again_next2 (d j : Nat) (b : List (BitVec 8)) (M : Nat) (hb : b.length = M) (hd : 1 ≤ d) (hdM : d ≤ M) : ∃ x, (again d j b)[M + j - d]? = some x ∧ again d (j + 1) b = again d j b ++ [x] := by
  obtain ⟨x, h1, h2⟩ := again_next d j b M hb hd hdM
  exact ⟨x, by rw [show M + j - d = M - d + j by omega]; exact h1, h2⟩
end Go.Mt
namespace Go.Proofs.YtniibdglodnhoaaGreatDoor
open Go.RowKit Go.Own Go.Bv Go.Ord Go.Eq Go.Mt

set_option maxHeartbeats 4000000 in
set_option maxRecDepth 100000 in
theorem rtell_calls {w0 w : World} {L : List Res} {a : Option Addr} {M c : Nat} {B : List (BitVec 8)} (hO : Own w0 w (.sl 5 1 (.slice a M c) M (u8s B) :: L)) (t : Tok) (h : t.ok M) (hM : M + t.size ≤ 1000000) (N : Nat) (hN : M + t.size = N) (C : List (BitVec 8)) (hC : t.tell B = C) :
    Calls Tryz.prog 80 #[.slice a M c, .agg t.C] w fun e w' => ∃ a' c', e = .returned (.slice a' N c') ∧ Own w0 w' (.sl 5 1 (.slice a' N c') N (u8s C) :: L) := by
  have hBl : B.length = M := by have := (hO.row 0 rfl).1; rw [u8s_length] at this; omega
  subst hC hN
  rcases h with ⟨h1, h2⟩ | ⟨h1, h2, h3, h4, h5, h6⟩
  · obtain ⟨lit, len, dist⟩ := t
    dsimp only at h1 h2
    subst h1 h2
    have hC : u8s (Tok.tell B ⟨lit, 0, 0⟩) = u8s B ++ u8s [lit] := by unfold Tok.tell u8s; rw [← List.map_append]; rfl
    have hs : M + Tok.size ⟨lit, 0, 0⟩ = M + 1 := rfl
    rw [hC, hs]
    rw [hs] at hM
    clear hC hs hBl
    generalize u8s B = X at hO ⊢
    go_enter Tryz.func80, Tryz.ntmps80
    go_wp2_with (first
      | ((with_reducible refine gBox ?_); first | (refine bxA hO rfl ?_; clear hO; intro b ww hO) | (refine bx1 hO rfl rfl ?_; clear hO; intro b ww hO))
      | ((with_reducible refine gLoad ?_); first | refine ldX hO 0 rfl rfl (tA rfl) (tS rfl) ?_ | refine ldC hO 0 rfl rfl (tA rfl) rfl ?_ | refine ldX hO 1 rfl rfl (tA rfl) (tS rfl) ?_ | refine ldC hO 1 rfl rfl (tA rfl) rfl ?_)
      | ((with_reducible refine gBuild (T := 29) ?_); refine own_build hO 29 1 _ eu8m (u8s [lit]).toArray (by omega) (by omega) (by kernel_rfl) rfl ?_; clear hO; intro g2 ww hO)
      | ((with_reducible refine gAppend ?_); refine own_append hO 2 _ _ 29 eu8m rfl rfl rfl (hO.rdAt 0 rfl) (u8s_one _) (M + 1) rfl (by simp [maxLen]; omega) (by omega) ?_; clear hO; intro a2 c2 ww hO))
    go_ret
    exact ⟨a2, c2, rfl, hO.tail.tail⟩
  · obtain ⟨lit, len, dist⟩ := t
    dsimp only at h1 h2 h3 h4 h5 h6
    obtain ⟨Ln, rfl⟩ : ∃ Ln : Nat, len = (Ln : Int) := ⟨len.toNat, by omega⟩
    obtain ⟨D, rfl⟩ : ∃ D : Nat, dist = (D : Int) := ⟨dist.toNat, by omega⟩
    have hs : Tok.size ⟨lit, (Ln : Int), (D : Int)⟩ = Ln := by unfold Tok.size; dsimp only; rw [if_neg (by omega)]; omega
    have hC : Tok.tell B ⟨lit, (Ln : Int), (D : Int)⟩ = again D Ln B := by unfold Tok.tell; dsimp only; rw [if_neg (by omega)]; rfl
    rw [hC, hs]
    rw [hs] at hM
    have hDM : D ≤ M := by omega
    have hD1 : 1 ≤ D := by omega
    have e1 : ((Ln : Int) == 0) = false := by simp; omega
    have HAN : Hid (∀ j, ∃ x, (again D j B)[M + j - D]? = some x ∧ again D (j + 1) B = again D j B ++ [x]) := fun j => again_next2 D j B M hBl hD1 hDM
    clear hC hs hBl h1 h2 h3 h4 h5 h6
    go_enter Tryz.func80, Tryz.ntmps80
    go_wp2_with (first
      | ((with_reducible refine gBox ?_); first | (refine bxA hO rfl ?_; clear hO; intro b ww hO) | (refine bx1 hO rfl rfl ?_; clear hO; intro b ww hO))
      | ((with_reducible refine gLoad ?_); first | refine ldX hO 0 rfl rfl (tA rfl) (tS rfl) ?_ | refine ldC hO 0 rfl rfl (tA rfl) rfl ?_))
    clear e1
    replace hO : Own w0 _ (.blk b (.cells (Tok.C ⟨lit, (Ln : Int), (D : Int)⟩) 78 (0,0)) :: .sl 5 1 (.slice a M c) M (u8s B) :: L) := hO
    go_loopg [0, 15] Ln (fun m s0 s15 wr => ∃ (j : Nat) (aJ : Option Addr) (cJ : Nat), m = Ln - j ∧ j ≤ Ln ∧ s15 = .int .i64 (j : Int) ∧ s0 = .slice aJ (M + j) cJ ∧ Own w0 wr (.blk b (.cells (Tok.C ⟨lit, (Ln : Int), (D : Int)⟩) 78 (0,0)) :: .sl 5 1 (.slice aJ (M + j) cJ) (M + j) (u8s (again D j B)) :: L))
    case atStart => exact ⟨0, a, c, rfl, by omega, rfl, rfl, hO⟩
    case round =>
      obtain ⟨j, aJ, cJ, rfl, hj, rfl, rfl, hO1⟩ := hrel
      clear hO
      have hO := hO1
      clear hO1
      by_cases c1 : j < Ln
      · have d1 : decide ((j : Int) < (Ln : Int)) = true := by simp; omega
        obtain ⟨gJ, rfl⟩ := hO.slPlace 1 rfl (by omega)
        obtain ⟨x, hx1, hx2⟩ := HAN.out j
        have HX : Hid ((u8s (again D j B))[M + j - D]? = some (.int .u8 (x.toNat : Int))) := by show _ = _; unfold u8s; rw [List.getElem?_map, hx1]; rfl
        have HX2 : Hid (u8s (again D (j + 1) B) = u8s (again D j B) ++ u8s [x]) := by show _ = _; rw [hx2]; unfold u8s; rw [← List.map_append]
        have hF : ∃ F, M + j - D = F := ⟨_, rfl⟩
        obtain ⟨F, hF⟩ := hF
        rw [hF] at HX
        have e2 : wrap64 ((M : Int) + (j : Int) - (D : Int)) = (F : Int) := by unfold wrap64; omega
        have e3 : (M : Int) + (j : Int) - (D : Int) = (F : Int) := by omega
        have e4 : F < M + j := by omega
        clear hx1 hx2 hF
        generalize u8s (again D j B) = cur at *
        go_wp2_with (first
          | ((with_reducible refine gLoad (T := 5) ?_); refine ld_sl hO 1 rfl rfl HX.out (tA rfl) ?_)
          | ((with_reducible refine gBuild (T := 29) ?_); refine own_build hO 29 1 _ eu8m (u8s [x]).toArray (by omega) (by omega) (by kernel_rfl) rfl ?_; clear hO; intro g2 ww hO)
          | ((with_reducible refine gAppend ?_); refine own_append hO 2 _ _ 29 eu8m rfl rfl rfl (hO.rdAt 0 rfl) (u8s_one _) (M + (j + 1)) (by omega) (by simp [maxLen]; omega) (by omega) ?_; clear hO; intro a2 c2 ww hO)
          | ((with_reducible refine gLoad ?_); first | refine ldX hO 0 rfl rfl (tA rfl) (tS rfl) ?_ | refine ldC hO 0 rfl rfl (tA rfl) rfl ?_))
        go_roundg (Ln - (j + 1))
        case measure => omega
        case rel => exact ⟨j + 1, a2, c2, rfl, by omega, by go_num, rfl, by rw [HX2.out]; exact hO.tail⟩
      · obtain rfl : j = Ln := by omega
        go_wp2
        go_ret
        exact ⟨aJ, cJ, rfl, hO.tail⟩

set_option maxHeartbeats 1000000 in
theorem rtext_bad (a : Option Addr) (n c : Nat) (l : List Tok) (most : Int) (w : World) (hR : Rd w 3 a n c (tks l)) (h : (65536 < n ∨ ¬ okFrom 0 l) ∨ most < 0) :
    Calls Tryz.prog 51 #[.slice a n c, .int .i64 most] w fun e w' => e = .returned (.tuple #[.slice none 0 0, .int .i64 1]) ∧ Below w.heap.size w w' := by
  have hO := Own.start w
  have HR := Lib.hid hR
  by_cases hb : 65536 < n ∨ ¬ okFrom 0 l
  · have HC := Lib.hid (fun w h => rlong_calls a n c l w h 0 1 (fun h1 h2 => by rcases hb with hb | hb; omega; exact absurd h2 hb) (fun _ => ⟨rfl, rfl⟩))
    clear hR hb h
    generalize hW : w = wn at hO HR ⊢
    clear hW w
    go_enter Tryz.func51, Tryz.ntmps51
    go_wp2_with (first
      | (go_at_call 79; refine (HC.out _ (hO.rd HR.out)).mono ?_; rintro e ww ⟨rfl, hb⟩; replace hO := hO.call hb; clear hb))
    go_ret2
    exact ⟨rfl, hO.below⟩
  · have hm : most < 0 := by rcases h with h | h; exact absurd h hb; exact h
    have d1 : decide (most < 0) = true := by simpa using hm
    have HC := Lib.hid (fun w h => rlong_calls a n c l w h (told l) 0 (fun _ _ => ⟨rfl, rfl⟩) (fun h1 => absurd h1 hb))
    clear hR hb h hm
    generalize hW : w = wn at hO HR ⊢
    clear hW w
    generalize told l = N at HC
    go_enter Tryz.func51, Tryz.ntmps51
    go_wp2_with (first
      | ((with_reducible refine gG ?_); refine wpList_want rfl ?_)
      | (go_at_call 79; refine (HC.out _ (hO.rd HR.out)).mono ?_; rintro e ww ⟨rfl, hb⟩; replace hO := hO.call hb; clear hb))
    go_ret2
    exact ⟨rfl, hO.below⟩

set_option maxHeartbeats 1000000 in
theorem rtext_long (a : Option Addr) (n c : Nat) (l : List Tok) (most : Int) (w : World) (hR : Rd w 3 a n c (tks l)) (hn : n ≤ 65536) (hk : okFrom 0 l) (hm : 0 ≤ most) (h : most < (told l : Int) ∨ 65536 < told l) :
    Calls Tryz.prog 51 #[.slice a n c, .int .i64 most] w fun e w' => e = .returned (.tuple #[.slice none 0 0, .int .i64 3]) ∧ Below w.heap.size w w' := by
  have hO := Own.start w
  have HR := Lib.hid hR
  have d1 : decide (most < 0) = false := by simpa using hm
  have HC := Lib.hid (fun w h => rlong_calls a n c l w h (told l) 0 (fun _ _ => ⟨rfl, rfl⟩) (fun h1 => by rcases h1 with h1 | h1; omega; exact absurd hk h1))
  clear hR hk hm
  generalize hW : w = wn at hO HR ⊢
  clear hW w
  generalize told l = N at HC h
  by_cases h1 : most < (N : Int)
  · have d2 : decide (most < (N : Int)) = true := by simpa using h1
    clear h h1
    go_enter Tryz.func51, Tryz.ntmps51
    go_wp2_with (first
      | ((with_reducible refine gG ?_); refine wpList_want rfl ?_)
      | (go_at_call 79; refine (HC.out _ (hO.rd HR.out)).mono ?_; rintro e ww ⟨rfl, hb⟩; replace hO := hO.call hb; clear hb))
    go_ret2
    exact ⟨rfl, hO.below⟩
  · have d2 : decide (most < (N : Int)) = false := by simpa using h1
    have d3 : decide ((65536 : Int) < (N : Int)) = true := by simp; omega
    clear h h1
    go_enter Tryz.func51, Tryz.ntmps51
    go_wp2_with (first
      | ((with_reducible refine gG ?_); refine wpList_want rfl ?_)
      | (go_at_call 79; refine (HC.out _ (hO.rd HR.out)).mono ?_; rintro e ww ⟨rfl, hb⟩; replace hO := hO.call hb; clear hb))
    go_ret2
    exact ⟨rfl, hO.below⟩

set_option maxHeartbeats 4000000 in
set_option maxRecDepth 100000 in
theorem rtext_ok (a : Option Addr) (n c : Nat) (l : List Tok) (most : Int) (N : Nat) (hN : told l = N) (w : World) (hR : Rd w 3 a n c (tks l)) (hn : n ≤ 65536) (hk : okFrom 0 l) (hm : (N : Int) ≤ most) (h6 : N ≤ 65536) :
    Calls Tryz.prog 51 #[.slice a n c, .int .i64 most] w fun e w' => ∃ a' c', e = .returned (.tuple #[.slice a' N c', .int .i64 0]) ∧ Below w.heap.size w w' ∧ w'.ownsRow w.heap.size 5 1 (.slice a' N c') N (u8s (text l)) := by
  have hO := Own.start w
  have HR := Lib.hid hR
  have HL : Hid (l.length = n) := by have := hR.len; rw [tks_length] at this; show _ = _; omega
  have d1 : decide (most < 0) = false := by simp; omega
  have HC := Lib.hid (fun w h => rlong_calls a n c l w h (N : Int) 0 (fun _ _ => ⟨by rw [hN], rfl⟩) (fun h1 => by rcases h1 with h1 | h1; omega; exact absurd hk h1))
  have d2 : decide (most < (N : Int)) = false := by simp; omega
  have d3 : decide ((65536 : Int) < (N : Int)) = false := by simp; omega
  have HK := Lib.hid hk
  have HN := Lib.hid hN
  clear hR hm hk hN
  generalize hW : w = wn at hO HR ⊢
  clear hW w
  go_enter Tryz.func51, Tryz.ntmps51
  go_wp2_with (first
    | ((with_reducible refine gG ?_); refine wpList_want rfl ?_)
    | (go_at_call 79; refine (HC.out _ (hO.rd HR.out)).mono ?_; rintro e ww ⟨rfl, hb⟩; replace hO := hO.call hb; clear hb))
  clear d1 d2 d3 HC
  replace hO : Own wn _ [.sl 5 1 (.slice none 0 0) 0 (u8s [])] := hO.add (Below.refl _ _) (World.ownsRow_nil _ _ _ _)
  go_loopg [8, 31] n (fun m s8 s31 wr => ∃ (k M : Nat) (aO : Option Addr) (cO : Nat), m = n - k ∧ k ≤ n ∧ s31 = .int .i64 (k : Int) ∧ s8 = .slice aO M cO ∧ M = told (l.take k) ∧ Own wn wr [.sl 5 1 (.slice aO M cO) M (u8s (text (l.take k)))])
  case atStart => exact ⟨0, 0, none, 0, rfl, by omega, rfl, rfl, rfl, hO⟩
  case round =>
    obtain ⟨k, M, aO, cO, rfl, hkn, rfl, rfl, hM, hO1⟩ := hrel
    clear hO
    have hO := hO1
    have HM := Lib.hid hM
    clear hO1 hM
    by_cases c1 : k < n
    · have d1 : decide ((k : Int) < (n : Int)) = true := by simp; omega
      have hkl : k < l.length := by rw [HL.out]; exact c1
      have ht := List.getElem?_eq_getElem (l := l) (i := k) hkl
      have hto := told_next hkl
      have htx := text_next hkl
      have hto2 := told_take_le l (k + 1)
      have hokk := (okFrom_next hkl).1 (okFrom_take (k + 1) HK.out)
      rw [← HM.out] at hto hokk
      rw [HN.out] at hto2
      obtain ⟨t, hte⟩ : ∃ t, l[k] = t := ⟨_, rfl⟩
      rw [hte] at ht hto htx hokk
      have HT := Lib.hid ht
      have hok := hokk.2
      obtain ⟨b0, off, rfl⟩ := HR.out.place (by omega)
      have HTE := fun (wx : World) (Lx : List Res) (hOx : Own wn wx (.sl 5 1 (.slice aO M cO) M (u8s (text (l.take k))) :: Lx)) => rtell_calls hOx t hok (by omega) (told (l.take (k + 1))) (by rw [hto]) (text (l.take (k + 1))) htx.symm
      have HTELL := Lib.hid HTE
      clear ht hte hkl hokk hto htx hto2 hok HTE
      go_wp2_with (first
        | ((with_reducible refine gAlloc (T := 78) ?_); refine own_alloc hO _ _ itz ?_; clear hO; intro bx ww hO)
        | ((with_reducible refine gLoad (T := 78) ?_); first | refine ldX hO 0 rfl rfl (tA rfl) (tS rfl) ?_ | refine ld_tok (hO.rd HR.out) HT.out rfl (by omega) (tA rfl) (tS rfl) ?_)
        | ((with_reducible refine gStore ?_); first | (refine stX hO 0 rfl rfl rfl rfl rfl (tS rfl) ?_; clear hO; intro ww hO) | (refine stC hO 0 rfl rfl rfl (ltb rfl) rfl (tS rfl) ?_; clear hO; intro ww hO))
        | (go_at_call 80; refine (HTELL.out _ _ hO.swapM).mono ?_; clear hO; rintro e ww ⟨a2, c2, rfl, hO⟩))
      go_roundg (n - (k + 1))
      case measure => omega
      case rel => exact ⟨k + 1, _, a2, c2, rfl, by omega, by go_num, rfl, rfl, hO.mem1 (by simp)⟩
    · obtain rfl : k = n := by omega
      have HA : Hid (l.take k = l) := List.take_of_length_le (by rw [HL.out]; exact Nat.le_refl _)
      rw [HA.out] at HM
      rw [HN.out] at HM
      obtain rfl := HM.out
      rw [HA.out] at hO
      go_wp2
      go_ret2
      exact ⟨aO, cO, rfl, hO.below, hO.row 0 rfl⟩
end Go.Proofs.YtniibdglodnhoaaGreatDoor

/- The walk of match.Find. -/
namespace Go.Mt
def findT (n : Nat) (bs : List (BitVec 8)) (x : Int) : Tok := if 65536 < n then zT else if x < 0 ∨ (n : Int) ≤ x then zT else if 3 ≤ (found bs x.toNat).1 then ⟨0, (found bs x.toNat).1, (found bs x.toNat).2⟩ else zT
def findE (n : Nat) (bs : List (BitVec 8)) (x : Int) : Int := if 65536 < n then 3 else if x < 0 ∨ (n : Int) ≤ x then 1 else if 3 ≤ (found bs x.toNat).1 then 0 else 4
end Go.Mt
namespace Go.Proofs.YtniibdglodnhoaaGreatDoor
open Go.RowKit Go.Own Go.Bv Go.Ord Go.Eq Go.Mt

end Go.Proofs.YtniibdglodnhoaaGreatDoor

/- Walks of the document's Find, Tokens. -/
namespace Go.Mt
theorem agree_tell {b : List (BitVec 8)} {d p n : Nat} (hd : 1 ≤ d) (hdp : d ≤ p) (hn : 3 ≤ n) (hl : p + n ≤ b.length) : (Tok.tell (b.take p) ⟨0, (n : Int), (d : Int)⟩ = b.take (p + n)) ↔ agree b d p n := by
  have hp : (b.take p).length = p := by rw [List.length_take]; omega
  have ht : Tok.tell (b.take p) ⟨0, (n : Int), (d : Int)⟩ = again d n (b.take p) := by unfold Tok.tell; dsimp only; rw [if_neg (by omega)]; rfl
  rw [ht]
  constructor
  · intro h i hi
    refine ⟨by omega, ?_⟩
    have hg := again_get d (b.take p) hd n (p + i) (by omega) (by omega)
    rw [h] at hg
    have e : ∀ j, j < p + n → (b.take (p + n)).getD j 0 = b.getD j 0 := fun j hj => by
      rw [List.getD_eq_getElem?_getD, List.getElem?_take_of_lt hj, ← List.getD_eq_getElem?_getD]
    rw [e _ (by omega), e _ (by omega)] at hg
    exact hg
  · intro h
    exact again_of d (b.take p) b p hp hd hdp rfl n hl (fun i h1 h2 => by
      have := (h (i - p) (by omega)).2
      rwa [show p + (i - p) = i by omega] at this)
/-- what the document's search has not found yet: nothing longer, and nothing nearer of that length -/
def notYet (b : List (BitVec 8)) (p n d : Nat) : Prop := (∀ m e, n < m → m ≤ 18 → 1 ≤ e → e ≤ 256 → e ≤ p → ¬ agree b e p m) ∧ (∀ e, 1 ≤ e → e < d → e ≤ 256 → e ≤ p → ¬ agree b e p n)
theorem notYet_start (b : List (BitVec 8)) (p : Nat) : notYet b p 18 1 := ⟨fun m e h1 h2 => by omega, fun e h1 h2 => by omega⟩
theorem notYet_d {b : List (BitVec 8)} {p n d : Nat} (h : notYet b p n d) (hd : 1 ≤ d) (ha : ¬ agree b d p n) : notYet b p n (d + 1) :=
  ⟨h.1, fun e h1 h2 h3 h4 => by
    rcases Nat.lt_or_ge e d with h5 | h5
    · exact h.2 e h1 h5 h3 h4
    · obtain rfl : e = d := by omega
      exact ha⟩
theorem notYet_n {b : List (BitVec 8)} {p n d : Nat} (h : notYet b p (n + 1) d) (hd : 256 < d ∨ p < d ∨ b.length < p + (n + 1)) : notYet b p n 1 :=
  ⟨fun m e h1 h2 h3 h4 h5 => by
    rcases Nat.lt_or_ge (n + 1) m with h6 | h6
    · exact h.1 m e h6 h2 h3 h4 h5
    · obtain rfl : m = n + 1 := by omega
      rcases Nat.lt_or_ge e d with h7 | h7
      · exact h.2 e h3 h7 h4 h5
      · rcases hd with hd | hd | hd
        · omega
        · omega
        · intro ha
          have := (ha n (by omega)).1
          omega, fun e h1 h2 => by omega⟩
theorem notYet_hit {b : List (BitVec 8)} {p n d : Nat} (h : notYet b p n d) (hn : 3 ≤ n) (hn8 : n ≤ 18) (hd : 1 ≤ d) (hd2 : d ≤ 256) (hdp : d ≤ p) (ha : agree b d p n) : found b p = (n, d) := by
  obtain ⟨h1, h2, h3, h4, h5⟩ := best_spec b p (min 256 p)
  have hb : found b p = best b p (min 256 p) := rfl
  rw [hb]
  have hc := com_max ha 18 hn8
  have hd4 := h4 d hd (by omega)
  have hpos : 1 ≤ (best b p (min 256 p)).2 ∧ 1 ≤ (best b p (min 256 p)).1 ∧ (best b p (min 256 p)).1 = com b (best b p (min 256 p)).2 p 18 := by
    rcases h3 with h3 | h3
    · omega
    · exact h3
  have hag := com_agree b (best b p (min 256 p)).2 p 18
  rw [← hpos.2.2] at hag
  have hle : (best b p (min 256 p)).1 ≤ n := by
    rcases Nat.lt_or_ge n (best b p (min 256 p)).1 with h6 | h6
    · exact absurd hag (h.1 _ _ h6 h1 hpos.1 (by omega) (by omega))
    · exact h6
  have heq : (best b p (min 256 p)).1 = n := by omega
  rw [heq] at hag
  have hd5 : d ≤ (best b p (min 256 p)).2 := by
    rcases Nat.lt_or_ge (best b p (min 256 p)).2 d with h6 | h6
    · exact absurd hag (h.2 _ hpos.1 h6 (by omega) (by omega))
    · exact h6
  have hd6 : (best b p (min 256 p)).2 ≤ d := by
    rcases Nat.lt_or_ge d (best b p (min 256 p)).2 with h6 | h6
    · have := h5 d hd h6; omega
    · exact h6
  exact Prod.ext heq (by show (best b p (min 256 p)).2 = d; omega)
theorem notYet_end {b : List (BitVec 8)} {p : Nat} (h : notYet b p 2 1) : ¬ 3 ≤ (found b p).1 := by
  intro h3
  obtain ⟨h1, h2, h4, _, _⟩ := best_spec b p (min 256 p)
  have hb : found b p = best b p (min 256 p) := rfl
  have ha := found_agree b p
  rw [hb] at h3 ha
  exact h.1 _ _ (by omega) h1 (by rcases h4 with h4 | h4 <;> omega) (by omega) (by omega) ha
end Go.Mt
namespace Go.Proofs.YtniibdglodnhoaaGreatDoor
open Go.RowKit Go.Own Go.Bv Go.Ord Go.Eq Go.Mt

theorem gIC {ops : Array Oper} {S : World → Prop} {st : Op → Bool} {Q : Exit → Act → World → Prop} {rest : List Oper} {a : Act} {w : World} {d : Option Tmp} {s t : TypeId} {x : Operand} {ty : TypeId} {pos : String} {aft : Array Edge}
    (h : wpI Tryz.prog ops S st Q ({ dst := d, op := .convert s t x, type := ty, pos := pos, after := aft, guard := none } :: rest) a w) : wpI Tryz.prog ops S st Q ({ dst := d, op := .convert s t x, type := ty, pos := pos, after := aft, guard := none } :: rest) a w := h
theorem m_fi : flatInt Tryz.prog 29 = false := by kernel_rfl
theorem u8s_take' (b : List (BitVec 8)) (n : Nat) : (u8s b).take n = u8s (b.take n) := by unfold u8s; rw [List.map_take]

set_option maxHeartbeats 4000000 in
set_option maxRecDepth 100000 in
theorem rfind_in (a : Option Addr) (n cap : Nat) (bs : List (BitVec 8)) (p : Nat) (w : World) (hR : Rd w 1 a n cap (u8s bs)) (hn : n ≤ 65536) (hp : p < n) (T : Tok) (E : Int) (hT : findT n bs p = T) (hE : findE n bs p = E) :
    Calls Tryz.prog 93 #[.slice a n cap, .int .i64 (p : Int)] w fun e w' => e = .returned (.tuple #[.agg T.C, .int .i64 E]) ∧ Below w.heap.size w w' := by
  have hO := Own.start w
  have hlen : bs.length = n := by have := hR.len; rw [u8s_length] at this; omega
  have d1 : decide ((65536 : Int) < (n : Int)) = false := by simp; omega
  have d2 : decide ((p : Int) < 0) = false := by simp
  have d3 : decide ((n : Int) ≤ (p : Int)) = false := by simp; omega
  have d3' : decide (n ≤ p) = false := by simp; omega
  have HL := Lib.hid hlen
  have HR := Lib.hid hR
  have hcap := hR.le
  have htp := hR.take p (by omega)
  rw [Nat.mul_one, u8s_take'] at htp
  have HRP := Lib.hid htp
  have HT := Lib.hid hT
  have HE := Lib.hid hE
  obtain ⟨b0, off, rfl⟩ := hR.place (by omega)
  clear hR htp hT hE hlen
  generalize hW : w = wn at hO HR HRP ⊢
  clear hW w
  go_enter Tryz.func93, Tryz.ntmps93
  go_wp2_with (first
    | ((with_reducible refine gG ?_); refine wpList_want rfl ?_)
    | ((with_reducible refine gAlloc (T := 78) ?_); refine own_alloc hO _ _ itz ?_; clear hO; intro bx ww hO))
  go_loopg [6] 18 (fun m s6 wr => ∃ k : Nat, m = k ∧ 2 ≤ k ∧ k ≤ 18 ∧ s6 = .int .i64 (k : Int) ∧ notYet bs p k 1 ∧ Own wn wr [.blk bx (.cells zT.C 78 (0,0))])
  case atStart => exact ⟨18, rfl, by omega, by omega, rfl, notYet_start _ _, hO⟩
  case round =>
    obtain ⟨k, hgk, hk2, hk8, rfl, hny, hO1⟩ := hrel
    clear hO
    have hO := hO1
    have HNY := Lib.hid hny
    have HGK := Lib.hid hgk
    clear hO1 hny hgk
    by_cases c1 : 3 ≤ k
    · have e1 : decide ((3 : Int) ≤ (k : Int)) = true := by simp; omega
      have HK9 : Hid (((k - 1 : Nat) : Int) = (k : Int) - 1) := by show _ = _; omega
      go_wp2
      go_loopg [7] 256 (fun m s7 wq => ∃ d : Nat, m = 257 - d ∧ 1 ≤ d ∧ d ≤ 257 ∧ s7 = .int .i64 (d : Int) ∧ notYet bs p (k) d ∧ Own wn wq [.blk bx (.cells zT.C 78 (0,0))])
      case atStart => exact ⟨1, rfl, by omega, by omega, rfl, HNY.out, hO⟩
      case round =>
        obtain ⟨d, rfl, hd1, hd2, rfl, hny2, hO1⟩ := hrel
        clear hO
        have hO := hO1
        have HND := Lib.hid hny2
        clear hO1 hny2
        by_cases c2 : d ≤ 256 ∧ d ≤ p ∧ k ≤ n - p
        · obtain ⟨c21, c22, c23⟩ := c2
          have f1 : decide ((d : Int) ≤ 256) = true := by simp; omega
          have f2 : decide ((d : Int) ≤ (p : Int)) = true := by simp; omega
          have f2' : decide (d ≤ p) = true := by simp; omega
          have f3 : decide ((k : Int) ≤ (n : Int) - (p : Int)) = true := by simp; omega
          have hag := agree_tell (b := bs) (d := d) (p := p) (n := k) hd1 c22 c1 (by rw [HL.out]; omega)
          have htok : (Tok.ok ⟨0, (k : Int), (d : Int)⟩ p) := .inr ⟨by dsimp only; omega, by dsimp only; omega, by dsimp only; omega, by dsimp only; omega, by dsimp only; omega, rfl⟩
          have hsz : Tok.size ⟨0, (k : Int), (d : Int)⟩ = k := by unfold Tok.size; dsimp only; rw [if_neg (by omega)]; omega
          obtain ⟨C, hC⟩ : ∃ C, Tok.tell (bs.take p) ⟨0, (k : Int), (d : Int)⟩ = C := ⟨_, rfl⟩
          have hte := fun (wx : World) (ax : Option Addr) (cx : Nat) (Lx : List Res) (hOx : Own wn wx (.sl 5 1 (.slice ax p cx) p (u8s (bs.take p)) :: Lx)) => rtell_calls hOx ⟨0, (k : Int), (d : Int)⟩ htok (by rw [hsz]; omega) (p + (k)) (by rw [hsz]) C hC
          rw [hC] at hag
          obtain ⟨D, hD⟩ : ∃ D, bs.take (p + (k)) = D := ⟨_, rfl⟩
          rw [hD] at hag
          have htd := HR.out.take (p + (k)) (by omega)
          rw [Nat.mul_one, u8s_take', hD] at htd
          have HTD := Lib.hid htd
          have HTE := Lib.hid hte
          have HAG := Lib.hid hag
          have e2 : wrap64 ((p : Int) + ((k : Int))) = (p : Int) + ((k : Int)) := by unfold wrap64; omega
          have g1 : p + (k) ≤ cap := by omega
          clear htok hsz hC hte hag hD htd
          go_wp2_with (first
            | ((with_reducible refine gG ?_); refine wpList_want rfl ?_)
            | ((with_reducible refine gBld (T := 78) ?_); refine own_bld (Tok.C ⟨0, (k : Int), (d : Int)⟩) (by kernel_rfl) ?_)
            | ((with_reducible refine gAlloc (T := 78) ?_); refine own_alloc hO _ _ itz ?_; clear hO; intro bt ww hO)
            | ((with_reducible refine gStore ?_); first | (refine stX hO 0 rfl rfl rfl rfl rfl (tS rfl) ?_; clear hO; intro ww hO) | (refine stC hO 0 rfl rfl rfl (ltb rfl) rfl (tS rfl) ?_; clear hO; intro ww hO)))
          replace hO : Own wn _ [.blk bt (.cells (Tok.C ⟨0, (k : Int), (d : Int)⟩) 78 (0,0)), .blk bx (.cells zT.C 78 (0,0))] := hO
          refine wp_region_textS (fun w' => Own wn w' [.blk bt (.cells (Tok.C ⟨0, (k : Int), (d : Int)⟩) 78 (0,0))]) (fun op => match op with | .load _ _ => true | _ => false) (by kernel_rfl) (by kernel_rfl) (hO.drew.mem1 (by simp)) ?_
          replace hO := hO.drew
          generalize World.drew _ = wd at hO ⊢
          go_wp2_with (first
            | (((with_reducible refine gIL ?_); first | refine wpI_ldS (fun w' hS => hS.blk 0 rfl) rfl rfl (tA rfl) (tS rfl) ?_); first | (refine wpI_act (by simp only [Act.put, List.setIfInBounds_toArray, List.set_cons_succ, List.set_cons_zero]; rfl) ?_) | skip)
            | ((with_reducible refine gAppendNil ?_); refine own_appendNil hO _ _ 29 eu8m rfl rfl (hO.rd HRP.out) (u8s_one _) (by simp [maxLen]; omega) (by omega) ?_; clear hO; intro a5 c5 ww hO)
            | (go_at_call 80; refine (HTE.out _ _ _ _ hO).mono ?_; clear hO; rintro e ww ⟨a2, c2, rfl, hO⟩)
            | ((with_reducible refine gI ?_); refine wpI_step rfl rfl (by kernel_rfl) ?_; intro K hK; have HK := Lib.hid hK; clear hK) | ((with_reducible refine gI ?_); first | refine wpI_skip rfl ?_ | refine wpI_want rfl ?_) | ((with_reducible refine gOnlyK HK.out ?_ ?_); exact hO.mem1 (by simp); clear HK K; first | (refine wpI_act (by simp only [Act.put, List.setIfInBounds_toArray, List.set_cons_succ, List.set_cons_zero]; rfl) ?_) | skip) | (with_reducible refine wpI_nil ?_))
          replace hO : Own wn _ [.sl 5 1 (.slice a2 (p + (k)) c2) (p + (k)) (u8s C), .blk bt (.cells (Tok.C ⟨0, (k : Int), (d : Int)⟩) 78 (0,0)), .blk bx (.cells zT.C 78 (0,0))] := hO
          have hcv1 : ∀ w', Own wn w' [.sl 5 1 (.slice a2 (p + (k)) c2) (p + (k)) (u8s C), .blk bt (.cells (Tok.C ⟨0, (k : Int), (d : Int)⟩) 78 (0,0)), .blk bx (.cells zT.C 78 (0,0))] → (convert 29 9 (.slice a2 (p + (k)) c2)).run Tryz.prog w' = .ok (.string (strB C)) w' :=
            fun w' hS => run_bytes_string w' Tryz.underlying29 Tryz.underlying5 Tryz.underlying9 (hS.rdAt 0 rfl)
          have hcv2 : ∀ w', Own wn w' [.sl 5 1 (.slice a2 (p + (k)) c2) (p + (k)) (u8s C), .blk bt (.cells (Tok.C ⟨0, (k : Int), (d : Int)⟩) 78 (0,0)), .blk bx (.cells zT.C 78 (0,0))] → (convert 29 9 (.slice (some ⟨b0, off, none⟩) (p + (k)) cap)).run Tryz.prog w' = .ok (.string (strB D)) w' :=
            fun w' hS => run_bytes_string w' Tryz.underlying29 Tryz.underlying5 Tryz.underlying9 (hS.rd HTD.out)
          have HV1 := Lib.hid hcv1
          have HV2 := Lib.hid hcv2
          clear hcv1 hcv2
          refine wp_region_textS (fun w' => Own wn w' [.sl 5 1 (.slice a2 (p + (k)) c2) (p + (k)) (u8s C), .blk bt (.cells (Tok.C ⟨0, (k : Int), (d : Int)⟩) 78 (0,0)), .blk bx (.cells zT.C 78 (0,0))]) (fun op => match op with | .convert _ _ _ => true | _ => false) (by kernel_rfl) (by kernel_rfl) hO.drew ?_
          replace hO := hO.drew
          generalize World.drew _ = wd at hO ⊢
          by_cases hCD : C = D
          · have hq : ((strB C).toList == (strB D).toList) = true := by rw [strB_beq]; exact decide_eq_true hCD
            have hag := HAG.out.1 hCD
            have hfd := notYet_hit HND.out c1 hk8 hd1 c21 c22 hag
            have HRES : Hid (T = ⟨0, (k : Int), (d : Int)⟩ ∧ E = 0) := by
              refine ⟨?_, ?_⟩
              · rw [← HT.out]; unfold findT; rw [if_neg (by omega), if_neg (by omega), Int.toNat_natCast, hfd, if_pos c1]
              · rw [← HE.out]; unfold findE; rw [if_neg (by omega), if_neg (by omega), Int.toNat_natCast, hfd, if_pos c1]
            clear hag hfd hCD
            go_wp2_with (first
              | ((with_reducible refine gIC ?_); first | refine wpI_steady (.string (strB C)) rfl rfl (ok_convS m_fi) (fun w' hS => run_value rfl (HV1.out w' hS)) ?_ | refine wpI_steady (.string (strB D)) rfl rfl (ok_convS m_fi) (fun w' hS => run_value rfl (HV2.out w' hS)) ?_; first | (refine wpI_act (by simp only [Act.put, List.setIfInBounds_toArray, List.set_cons_succ, List.set_cons_zero]; rfl) ?_) | skip)
              | ((with_reducible refine gLoad (T := 78) ?_); refine ldX hO 1 rfl rfl (tA rfl) (tS rfl) ?_)
              | ((with_reducible refine gStore (T := 78) ?_); refine stX hO 2 rfl rfl rfl rfl rfl (tS rfl) ?_; clear hO; intro ww hO)
              | ((with_reducible refine gI ?_); refine wpI_step rfl rfl (by kernel_rfl) ?_; intro K hK; have HK := Lib.hid hK; clear hK) | ((with_reducible refine gI ?_); first | refine wpI_skip rfl ?_ | refine wpI_want rfl ?_) | ((with_reducible refine gOnlyK HK.out ?_ ?_); exact hO; clear HK K; first | (refine wpI_act (by simp only [Act.put, List.setIfInBounds_toArray, List.set_cons_succ, List.set_cons_zero]; rfl) ?_) | skip) | (with_reducible refine wpI_nil ?_))
            rw [HRES.out.1, HRES.out.2]
            refine bodyPost_ret (res_ct rfl _ _ bx 78 (Tok.C ⟨0, (k : Int), (d : Int)⟩) (0,0) _ rfl (hO.blk 2 rfl) Tryz.underlying78 rfl (its' _)) rfl ⟨rfl, hO.below⟩
          · have hq : ((strB C).toList == (strB D).toList) = false := by rw [strB_beq]; exact decide_eq_false hCD
            have HNX := Lib.hid (notYet_d HND.out hd1 (fun ha => hCD (HAG.out.2 ha)))
            clear hCD
            go_wp2_with (first
              | ((with_reducible refine gIC ?_); first | refine wpI_steady (.string (strB C)) rfl rfl (ok_convS m_fi) (fun w' hS => run_value rfl (HV1.out w' hS)) ?_ | refine wpI_steady (.string (strB D)) rfl rfl (ok_convS m_fi) (fun w' hS => run_value rfl (HV2.out w' hS)) ?_; first | (refine wpI_act (by simp only [Act.put, List.setIfInBounds_toArray, List.set_cons_succ, List.set_cons_zero]; rfl) ?_) | skip)
              | ((with_reducible refine gI ?_); refine wpI_step rfl rfl (by kernel_rfl) ?_; intro K hK; have HK := Lib.hid hK; clear hK) | ((with_reducible refine gI ?_); first | refine wpI_skip rfl ?_ | refine wpI_want rfl ?_) | ((with_reducible refine gOnlyK HK.out ?_ ?_); exact hO; clear HK K; first | (refine wpI_act (by simp only [Act.put, List.setIfInBounds_toArray, List.set_cons_succ, List.set_cons_zero]; rfl) ?_) | skip) | (with_reducible refine wpI_nil ?_))
            go_roundg (257 - (d + 1))
            case measure => omega
            case rel => exact ⟨d + 1, rfl, by omega, by omega, by go_num, HNX.out, hO.tail.tail⟩
        · have HNX : Hid (notYet bs p (k - 1) 1) := notYet_n (n := k - 1) (d := d) (by rw [show k - 1 + 1 = k by omega]; exact HND.out) (by rw [HL.out]; omega)
          by_cases c21 : d ≤ 256
          · have f1 : decide ((d : Int) ≤ 256) = true := by simp; omega
            by_cases c22 : d ≤ p
            · have f2 : decide ((d : Int) ≤ (p : Int)) = true := by simp; omega
              have f2' : decide (d ≤ p) = true := by simp; omega
              have f3 : decide ((k : Int) ≤ (n : Int) - (p : Int)) = false := by simp; omega
              clear c2
              go_wp2_with (first | ((with_reducible refine gG ?_); refine wpList_want rfl ?_))
              go_roundg (k - 1)
              case measure => have := HGK.out; omega
              case rel => exact ⟨k - 1, rfl, by omega, by omega, by rw [HK9.out], HNX.out, hO⟩
            · have f2 : decide ((d : Int) ≤ (p : Int)) = false := by simp; omega
              have f2' : decide (d ≤ p) = false := by simp; omega
              clear c2
              go_wp2_with (first | ((with_reducible refine gG ?_); refine wpList_want rfl ?_))
              go_roundg (k - 1)
              case measure => have := HGK.out; omega
              case rel => exact ⟨k - 1, rfl, by omega, by omega, by rw [HK9.out], HNX.out, hO⟩
          · have f1 : decide ((d : Int) ≤ 256) = false := by simp; omega
            clear c2
            go_wp2_with (first | ((with_reducible refine gG ?_); refine wpList_want rfl ?_))
            go_roundg (k - 1)
            case measure => have := HGK.out; omega
            case rel => exact ⟨k - 1, rfl, by omega, by omega, by rw [HK9.out], HNX.out, hO⟩
    · have e1 : decide ((3 : Int) ≤ (k : Int)) = false := by simp; omega
      obtain rfl : k = 2 := by omega
      have hno := notYet_end HNY.out
      have HRES : Hid (T = zT ∧ E = 4) := by
        refine ⟨?_, ?_⟩
        · rw [← HT.out]; unfold findT; rw [if_neg (by omega), if_neg (by omega), Int.toNat_natCast, if_neg hno]
        · rw [← HE.out]; unfold findE; rw [if_neg (by omega), if_neg (by omega), Int.toNat_natCast, if_neg hno]
      clear hno
      go_wp2_with (first
        | ((with_reducible refine gBld (T := 78) ?_); refine own_bld (Tok.C zT) (by kernel_rfl) ?_)
        | ((with_reducible refine gStore ?_); first | (refine stX hO 0 rfl rfl rfl rfl rfl (tS rfl) ?_; clear hO; intro ww hO) | (refine stC hO 0 rfl rfl rfl (ltb rfl) rfl (tS rfl) ?_; clear hO; intro ww hO)))
      rw [HRES.out.1, HRES.out.2]
      refine bodyPost_ret (res_ct rfl _ _ bx 78 (Tok.C zT) (0,0) _ rfl (hO.blk 0 rfl) Tryz.underlying78 rfl (its' _)) rfl ⟨rfl, hO.below⟩
end Go.Proofs.YtniibdglodnhoaaGreatDoor

/- Walks of the document's Find at any place, and Tokens. -/
namespace Go.Proofs.YtniibdglodnhoaaGreatDoor
open Go.RowKit Go.Own Go.Bv Go.Ord Go.Eq Go.Mt

set_option maxHeartbeats 4000000 in
set_option maxRecDepth 100000 in
theorem rtokens_calls (a : Option Addr) (n cap : Nat) (bs : List (BitVec 8)) (T : Nat) (hT : (tokens bs).length = T) (w : World) (hR : Rd w 1 a n cap (u8s bs)) (hn : n ≤ 65536) :
    Calls Tryz.prog 60 #[.slice a n cap] w fun e w' => ∃ a' c', e = .returned (.tuple #[.slice a' T c', .int .i64 0]) ∧ Below w.heap.size w w' ∧ w'.ownsRow w.heap.size 78 3 (.slice a' T c') T (tks (tokens bs)) := by
  have hO := Own.start w
  have hlen : bs.length = n := by have := hR.len; rw [u8s_length] at this; omega
  have HL := Lib.hid hlen
  have HR := Lib.hid hR
  have HTT := Lib.hid hT
  clear hR hlen hT
  have d1 : decide ((65536 : Int) < (n : Int)) = false := by simp; omega
  generalize hW : w = wn at hO HR ⊢
  clear hW w
  go_enter Tryz.func60, Tryz.ntmps60
  go_wp2
  replace hO : Own wn _ [.sl 78 3 (.slice none 0 0) 0 (tks [])] := hO.add (Below.refl _ _) (World.ownsRow_nil _ _ _ _)
  go_loopg [4, 5] n (fun m s4 s5 wr => ∃ (p : Nat) (L : List Tok) (aO : Option Addr) (S cO : Nat), m = n - p ∧ p ≤ n ∧ s5 = .int .i64 (p : Int) ∧ s4 = .slice aO S cO ∧ S = L.length ∧ S ≤ p ∧ tokens bs = L ++ toksFrom bs n p ∧ Own wn wr [.sl 78 3 (.slice aO S cO) S (tks L)])
  case atStart => exact ⟨0, [], none, 0, 0, rfl, by omega, rfl, rfl, rfl, by omega, by rw [HL.out.symm]; rfl, hO⟩
  case round =>
    obtain ⟨p, L, aO, S, cO, rfl, hp, rfl, rfl, hS, hSp, hL, hO1⟩ := hrel
    clear hO
    have hO := hO1
    have HSL := Lib.hid hS
    clear hO1 hS
    by_cases c1 : p < n
    · have d2 : decide ((p : Int) < (n : Int)) = true := by simp; omega
      have d2' : decide (p < n) = true := by simp; omega
      have HS := Lib.hid (tokens_step HL.out c1 hL)
      have HLen := Lib.hid (tokAt_tell (b := bs) (at_ := p) (by rw [HL.out]; exact c1)).1
      have H0 := Lib.hid (Tok.ok_size (tokAt_ok (b := bs) (at_ := p)))
      have hz := fun w => rsize_calls (tokAt bs p) w (tokAt_len bs p)
      have hx := u8s_get bs p (by rw [HL.out]; exact c1)
      have hf := fun w h => rfind_in a n cap bs p w h hn c1 _ _ rfl rfl
      have HX0 : Hid (∃ B : Bool, ((findE n bs p == 0) = B) ∧ (if B = true then findT n bs p else ⟨bs[p]'(by rw [HL.out]; exact c1), 0, 0⟩) = tokAt bs p) := by
        have q1 : findE n bs p = if 3 ≤ (found bs p).1 then 0 else 4 := by unfold findE; rw [if_neg (by omega), if_neg (by omega), Int.toNat_natCast]
        have q2 : findT n bs p = if 3 ≤ (found bs p).1 then ⟨0, (found bs p).1, (found bs p).2⟩ else zT := by unfold findT; rw [if_neg (by omega), if_neg (by omega), Int.toNat_natCast]
        rw [q1, q2]
        unfold tokAt
        by_cases h3 : 3 ≤ (found bs p).1
        · rw [if_pos h3, if_pos h3, if_pos h3]
          exact ⟨true, rfl, rfl⟩
        · rw [if_neg h3, if_neg h3, if_neg h3]
          refine ⟨false, rfl, ?_⟩
          rw [List.getD_eq_getElem?_getD, List.getElem?_eq_getElem (by rw [HL.out]; exact c1)]; rfl
      generalize bs[p]'(by rw [HL.out]; exact c1) = x at HX0 hx
      obtain ⟨tt, ht⟩ : ∃ tt, tokAt bs p = tt := ⟨_, rfl⟩
      obtain ⟨bt, hb⟩ : ∃ bt, findT n bs p = bt := ⟨_, rfl⟩
      obtain ⟨E, hE⟩ : ∃ E, findE n bs p = E := ⟨_, rfl⟩
      rw [ht] at HS HLen H0 hz HX0
      rw [hb, hE] at hf HX0
      rw [HL.out] at HLen
      obtain ⟨sz, hsz⟩ : ∃ sz, tt.size = sz := ⟨_, rfl⟩
      rw [hsz] at HS HLen H0 hz
      have HF := Lib.hid hf
      have HZ := Lib.hid hz
      have HX := Lib.hid hx
      clear hf hz hx ht hb hE hL hsz
      have e1 : wrap64 ((p : Int) + (sz : Int)) = ((p + sz : Nat) : Int) := by unfold wrap64; have := HLen.out; omega
      obtain ⟨b0, off, rfl⟩ := HR.out.place (by omega)
      obtain ⟨B, hB, hBT⟩ := HX0.out
      have HBT := Lib.hid hBT
      clear HX0 hBT
      cases B
      all_goals
        simp only [Bool.false_eq_true, if_true, if_false] at HBT
        go_wp2_with (first
          | (go_at_call 93; refine (HF.out _ (hO.rd HR.out)).mono ?_; rintro e ww ⟨rfl, hb⟩; replace hO := hO.call hb; clear hb)
          | ((with_reducible refine gAlloc (T := 78) ?_); refine own_alloc hO _ _ itz ?_; clear hO; intro bx ww hO)
          | ((with_reducible refine gBld (T := 78) ?_); refine own_bld (Tok.C ⟨x, 0, 0⟩) (by kernel_rfl) ?_)
          | ((with_reducible refine gLoad ?_); refine ld_rd (hO.rd HR.out) rfl (HX.out) (tA rfl) ?_)
          | ((with_reducible refine gStore ?_); first | (refine stX hO 0 rfl rfl rfl rfl rfl (tS rfl) ?_; clear hO; intro ww hO) | (refine stC hO 0 rfl rfl rfl (ltb rfl) rfl (tS rfl) ?_; clear hO; intro ww hO))
          | ((with_reducible refine gLoad (T := 78) ?_); rw [HBT.out] at hO; refine ldX hO 0 rfl rfl (tA rfl) (tS rfl) ?_)
          | ((with_reducible refine gLoad (T := 78) ?_); first | refine ldX hO 0 rfl rfl (tA rfl) (tS rfl) ?_ | refine ldX hO 1 rfl rfl (tA rfl) (tS rfl) ?_)
          | ((with_reducible refine gBuild (T := 76) ?_); refine own_build hO 76 1 _ etk tt.C (by omega) (by omega) (by kernel_rfl) rfl ?_; clear hO; intro g ww hO)
          | ((with_reducible refine gAppend ?_); refine own_append hO 2 _ _ 76 etk rfl rfl rfl (hO.rdAt 0 rfl) (tks_one [tt]) (S + 1) rfl (by simp [maxLen]; omega) (by omega) ?_; clear hO; intro a2 c2 ww hO)
          | (go_at_call 94; refine (HZ.out _).mono ?_; rintro e ww ⟨rfl, hb⟩; replace hO := hO.call hb; clear hb))
        have hm := HLen.out
        have h0 := H0.out
        go_roundg (n - (p + sz))
        case measure => omega
        case rel => exact ⟨p + sz, L ++ [tt], a2, S + 1, c2, rfl, HLen.out, by go_num, rfl, by rw [List.length_append, HSL.out]; rfl, by omega, HS.out, by rw [tks_append]; exact hO.tail.tail⟩
    · obtain rfl : p = n := by omega
      have HE : Hid (tokens bs = L) := by show _ = _; rw [hL, toksFrom_stop (by rw [HL.out]; exact Nat.le_refl _), List.append_nil]
      have hST : S = T := by rw [HSL.out, ← HTT.out, HE.out]
      subst hST
      clear hL
      go_wp2
      go_ret2
      exact ⟨aO, cO, rfl, hO.below, by rw [HE.out]; exact hO.row 0 rfl⟩
end Go.Proofs.YtniibdglodnhoaaGreatDoor

/- Walks: the document's number, Bits, Tokens of too long a text, Pack, Long, Same of bits (one list twice). -/
namespace Go.Proofs.YtniibdglodnhoaaGreatDoor
open Go.RowKit Go.Own Go.Bv Go.Ord Go.Eq Go.Opn Go.Pb Go.Mt

set_option maxHeartbeats 2000000 in
set_option maxRecDepth 100000 in
theorem rnumber_calls (n wide tree : Nat) (hn : n < 2 ^ wide) (hw : wide ≤ 8) (ht : tree ≤ 300) (w : World) :
    Calls Tryz.prog 96 #[.int .i64 (n : Int), .int .i64 (wide : Int), .int .i64 (tree : Int)] w fun e w' => ∃ a' c', e = .returned (.slice a' wide c') ∧ Below w.heap.size w w' ∧ w'.ownsRow w.heap.size 122 2 (.slice a' wide c') wide (bts (Go.Pz.numT (2 ^ wide + n) tree wide)) := by
  have hO := Own.start w
  obtain ⟨N, hN⟩ : ∃ N, 2 ^ wide + n = N := ⟨_, rfl⟩
  have HN := Lib.hid hN
  have HNN := Lib.hid hn
  rw [hN]
  clear hN hn
  have i0 : IntKind.i64.wrap ((wide : Int) - 1) = (wide : Int) - 1 := by rw [IntKind.wrap_i64]; omega
  generalize hW : w = wn at hO ⊢
  clear hW w
  go_enter Tryz.func96, Tryz.ntmps96
  go_wp2
  have hO2 : Own wn wn [.sl 122 2 (.slice none 0 0) 0 (bts [])] := hO.addRow (Below.refl _ _) (World.ownsRow_nil _ _ _ _)
  clear hO
  have hO := hO2
  clear hO2
  go_loopg [7, 8, 9] wide (fun mm s7 s8 s9 wr => ∃ (r : Nat) (z : Int) (v : Nat) (D : List Bt) (aJ : Option Addr) (cJ M : Nat), mm = r ∧ r ≤ wide ∧ s9 = .int .i64 z ∧ z = (r : Int) - 1 ∧ s8 = .int .i64 (v : Int) ∧ Hid (v = N / 2 ^ r) ∧ s7 = .slice aJ M cJ ∧ M + r = wide ∧ Hid (D ++ Go.Pz.numT N tree r = Go.Pz.numT N tree wide) ∧
    Own wn wr [.sl 122 2 (.slice aJ M cJ) M (bts D)])
  case atStart => exact ⟨wide, (wide : Int) - 1, 1, [], none, 0, 0, rfl, by omega, rfl, rfl, rfl, by
    show _ = _
    rw [← HN.out, Nat.add_comm, Nat.add_div_right _ (Nat.pow_pos (by decide)), Nat.div_eq_of_lt HNN.out], rfl, by omega, rfl, hO⟩
  case round =>
    obtain ⟨r, z, v, D, aJ, cJ, M, hmm, hr, rfl, hz, rfl, HV, rfl, hM, HD, hO1⟩ := hrel
    clear hO i0
    have hO := hO1
    clear hO1
    by_cases hr0 : 0 < r
    · obtain ⟨k, rfl⟩ : ∃ k, r = k + 1 := ⟨r - 1, by omega⟩
      obtain rfl : z = (k : Int) := by omega
      clear hz
      obtain ⟨bt, hbt⟩ : ∃ bt, N / 2 ^ k % 2 = bt := ⟨_, rfl⟩
      have hb2 : bt < 2 := by rw [← hbt]; exact Nat.mod_lt _ (by decide)
      have hN2 : N < 512 := by
        rw [← HN.out]
        have h1 := HNN.out
        have h2 : 2 ^ wide ≤ 256 := Nat.le_trans (Nat.pow_le_pow_right (by decide) hw) (by decide)
        omega
      have hv : v ≤ 512 := by rw [HV.out]; exact Nat.le_trans (Nat.div_le_self _ _) (by omega)
      have e0 : ((n : Int) / 2 ^ k) % 2 = (bt : Int) := by
        have h := Go.Pz.bit_same HN.out (k := k) (by omega)
        rw [hbt] at h
        rw [← h]; push_cast; rfl
      have e1 : Int.tmod ((n : Int) / 2 ^ k) 2 = (bt : Int) := by
        rw [Int.tmod_eq_emod_of_nonneg (Int.ediv_nonneg (by omega) (Int.le_of_lt (Int.pow_pos (by decide))))]; exact e0
      have HV2 : Hid (v * 2 + bt = N / 2 ^ k) := by show _ = _; rw [HV.out, ← hbt]; exact Go.Pz.node_next N k
      have HD2 : Hid ((D ++ [(⟨(tree : Int) + (v : Int), decide (bt = 1)⟩ : Bt)]) ++ Go.Pz.numT N tree k = Go.Pz.numT N tree wide) := by
        show _ = _
        rw [← HD.out, List.append_assoc, ← Int.natCast_add, HV.out, ← hbt]; rfl
      clear hbt hN2
      have hMb : M ≤ 8 := by omega
      obtain rfl | rfl : bt = 0 ∨ bt = 1 := by omega
      · rw [decide_eq_false (by decide)] at HD2
        have HQ : Hid (bts (D ++ [(⟨(tree : Int) + (v : Int), false⟩ : Bt)]) = bts D ++ bts [(⟨(tree : Int) + (v : Int), false⟩ : Bt)]) := by show _ = _; rw [bts_append]
        go_wp2_with (first
          | ((with_reducible refine gBuild (T := 84) ?_); refine own_build hO 84 1 _ ebtz (bts [(⟨(tree : Int) + (v : Int), false⟩ : Bt)]).toArray (by omega) (by omega) (by kernel_rfl) rfl ?_; clear hO; intro g ww hO)
          | ((with_reducible refine gAppend ?_); refine own_append hO 1 _ _ 84 ebtz rfl rfl rfl (hO.rdAt 0 rfl) (bts_one _) (M + 1) rfl (by simp [maxLen]; omega) (by omega) ?_; clear hO; intro a2 c2 ww hO))
        go_roundg k
        case measure => omega
        case rel => exact ⟨k, (k : Int) - 1, v * 2 + 0, D ++ [(⟨(tree : Int) + (v : Int), false⟩ : Bt)], a2, c2, M + 1, rfl, by omega, by go_num, rfl, by go_num, HV2.out, rfl, by omega, HD2.out, by rw [HQ.out]; exact hO.tail⟩
      · rw [decide_eq_true rfl] at HD2
        have HQ : Hid (bts (D ++ [(⟨(tree : Int) + (v : Int), true⟩ : Bt)]) = bts D ++ bts [(⟨(tree : Int) + (v : Int), true⟩ : Bt)]) := by show _ = _; rw [bts_append]
        go_wp2_with (first
          | ((with_reducible refine gBuild (T := 84) ?_); refine own_build hO 84 1 _ ebtz (bts [(⟨(tree : Int) + (v : Int), true⟩ : Bt)]).toArray (by omega) (by omega) (by kernel_rfl) rfl ?_; clear hO; intro g ww hO)
          | ((with_reducible refine gAppend ?_); refine own_append hO 1 _ _ 84 ebtz rfl rfl rfl (hO.rdAt 0 rfl) (bts_one _) (M + 1) rfl (by simp [maxLen]; omega) (by omega) ?_; clear hO; intro a2 c2 ww hO))
        go_roundg k
        case measure => omega
        case rel => exact ⟨k, (k : Int) - 1, v * 2 + 1, D ++ [(⟨(tree : Int) + (v : Int), true⟩ : Bt)], a2, c2, M + 1, rfl, by omega, by go_num, rfl, by go_num, HV2.out, rfl, by omega, HD2.out, by rw [HQ.out]; exact hO.tail⟩
    · obtain rfl : r = 0 := by omega
      have d2 : decide (0 ≤ z) = false := decide_eq_false (by omega)
      obtain rfl : M = wide := by omega
      have HDD : Hid (D = Go.Pz.numT N tree M) := by
        have h := HD.out
        show _ = _
        rw [← h]; simp [Go.Pz.numT]
      rw [HDD.out] at hO
      go_wp2
      go_ret
      exact ⟨aJ, cJ, rfl, hO.below, hO.row 0 rfl⟩
end Go.Proofs.YtniibdglodnhoaaGreatDoor

namespace Go.Proofs.YtniibdglodnhoaaGreatDoor
open Go.RowKit Go.Own Go.Bv Go.Ord Go.Eq Go.Opn Go.Pb Go.Mt

theorem rnumber_lit (x : BitVec 8) (w : World) : Calls Tryz.prog 96 #[.int .i64 (x.toNat : Int), .int .i64 8, .int .i64 0] w fun e w' => ∃ a' c', e = .returned (.slice a' 8 c') ∧ Below w.heap.size w w' ∧ w'.ownsRow w.heap.size 122 2 (.slice a' 8 c') 8 (bts (Go.Pz.numT (256 + x.toNat) 0 8)) :=
  rnumber_calls x.toNat 8 0 x.isLt (by omega) (by omega) w
theorem rnumber_int (x : Int) (wide tree : Nat) (h0 : 0 ≤ x) (h1 : x < 2 ^ wide) (hw : wide ≤ 8) (ht : tree ≤ 300) (w : World) : Calls Tryz.prog 96 #[.int .i64 x, .int .i64 (wide : Int), .int .i64 (tree : Int)] w fun e w' => ∃ a' c', e = .returned (.slice a' wide c') ∧ Below w.heap.size w w' ∧ w'.ownsRow w.heap.size 122 2 (.slice a' wide c') wide (bts (Go.Pz.numT (2 ^ wide + x.toNat) tree wide)) := by
  obtain ⟨n, rfl⟩ : ∃ n : Nat, x = (n : Int) := ⟨x.toNat, by omega⟩
  rw [Int.toNat_natCast]
  exact rnumber_calls n wide tree (by exact_mod_cast h1) hw ht w

set_option maxHeartbeats 8000000 in
set_option maxRecDepth 100000 in
theorem rbits_ok (a : Option Addr) (n c : Nat) (l : List Tok) (w : World) (hR : Rd w 3 a n c (tks l)) (hn : n ≤ 65536) (hk : okFrom 0 l) (B : List Bt) (hB : Go.Pz.bitsAll l = B) (K : Nat) (hK : B.length = K) :
    Calls Tryz.prog 61 #[.slice a n c] w fun e w' => ∃ a' c', e = .returned (.tuple #[.slice a' K c', .int .i64 0]) ∧ Below w.heap.size w w' ∧ w'.ownsRow w.heap.size 122 2 (.slice a' K c') K (bts B) := by
  have hO := Own.start w
  have hlen : l.length = n := by have := hR.len; rw [tks_length] at this; omega
  have HC := Lib.hid (fun w h => rcheck_calls a n c l w h 0 (fun _ _ => rfl) (fun h1 => by rcases h1 with h1 | h1; omega; exact absurd hk h1))
  have HR := Lib.hid hR
  have HL := Lib.hid hlen
  have HK := Lib.hid hk
  have HB := Lib.hid hB
  have HKK := Lib.hid hK
  clear hR hlen hk hB hK
  generalize hW : w = wn at hO HR ⊢
  clear hW w
  go_enter Tryz.func61, Tryz.ntmps61
  go_wp2_with (first
    | (go_at_call 95; refine (HC.out _ (hO.rd HR.out)).mono ?_; rintro e ww ⟨rfl, hb⟩; replace hO := hO.call hb; clear hb))
  replace hO : Own wn _ [.sl 122 2 (.slice none 0 0) 0 (bts (Go.Pz.bitsAll (l.take 0)))] := hO.addRow (Below.refl _ _) (World.ownsRow_nil _ _ _ _)
  go_loopg [4, 12] n (fun mm s2 cc wr => ∃ (k M : Nat) (aO : Option Addr) (cO : Nat), mm = n - k ∧ k ≤ n ∧ cc = .int .i64 (k : Int) ∧ s2 = .slice aO M cO ∧ Hid ((Go.Pz.bitsAll (l.take k)).length = M) ∧ Own wn wr [.sl 122 2 (.slice aO M cO) M (bts (Go.Pz.bitsAll (l.take k)))])
  case atStart => exact ⟨0, 0, none, 0, rfl, by omega, rfl, rfl, rfl, hO⟩
  case round =>
    obtain ⟨k, M, aO, cO, rfl, hkn, rfl, rfl, HM, hO1⟩ := hrel
    clear hO
    have hO := hO1
    clear hO1
    by_cases c1 : k < n
    · have d1 : decide ((k : Int) < (n : Int)) = true := decide_eq_true (by omega)
      have hkl : k < l.length := by rw [HL.out]; exact c1
      have ht := List.getElem?_eq_getElem (l := l) (i := k) hkl
      have hbn := Go.Pz.bitsAll_next hkl
      have hokk := ((okFrom_next hkl).1 (okFrom_take (k + 1) HK.out)).2
      generalize l[k] = t at ht hbn hokk
      have hMb : M ≤ 1000000 := by
        have := Go.Pz.bitsAll_length_le (l.take k)
        rw [HM.out, List.length_take] at this
        omega
      have HT := Lib.hid ht
      obtain ⟨b0, off, rfl⟩ := HR.out.place (by omega)
      obtain ⟨Q, hQ⟩ : ∃ Q, Go.Pz.bitsAll (l.take k) = Q := ⟨_, rfl⟩
      rw [hQ] at hO hbn HM
      obtain ⟨lit, len, dist⟩ := t
      have HBN := Lib.hid hbn
      clear ht hkl hbn hQ
      by_cases h0 : len = 0
      · subst h0
        have HN : Hid (bts (Go.Pz.bitsAll (l.take (k + 1))) = (bts Q ++ bts [⟨0, false⟩]) ++ bts (Go.Pz.numT (256 + lit.toNat) 0 8)) := by
          show _ = _
          rw [HBN.out, ← bts_append, ← bts_append, List.append_assoc]; rfl
        have HNC := Lib.hid (fun (w : World) => rnumber_lit lit w)
        have HLN : Hid ((Go.Pz.bitsAll (l.take (k + 1))).length = M + 1 + 8) := by
          show _ = _
          rw [HBN.out, List.length_append, HM.out, Go.Pz.bitsOf_length]; rfl
        clear hokk
        go_wp2_with (first
          | ((with_reducible refine gAlloc (T := 78) ?_); refine own_alloc hO _ _ itz ?_; clear hO; intro bx ww hO)
          | ((with_reducible refine gLoad (T := 78) ?_); refine ld_tok (hO.rd HR.out) HT.out rfl (by omega) (tA rfl) (tS rfl) ?_)
          | ((with_reducible refine gLoad ?_); first | refine ldX hO 0 rfl rfl (tA rfl) (tS rfl) ?_ | refine ldC hO 0 rfl rfl (tA rfl) rfl ?_)
          | ((with_reducible refine gStore ?_); first | (refine stX hO 0 rfl rfl rfl rfl rfl (tS rfl) ?_; clear hO; intro ww hO) | (refine stC hO 0 rfl rfl rfl (ltb rfl) rfl (tS rfl) ?_; clear hO; intro ww hO))
          | ((with_reducible refine gBuild (T := 84) ?_); refine own_build hO 84 1 _ ebtz (bts [⟨0, false⟩]).toArray (by omega) (by omega) (by kernel_rfl) rfl ?_; clear hO; intro g ww hO)
          | ((with_reducible refine gAppend (d := some 22) ?_); refine own_append hO 2 _ _ 84 ebtz rfl rfl rfl (hO.rdAt 0 rfl) (bts_one _) (M + 1) rfl (by simp [maxLen]; omega) (by omega) ?_; clear hO; intro a2 c2 ww hO; replace hO := hO.tail)
          | (go_at_call 96; refine (HNC.out _).mono ?_; rintro e ww ⟨a3, c3, rfl, hb, hr⟩; replace hO := hO.addRow hb hr; clear hb hr)
          | ((with_reducible refine gAppend (d := some 31) ?_); refine own_append hO 2 _ _ 84 ebtz rfl rfl rfl (hO.rdAt 0 rfl) (bts_one _) (M + 1 + 8) rfl (by simp [maxLen]; omega) (by omega) ?_; clear hO; intro a4 c4 ww hO; replace hO := hO.tail))
        go_roundg (n - (k + 1))
        case measure => omega
        case rel => exact ⟨k + 1, M + 1 + 8, a4, c4, rfl, by omega, by go_num, rfl, HLN.out, by rw [HN.out]; exact hO.only' (by simp)⟩
      · have hk2 : 3 ≤ len ∧ len ≤ 18 ∧ 1 ≤ dist ∧ dist ≤ 256 := by
          unfold Tok.ok at hokk
          dsimp only at hokk
          omega
        obtain ⟨k3, k4, k5, k6⟩ := hk2
        have HN : Hid (bts (Go.Pz.bitsAll (l.take (k + 1))) = ((bts Q ++ bts [⟨0, true⟩]) ++ bts (Go.Pz.numT (16 + (len - 3).toNat) 256 4)) ++ bts (Go.Pz.numT (256 + (dist - 1).toNat) 272 8)) := by
          show _ = _
          rw [HBN.out, ← bts_append, ← bts_append, ← bts_append]
          unfold Go.Pz.bitsOf
          rw [if_neg h0]
          simp only [List.append_assoc, List.singleton_append, List.cons_append, List.nil_append]
        have HNC := Lib.hid (fun (w : World) => rnumber_int (len - 3) 4 256 (by omega) (pw4 (by omega)) (by omega) (by omega) w)
        have HNC2 := Lib.hid (fun (w : World) => rnumber_int (dist - 1) 8 272 (by omega) (pw8 (by omega)) (by omega) (by omega) w)
        have HLN : Hid ((Go.Pz.bitsAll (l.take (k + 1))).length = M + 1 + 4 + 8) := by
          show _ = _
          rw [HBN.out, List.length_append, HM.out, Go.Pz.bitsOf_length, if_neg h0]
        have d2 : decide ((0 : Int) < len) = true := decide_eq_true (by omega)
        have d3 : (len == 0) = false := by simpa using h0
        have d3' : decide (len = 0) = false := decide_eq_false h0
        clear hokk h0
        go_wp2_with (first
          | ((with_reducible refine gAlloc (T := 78) ?_); refine own_alloc hO _ _ itz ?_; clear hO; intro bx ww hO)
          | ((with_reducible refine gLoad (T := 78) ?_); refine ld_tok (hO.rd HR.out) HT.out rfl (by omega) (tA rfl) (tS rfl) ?_)
          | ((with_reducible refine gLoad ?_); first | refine ldX hO 0 rfl rfl (tA rfl) (tS rfl) ?_ | refine ldC hO 0 rfl rfl (tA rfl) rfl ?_)
          | ((with_reducible refine gStore ?_); first | (refine stX hO 0 rfl rfl rfl rfl rfl (tS rfl) ?_; clear hO; intro ww hO) | (refine stC hO 0 rfl rfl rfl (ltb rfl) rfl (tS rfl) ?_; clear hO; intro ww hO))
          | ((with_reducible refine gBuild (T := 84) ?_); refine own_build hO 84 1 _ ebtz (bts [⟨0, true⟩]).toArray (by omega) (by omega) (by kernel_rfl) rfl ?_; clear hO; intro g ww hO)
          | ((with_reducible refine gAppend (d := some 22) ?_); refine own_append hO 2 _ _ 84 ebtz rfl rfl rfl (hO.rdAt 0 rfl) (bts_one _) (M + 1) rfl (by simp [maxLen]; omega) (by omega) ?_; clear hO; intro a2 c2 ww hO; replace hO := hO.tail)
          | (go_at_call 96; (with_reducible refine gCall #[_, .int .i64 4, _] ?_); refine (HNC.out _).mono ?_; rintro e ww ⟨a3, c3, rfl, hb, hr⟩; replace hO := hO.addRow hb hr; clear hb hr)
          | ((with_reducible refine gAppend (d := some 37) ?_); refine own_append hO 2 _ _ 84 ebtz rfl rfl rfl (hO.rdAt 0 rfl) (bts_one _) (M + 1 + 4) rfl (by simp [maxLen]; omega) (by omega) ?_; clear hO; intro a4 c4 ww hO; replace hO := hO.tail)
          | (go_at_call 96; (with_reducible refine gCall #[_, .int .i64 8, _] ?_); refine (HNC2.out _).mono ?_; rintro e ww ⟨a5, c5, rfl, hb, hr⟩; replace hO := hO.addRow hb hr; clear hb hr)
          | ((with_reducible refine gAppend (d := some 43) ?_); refine own_append hO 2 _ _ 84 ebtz rfl rfl rfl (hO.rdAt 0 rfl) (bts_one _) (M + 1 + 4 + 8) rfl (by simp [maxLen]; omega) (by omega) ?_; clear hO; intro a6 c6 ww hO; replace hO := hO.tail))
        go_roundg (n - (k + 1))
        case measure => omega
        case rel => exact ⟨k + 1, M + 1 + 4 + 8, a6, c6, rfl, by omega, by go_num, rfl, HLN.out, by rw [HN.out]; exact hO.only' (by simp)⟩
    · obtain rfl : k = n := by omega
      have HA : Hid (Go.Pz.bitsAll (l.take k) = B) := by show _ = _; rw [List.take_of_length_le (by rw [HL.out]; exact Nat.le_refl _), HB.out]
      rw [HA.out] at hO HM
      obtain rfl : K = M := by rw [← HKK.out, HM.out]
      go_wp2
      go_ret2
      exact ⟨aO, cO, rfl, hO.below, hO.row 0 rfl⟩

end Go.Proofs.YtniibdglodnhoaaGreatDoor

namespace Go.Proofs.YtniibdglodnhoaaGreatDoor
open Go.RowKit Go.Own Go.Bv Go.Ord Go.Eq Go.Opn Go.Pb Go.Mt

set_option maxHeartbeats 4000000 in
set_option maxRecDepth 100000 in
theorem rpack_ok (a : Option Addr) (n cap : Nat) (bs : List (BitVec 8)) (w : World) (hR : Rd w 1 a n cap (u8s bs)) (hn : n ≤ 65536) (T : List (BitVec 8)) (hT : Go.Pz.packT bs = T) (M : Nat) (hM : T.length = M) :
    Calls Tryz.prog 31 #[.slice a n cap] w fun e w' => ∃ a' c', e = .returned (.tuple #[.slice a' M c', .int .i64 0]) ∧ Below w.heap.size w w' ∧ w'.ownsRow w.heap.size 5 1 (.slice a' M c') M (u8s T) := by
  have hO := Own.start w
  have hlen : bs.length = n := by have := hR.len; rw [u8s_length] at this; omega
  obtain ⟨s1, s2, s3⟩ := tokens_spec bs
  have hbd := told_bounds 0 _ s1
  rw [hlen] at s2
  rw [s2] at hbd
  obtain ⟨L, hL⟩ : ∃ L, tokens bs = L := ⟨_, rfl⟩
  obtain ⟨TN, hTN⟩ : ∃ T, L.length = T := ⟨_, rfl⟩
  obtain ⟨B, hB⟩ : ∃ B, Go.Pz.bitsAll L = B := ⟨_, rfl⟩
  obtain ⟨K, hK⟩ : ∃ K, B.length = K := ⟨_, rfl⟩
  obtain ⟨X, hX⟩ : ∃ X, Go.Kc.encT 528 (Go.Kc.prs B) = X := ⟨_, rfl⟩
  obtain ⟨Y, hY⟩ : ∃ Y, X.length = Y := ⟨_, rfl⟩
  rw [hL] at s1 hbd
  rw [hTN] at hbd
  have hall := bits_all (b := bs) s1
  have hKb : K ≤ 1048576 := by
    have := Go.Pz.bitsAll_length_le L
    rw [hB, hK, hTN] at this
    omega
  have hYb : Y ≤ 10000000 := by
    rw [hB] at hall
    obtain ⟨_, _, _, h4⟩ := Go.Kc.enc_facts (within_ok hall)
    rw [Go.Kc.prs_length, hK] at h4
    rw [← hY, ← hX, Go.Kc.encT_length]
    omega
  have h1 := fun w h => rtokens_calls a n cap bs TN (by rw [hL, hTN]) w h hn
  rw [hL] at h1
  have hE0 : encE 528 B = 0 := by
    unfold encE
    rw [if_pos (by omega), if_pos (by omega), if_pos (by rw [← hB]; exact hall)]
  have hEO : encO 528 B = X := by
    unfold encO
    rw [if_pos hE0]
    exact hX
  have H1 := Lib.hid h1
  have H2 := Lib.hid (fun (a : Option Addr) (c : Nat) w h => rbits_ok a TN c L w h (by omega) s1 B hB K hK)
  have H3 := Lib.hid (fun (a : Option Addr) (c : Nat) w h => rencode_calls 528 a K c B w h Y X 0 hE0 hEO hY)
  have HT : Hid (T = Go.Pz.le4 n ++ X) := by
    show _ = _
    rw [← hT]; unfold Go.Pz.packT
    rw [hL, hB, hX, hlen]
  have HM : Hid (M = 4 + Y) := by show _ = _; rw [← hM, HT.out, List.length_append, hY]; rfl
  have HR := Lib.hid hR
  obtain ⟨b0, hb0⟩ : ∃ x, BitVec.ofNat 8 n = x := ⟨_, rfl⟩
  obtain ⟨b1, hb1⟩ : ∃ x, BitVec.ofNat 8 (n / 256) = x := ⟨_, rfl⟩
  obtain ⟨b2, hb2⟩ : ∃ x, BitVec.ofNat 8 (n / 65536) = x := ⟨_, rfl⟩
  have hb3 : BitVec.ofNat 8 (n / 16777216) = 0#8 := by rw [show n / 16777216 = 0 by omega]
  have e0 : IntKind.u8.wrap ((n : Int) % 256) = (b0.toNat : Int) := by rw [← hb0, BitVec.toNat_ofNat, IntKind.wrap_u8']; omega
  have e1 : IntKind.u8.wrap ((n : Int) / 256 % 256) = (b1.toNat : Int) := by rw [← hb1, BitVec.toNat_ofNat, IntKind.wrap_u8']; omega
  have e2 : IntKind.u8.wrap ((n : Int) / 65536) = (b2.toNat : Int) := by rw [← hb2, BitVec.toNat_ofNat, IntKind.wrap_u8']; omega
  have t0 : (n : Int).tmod 256 = (n : Int) % 256 := rfl
  have t1 : (n : Int).tdiv 256 = (n : Int) / 256 := rfl
  have t2 : (n : Int).tdiv 65536 = (n : Int) / 65536 := rfl
  have t3 : ((n : Int) / 256).tmod 256 = (n : Int) / 256 % 256 := rfl
  have HLE : Hid (Go.Pz.le4 n = [b0, b1, b2, 0#8]) := by show _ = _; unfold Go.Pz.le4; rw [hb0, hb1, hb2, hb3]
  clear hR hlen s1 s2 s3 hbd hL hTN hB hK hX hY hall hKb h1 hb0 hb1 hb2 hb3 hT hM hE0 hEO
  generalize hW : w = wn at hO HR ⊢
  clear hW w
  go_enter Tryz.func31, Tryz.ntmps31
  go_wp2_with (first
    | (go_at_call 60; refine (H1.out _ (hO.rd HR.out)).mono ?_; rintro e ww ⟨a1, c1, rfl, hb, hr⟩; replace hO := hO.addRow hb hr; clear hb hr)
    | (go_at_call 61; refine (H2.out _ _ _ (hO.rdAt 0 rfl)).mono ?_; rintro e ww ⟨a2, c2, rfl, hb, hr⟩; replace hO := hO.addRow hb hr; clear hb hr)
    | (go_at_call 62; refine (H3.out _ _ _ (hO.rdAt 0 rfl)).mono ?_; rintro e ww ⟨a3, c3, rfl, hb, hr⟩; replace hO := hO.addRow hb hr; clear hb hr)
    | ((with_reducible refine gBuild ?_); refine own_build hO 29 4 _ eu8 (u8s [b0, b1, b2, 0#8]).toArray (by omega) (by omega) (by simp [go_sem, Instr.fill, u8s]) rfl ?_; clear hO; intro g ww hO)
    | ((with_reducible refine gAppend ?_); refine own_append hO 0 _ _ 29 eu8 rfl rfl rfl (hO.rdAt 1 rfl) (u8s_one _) (4 + Y) rfl (by simp [maxLen]; omega) (by omega) ?_; clear hO; intro a5 c5 ww hO))
  have HF : Hid (u8s [b0, b1, b2, 0#8] ++ u8s X = u8s T) := by
    show _ = _
    rw [HT.out, HLE.out]; unfold u8s; rw [List.map_append]
  obtain rfl : M = 4 + Y := HM.out
  go_ret2
  refine ⟨a5, c5, rfl, hO.below, ?_⟩
  rw [← HF.out]
  exact hO.row 0 rfl
end Go.Proofs.YtniibdglodnhoaaGreatDoor

namespace Go.Proofs.YtniibdglodnhoaaGreatDoor
open Go.RowKit Go.Own Go.Bv Go.Ord Go.Eq Go.Opn Go.Pb Go.Mt

set_option maxHeartbeats 4000000 in
set_option maxRecDepth 100000 in
theorem rplong_calls (a : Option Addr) (n cap : Nat) (b : List (BitVec 8)) (w : World) (hR : Rd w 1 a n cap (u8s b)) (V : Nat) (E : Int) (hV : Go.Pz.longV b = V) (hE : Go.Pz.longE b = E) :
    Calls Tryz.prog 48 #[.slice a n cap] w fun e w' => e = .returned (.tuple #[.int .i64 (V : Int), .int .i64 E]) ∧ Below w.heap.size w w' := by
  have hlen : b.length = n := by have := hR.len; rw [u8s_length] at this; omega
  have hO := Own.start w
  by_cases h9 : n < 9
  · have d1 : decide ((n : Int) < 9) = true := decide_eq_true (by omega)
    have e1 : V = 0 := by rw [← hV]; unfold Go.Pz.longV; rw [if_pos (by omega)]
    have e2 : E = 2 := by rw [← hE]; unfold Go.Pz.longE; rw [if_pos (by omega)]
    subst e1 e2
    clear hR hV hE hlen h9
    generalize hW : w = wn at hO ⊢
    clear hW w
    go_enter Tryz.func48, Tryz.ntmps48
    go_wp2
    go_ret2
    exact ⟨rfl, hO.below⟩
  · have d1 : decide ((n : Int) < 9) = false := decide_eq_false (by omega)
    obtain ⟨ba, off, rfl⟩ := hR.place (by omega)
    have hG : ∀ j (hj : j < 4), (u8s b)[j]? = some (.int .u8 ((b.getD j 0).toNat : Int)) := fun j hj => by
      have : j < b.length := by omega
      rw [u8s_get b j this]; simp [this]
    have hg0 := hG 0 (by omega)
    have hg1 := hG 1 (by omega)
    have hg2 := hG 2 (by omega)
    have hg3 := hG 3 (by omega)
    have hV' : V = if 65536 < Go.Pz.lg4 b then 0 else Go.Pz.lg4 b := by rw [← hV]; unfold Go.Pz.longV; rw [if_neg (by omega)]
    have hE' : E = if 65536 < Go.Pz.lg4 b then 2 else 0 := by rw [← hE]; unfold Go.Pz.longE; rw [if_neg (by omega)]
    obtain ⟨G, hGG⟩ : ∃ G, Go.Pz.lg4 b = G := ⟨_, rfl⟩
    rw [hGG] at hV' hE'
    unfold Go.Pz.lg4 at hGG
    have l0 := lt8 (b.getD 0 0)
    have l1 := lt8 (b.getD 1 0)
    have l2 := lt8 (b.getD 2 0)
    have l3 := lt8 (b.getD 3 0)
    have n0 := nn (b.getD 0 0)
    have n1 := nn (b.getD 1 0)
    have n2 := nn (b.getD 2 0)
    have n3 := nn (b.getD 3 0)
    generalize b.getD 0 0 = x0 at *
    generalize b.getD 1 0 = x1 at *
    generalize b.getD 2 0 = x2 at *
    generalize b.getD 3 0 = x3 at *
    have hGI : (x0.toNat : Int) + 256 * (x1.toNat : Int) + 65536 * (x2.toNat : Int) + 16777216 * (x3.toNat : Int) = (G : Int) := by omega
    have HGI := Lib.hid hGI
    have HV := Lib.hid hV'
    have HE := Lib.hid hE'
    have HG0 := Lib.hid hg0
    have HG1 := Lib.hid hg1
    have HG2 := Lib.hid hg2
    have HG3 := Lib.hid hg3
    have HR := Lib.hid hR
    have hn4 : 4 ≤ n := by omega
    have hn1 : 0 < n := by omega
    have hn2 : 1 < n := by omega
    have hn3 : 2 < n := by omega
    have hn5 : 3 < n := by omega
    clear hR hV hE hlen h9 hG hg0 hg1 hg2 hg3 hV' hE' hGI hGG
    generalize hW : w = wn at hO HR ⊢
    clear hW w
    go_enter Tryz.func48, Tryz.ntmps48
    go_wp2
    clear d1
    refine wp_region_text (by kernel_rfl) (by kernel_rfl) ?_
    replace hO := hO.drew
    generalize World.drew _ = wd at hO ⊢
    have c0 : wd.cell? ⟨ba, off, none⟩ = some (.int .u8 (x0.toNat : Int)) := (hO.rd HR.out).cells rfl 0 _ HG0.out
    have c1 : wd.cell? ⟨ba, off + 1, none⟩ = some (.int .u8 (x1.toNat : Int)) := (hO.rd HR.out).cells rfl 1 _ HG1.out
    have c2 : wd.cell? ⟨ba, off + 2, none⟩ = some (.int .u8 (x2.toNat : Int)) := (hO.rd HR.out).cells rfl 2 _ HG2.out
    have c3 : wd.cell? ⟨ba, off + 3, none⟩ = some (.int .u8 (x3.toNat : Int)) := (hO.rd HR.out).cells rfl 3 _ HG3.out
    go_upto_region 4 with (first | ((with_reducible refine gI ?_); refine wpI_step rfl rfl (by kernel_rfl) ?_; intro K hK; have HK := Lib.hid hK; clear hK) | ((with_reducible refine gI ?_); first | refine wpI_skip rfl ?_ | refine wpI_want rfl ?_) | ((with_reducible refine gOnlyK0 HK.out ?_); clear HK K; first | (refine wpI_act (by simp only [Act.put, List.setIfInBounds_toArray, List.set_cons_succ, List.set_cons_zero]; rfl) ?_) | skip) | (with_reducible refine wpI_nil ?_))
    rw [HGI.out]
    clear c0 c1 c2 c3 HG0 HG1 HG2 HG3 HGI HR
    by_cases hb : 65536 < G
    · have d5 : decide ((65536 : Int) < (G : Int)) = true := decide_eq_true (by omega)
      have e1 : V = 0 := by rw [HV.out, if_pos hb]
      have e2 : E = 2 := by rw [HE.out, if_pos hb]
      subst e1 e2
      clear hb HV HE
      go_wp2
      go_ret2
      exact ⟨rfl, hO.below⟩
    · have d5 : decide ((65536 : Int) < (G : Int)) = false := decide_eq_false (by omega)
      have e1 : V = G := by rw [HV.out, if_neg hb]
      have e2 : E = 0 := by rw [HE.out, if_neg hb]
      subst e1 e2
      clear hb HV HE
      go_wp2
      go_ret2
      exact ⟨rfl, hO.below⟩
end Go.Proofs.YtniibdglodnhoaaGreatDoor

namespace Go.Proofs.YtniibdglodnhoaaGreatDoor
open Go.RowKit Go.Own Go.Bv Go.Ord Go.Eq Go.Opn Go.Pb Go.Mt

end Go.Proofs.YtniibdglodnhoaaGreatDoor

/- A region that draws its order and has several operations that float (two variables next to a call, a row and a variable ..): a plan says, step by step, which operations may come first; one walk for each branch of the plan. -/
namespace Go.Ord
open Go.RowKit

section
variable {P : Program} {ops : Array Oper} {Q : Exit → Act → World → Prop} {S : World → Prop} {st : Op → Bool}

/-- some that may come first, everything else apart from all of them -/
theorem any_firstN (C : List Nat) (hC0 : C ≠ []) (hsel : ∀ (j : Nat) (o : Oper) cs b, ops[j]? = some o → o.op ≠ .select cs b) (D : List Nat)
    (hD : ∀ j ∈ D, ∀ oj, ops[j]? = some oj → ∃ e ∈ oj.after, Region.binds .any e = true ∧ (e.on ∈ C ∨ e.on ∈ D))
    (hlast : lastB ops = true → ∀ j, j + 1 = ops.size → j ∉ C → j ∈ D) :
    ∀ (fuel : Nat) (listed : Array Bool) (a : Act) (w : World), S w →
      (∀ j oj, ops[j]? = some oj → j ∉ C → listed.getD j true = false → j ∉ D → (∀ c ∈ C, ∀ oc, ops[c]? = some oc → oc.apart ops oj = true ∧ compat (kindS P st oc.op) (kindS P st oj.op) = true) ∧ quietK (kindS P st oj.op) = true) →
      (∀ j ∈ D, listed.getD j false = false) →
      (∀ c ∈ C, c ∈ Region.ready .any ops listed ∧ ∃ oc, ops[c]? = some oc ∧ opI P ops S st Q oc (wpAnyI P ops S st Q fuel (listed.setIfInBounds c true)) a w) → wpAnyI P ops S st Q (fuel + 1) listed a w := by
  obtain ⟨c0, hc0⟩ : ∃ c, c ∈ C := List.exists_mem_of_ne_nil C hC0
  intro fuel
  induction fuel with
  | zero =>
    intro listed a w hS _ _ H
    refine ⟨fun h => (by have := (H c0 hc0).1; rw [h] at this; cases this), fun j hj => ?_⟩
    by_cases hjC : j ∈ C
    · obtain ⟨_, oc, hoc, h⟩ := H j hjC
      exact ⟨oc, hoc, .inl h⟩
    · obtain ⟨_, oc, hoc, h⟩ := H c0 hc0
      have h0 := ready_mono hj (fun e => hjC (e ▸ hc0) : j ≠ c0)
      obtain ⟨_, _, _, _, hK⟩ := opI_some hS h
      rw [hK.1] at h0
      cases h0
  | succ fuel ih =>
    intro listed a w hS hfree hDl H
    refine ⟨fun h => (by have := (H c0 hc0).1; rw [h] at this; cases this), fun j hj => ?_⟩
    by_cases hjC : j ∈ C
    · obtain ⟨_, oc, hoc, h⟩ := H j hjC
      exact ⟨oc, hoc, .inl h⟩
    obtain ⟨hjun, oj, hoj, hall⟩ := mem_ready.1 hj
    have hun : ∀ {k}, k ∈ Region.ready .any ops listed → listed.getD k false = true → False := fun {k} hk h1 => by
      have h0 := (mem_ready.1 hk).1
      rcases Nat.lt_or_ge k listed.size with h' | h'
      · simp [h'] at h0 h1; rw [h0] at h1; cases h1
      · simp [Array.getElem?_eq_none h'] at h1
    have hjD : j ∉ D := fun hm => by
      obtain ⟨e, he, hb, h⟩ := hD j hm oj hoj
      have h1 := hall e he hb
      rcases h with h | h
      · exact hun (H _ h).1 h1
      · rw [hDl _ h] at h1; cases h1
    obtain ⟨hap, hq⟩ := hfree j oj hoj hjC hjun hjD
    have step : ∀ c ∈ C, ∃ oc v, ops[c]? = some oc ∧ Gives P ops S oj v a ∧ opI P ops S st Q oc (wpAnyI P ops S st Q fuel ((listed.setIfInBounds j true).setIfInBounds c true)) (a.put oj.dst v) w := by
      intro c hc
      obtain ⟨hr, oc, hoc, Hk⟩ := H c hc
      have hjc : j ≠ c := fun e => hjC (e ▸ hc)
      obtain ⟨h1, h2⟩ := hap c hc oc hoc
      have hstep : opI P ops S st Q oc (opI P ops S st Q oj (wpAnyI P ops S st Q fuel ((listed.setIfInBounds c true).setIfInBounds j true))) a w := by
        refine opI_mono hS (fun a' w' _ hk' => ?_) Hk
        obtain ⟨oj', hoj', h⟩ := hk'.2 j (ready_mono hj hjc)
        rw [hoj] at hoj'
        obtain rfl := Option.some.inj hoj'
        rcases h with h | ⟨hjs, hlb, _, _⟩
        · exact h
        · exact (hjD (hlast hlb j hjs hjC)).elim
      have h3 := swap h1 (fun cs b => hsel c oc cs b hoc) (fun cs b => hsel j oj cs b hoj) h2 hS hstep
      rw [Array.setIfInBounds_comm _ _ (Ne.symm hjc)] at h3
      obtain ⟨v, hg, k1⟩ := gives_of (quietK_spec hq) h3
      exact ⟨oc, v, hoc, hg, k1⟩
    obtain ⟨_, v, _, hg, _⟩ := step c0 hc0
    refine ⟨oj, hoj, .inl (hg.opI hS ?_)⟩
    refine ih (listed.setIfInBounds j true) _ w hS ?_ ?_ ?_
    · intro k ok hk' hkC hun' hkD
      refine hfree k ok hk' hkC ?_ hkD
      by_cases hjk : j = k
      · subst hjk; exact hjun
      · rw [getD_set_ne true hjk] at hun'; exact hun'
    · intro k hk'
      have hjk : j ≠ k := fun h => hjD (h ▸ hk')
      rw [getD_set_ne false hjk]; exact hDl k hk'
    · intro c hc
      have hjc : j ≠ c := fun e => hjC (e ▸ hc)
      obtain ⟨oc, v', hoc, hg', k1⟩ := step c hc
      obtain rfl := hg.unique hS hg'
      exact ⟨ready_mono (H c hc).1 (Ne.symm hjc), oc, hoc, k1⟩

inductive Plan where
  | done
  | one (i : Nat) (r : Plan)
  | br (i : Nat) (p q : Plan)
def Plan.cands : Plan → List Nat
  | .done => []
  | .one i _ => [i]
  | .br i _ q => i :: q.cands

def waitsC (ops : Array Oper) (j : Nat) (C acc : List Nat) : Bool := ((ops[j]?).map fun o => o.after.toList.any fun e => Region.binds .any e && (C.contains e.on || acc.contains e.on)).getD false
def depsC (ops : Array Oper) (C U : List Nat) : List Nat := U.foldl (fun acc j => if !C.contains j && waitsC ops j C acc then acc ++ [j] else acc) []
def nodeB (P : Program) (st : Op → Bool) (ops : Array Oper) (U C : List Nat) : Bool :=
  let D := depsC ops C U
  !C.isEmpty && (C.all fun c => U.contains c && mayB ops c (U.erase c)) && (D.all fun j => U.contains j && !C.contains j && waitsC ops j C D) &&
  (U.all fun j => C.contains j || D.contains j || C.all fun c => (match ops[c]?, ops[j]? with | some oi, some oj => oi.apart ops oj && compat (kindS P st oi.op) (kindS P st oj.op) && (quietK (kindS P st oj.op) || C.length == 1) | _, _ => false)) &&
  (!lastB ops || C.contains (ops.size - 1) || D.contains (ops.size - 1))
def okN (P : Program) (st : Op → Bool) (ops : Array Oper) (U : List Nat) (top : Bool) : Plan → Bool
  | .done => top && U.isEmpty
  | .one i r => U.contains i && (!top || nodeB P st ops U [i]) && okN P st ops (U.erase i) true r
  | .br i p q => U.contains i && (!top || nodeB P st ops U (i :: q.cands)) && okN P st ops (U.erase i) true p && okN P st ops U false q
def wpP (P : Program) (ops : Array Oper) (S : World → Prop) (st : Op → Bool) (Q : Exit → Act → World → Prop) : Plan → Act → World → Prop
  | .done => fun a w => Q .normal a w
  | .one i r => fun a w => ∃ o, ops[i]? = some o ∧ opI P ops S st Q o (wpP P ops S st Q r) a w
  | .br i p q => fun a w => (∃ o, ops[i]? = some o ∧ opI P ops S st Q o (wpP P ops S st Q p) a w) ∧ wpP P ops S st Q q a w

theorem Left.erase {listed : Array Bool} {U : List Nat} (h : Left ops listed U) {i : Nat} (hi : i ∈ U) : Left ops (listed.setIfInBounds i true) (U.erase i) :=
  (h.perm (List.perm_cons_erase hi)).done
theorem node_ok {U C : List Nat} {listed : Array Bool} {a : Act} {w : World} (hsel : ∀ (j : Nat) (o : Oper) cs b, ops[j]? = some o → o.op ≠ .select cs b) (hn : nodeB P st ops U C = true) (hS : S w) (hL : Left ops listed U)
    (h : ∀ c ∈ C, ∃ oc, ops[c]? = some oc ∧ opI P ops S st Q oc (wpAnyI P ops S st Q (U.length - 1) (listed.setIfInBounds c true)) a w) : wpAnyI P ops S st Q U.length listed a w := by
  unfold nodeB at hn
  simp only [Bool.and_eq_true, Bool.or_eq_true, Bool.not_eq_true'] at hn
  obtain ⟨⟨⟨⟨n0, n1⟩, n2⟩, n3⟩, n4⟩ := hn
  have hC0 : C ≠ [] := by intro e; subst e; simp at n0
  obtain ⟨c0, hc0⟩ : ∃ c, c ∈ C := List.exists_mem_of_ne_nil C hC0
  have hcU : ∀ c ∈ C, c ∈ U ∧ mayB ops c (U.erase c) = true := fun c hc => by
    have := List.all_eq_true.1 n1 c hc
    simpa using this
  have hDU : ∀ j ∈ depsC ops C U, j ∈ U ∧ j ∉ C ∧ waitsC ops j C (depsC ops C U) = true := fun j hj => by
    have := List.all_eq_true.1 n2 j hj
    simp only [Bool.and_eq_true, Bool.not_eq_true', List.contains_iff_mem] at this
    refine ⟨this.1.1, fun hc => ?_, this.2⟩
    have h2 := this.1.2
    rw [List.contains_eq_mem] at h2
    simp [hc] at h2
  have hpos : 0 < U.length := List.length_pos_of_mem (hcU c0 hc0).1
  have hready : ∀ c ∈ C, c ∈ Region.ready .any ops listed := fun c hc => (hL.perm (List.perm_cons_erase (hcU c hc).1)).ready (hcU c hc).2
  have hD : ∀ j ∈ depsC ops C U, ∀ oj, ops[j]? = some oj → ∃ e ∈ oj.after, Region.binds .any e = true ∧ (e.on ∈ C ∨ e.on ∈ depsC ops C U) := fun j hj oj hoj => by
    have := (hDU j hj).2.2
    simp only [waitsC, hoj, Option.map_some, Option.getD_some, List.any_eq_true, Bool.and_eq_true, Bool.or_eq_true, List.contains_iff_mem] at this
    obtain ⟨e, he1, he2, he3⟩ := this
    exact ⟨e, by simpa using he1, he2, he3⟩
  have hlast : lastB ops = true → ∀ j, j + 1 = ops.size → j ∉ C → j ∈ depsC ops C U := fun hl j hj hjC => by
    have hjj : ops.size - 1 = j := by omega
    rw [hjj] at n4
    rcases n4 with (h | h) | h
    · rw [hl] at h; cases h
    · exact absurd (by simpa using h) hjC
    · simpa using h
  have hDl : ∀ j ∈ depsC ops C U, listed.getD j false = false := fun j hj => by
    rw [hL.get false (hL.lt j (hDU j hj).1)]
    simp [(hDU j hj).1]
  have hfree : ∀ j oj, ops[j]? = some oj → j ∉ C → listed.getD j true = false → j ∉ depsC ops C U → (∀ c ∈ C, ∀ oc, ops[c]? = some oc → oc.apart ops oj = true ∧ compat (kindS P st oc.op) (kindS P st oj.op) = true) ∧ (quietK (kindS P st oj.op) = true ∨ C.length = 1) := by
    intro j oj hoj hjC hun hjD
    have hjlt : j < ops.size := (Array.getElem?_eq_some_iff.1 hoj).1
    rw [hL.get true hjlt] at hun
    have hjU : j ∈ U := Decidable.not_not.1 (of_decide_eq_false hun)
    have h3 := List.all_eq_true.1 n3 j hjU
    simp only [Bool.or_eq_true, List.contains_iff_mem] at h3
    rcases h3 with (h3 | h3) | h3
    · exact absurd h3 hjC
    · exact absurd h3 hjD
    · refine ⟨fun c hc oc hoc => ?_, ?_⟩
      · have := List.all_eq_true.1 h3 c hc
        rw [hoc, hoj] at this
        simp only [Bool.and_eq_true] at this
        exact this.1
      · have hcs : ∃ oc, ops[c0]? = some oc := by obtain ⟨oc, hoc, _⟩ := h c0 hc0; exact ⟨oc, hoc⟩
        obtain ⟨oc, hoc⟩ := hcs
        have := List.all_eq_true.1 h3 c0 hc0
        rw [hoc, hoj] at this
        simp only [Bool.and_eq_true, Bool.or_eq_true, beq_iff_eq] at this
        exact this.2
  obtain ⟨m, hm⟩ : ∃ m, U.length = m + 1 := ⟨U.length - 1, by omega⟩
  rw [hm] at h ⊢
  rw [Nat.add_sub_cancel] at h
  by_cases h1 : C.length = 1
  · obtain ⟨c, rfl⟩ : ∃ c, C = [c] := List.length_eq_one_iff.1 h1
    obtain ⟨oc, hoc, hk⟩ := h c (by simp)
    refine any_first hoc hsel (depsC ops [c] U) ?_ ?_ m listed a w hS ?_ hDl (hready c (by simp)) hk
    · intro j hj oj hoj
      obtain ⟨e, he, hb, h⟩ := hD j hj oj hoj
      exact ⟨e, he, hb, by simpa using h⟩
    · intro hl j hj hjc
      exact hlast hl j hj (by simpa using hjc)
    · intro j oj hoj hjc hun hjD
      exact (hfree j oj hoj (by simpa using hjc) hun hjD).1 c (by simp) oc hoc
  · refine any_firstN C hC0 hsel (depsC ops C U) hD hlast m listed a w hS ?_ hDl (fun c hc => ⟨hready c hc, h c hc⟩)
    intro j oj hoj hjC hun hjD
    obtain ⟨f1, f2⟩ := hfree j oj hoj hjC hun hjD
    exact ⟨f1, f2.resolve_right h1⟩

theorem plan_sound (hsel : ∀ (j : Nat) (o : Oper) cs b, ops[j]? = some o → o.op ≠ .select cs b) : ∀ (p : Plan) (U : List Nat) (listed : Array Bool) (a : Act) (w : World), S w → Left ops listed U → wpP P ops S st Q p a w →
    (okN P st ops U true p = true → wpAnyI P ops S st Q U.length listed a w) ∧
    (okN P st ops U false p = true → ∀ c ∈ p.cands, ∃ oc, ops[c]? = some oc ∧ opI P ops S st Q oc (wpAnyI P ops S st Q (U.length - 1) (listed.setIfInBounds c true)) a w) := by
  intro p
  induction p with
  | done =>
    intro U listed a w hS hL h
    refine ⟨fun hok => ?_, fun hok => by simp [okN] at hok⟩
    simp only [okN, Bool.true_and, List.isEmpty_iff] at hok
    subst hok
    refine ⟨?_, h⟩
    rw [List.eq_nil_iff_forall_not_mem]
    intro j hj
    have := hL.mem hj
    cases this
  | one i r ih =>
    intro U listed a w hS hL h
    obtain ⟨o, ho, h⟩ := h
    have key : okN P st ops U false (.one i r) = true → ∀ c ∈ Plan.cands (.one i r), ∃ oc, ops[c]? = some oc ∧ opI P ops S st Q oc (wpAnyI P ops S st Q (U.length - 1) (listed.setIfInBounds c true)) a w := fun hok c hc => by
      simp only [Plan.cands, List.mem_singleton] at hc
      subst hc
      simp only [okN, Bool.and_eq_true, List.contains_iff_mem] at hok
      obtain ⟨⟨hi, _⟩, hr⟩ := hok
      refine ⟨o, ho, opI_mono hS (fun a' w' hS' hk' => ?_) h⟩
      have := (ih (U.erase c) _ a' w' hS' (hL.erase hi) hk').1 hr
      rwa [List.length_erase_of_mem hi] at this
    refine ⟨fun hok => ?_, key⟩
    have hok2 := hok
    simp only [okN, Bool.and_eq_true, Bool.not_true, Bool.false_or] at hok
    refine node_ok (C := [i]) hsel hok.1.2 hS hL (key ?_)
    simp only [okN, Bool.and_eq_true, Bool.not_false, Bool.true_or, and_true]
    exact ⟨hok.1.1, hok.2⟩
  | br i p q ihp ihq =>
    intro U listed a w hS hL h
    obtain ⟨⟨o, ho, hp⟩, hq⟩ := h
    have key : okN P st ops U false (.br i p q) = true → ∀ c ∈ Plan.cands (.br i p q), ∃ oc, ops[c]? = some oc ∧ opI P ops S st Q oc (wpAnyI P ops S st Q (U.length - 1) (listed.setIfInBounds c true)) a w := fun hok c hc => by
      simp only [okN, Bool.and_eq_true, List.contains_iff_mem] at hok
      obtain ⟨⟨⟨hi, _⟩, hkp⟩, hkq⟩ := hok
      simp only [Plan.cands, List.mem_cons] at hc
      rcases hc with rfl | hc
      · refine ⟨o, ho, opI_mono hS (fun a' w' hS' hk' => ?_) hp⟩
        have := (ihp (U.erase c) _ a' w' hS' (hL.erase hi) hk').1 hkp
        rwa [List.length_erase_of_mem hi] at this
      · exact (ihq U listed a w hS hL hq).2 hkq c hc
    refine ⟨fun hok => ?_, key⟩
    simp only [okN, Bool.and_eq_true, Bool.not_true, Bool.false_or] at hok
    refine node_ok (C := i :: q.cands) hsel hok.1.1.2 hS hL (key ?_)
    simp only [okN, Bool.and_eq_true, Bool.not_false, Bool.true_or, and_true]
    exact ⟨⟨hok.1.1.1, hok.1.2⟩, hok.2⟩

/-! ### with the operations in it -/
inductive PlanO where
  | done
  | one (o : Oper) (r : PlanO)
  | br (o : Oper) (p q : PlanO)
def planAt : List Oper → Nat → Oper
  | o :: _, 0 => o
  | _ :: l, n + 1 => planAt l n
  | [], _ => { dst := none, op := .move (.tmp 0), type := 0, pos := "", after := #[], guard := none }
def Plan.withOps (l : List Oper) : Plan → PlanO
  | .done => .done
  | .one i r => .one (planAt l i) (r.withOps l)
  | .br i p q => .br (planAt l i) (p.withOps l) (q.withOps l)
def wpO (P : Program) (ops : Array Oper) (S : World → Prop) (st : Op → Bool) (Q : Exit → Act → World → Prop) : PlanO → Act → World → Prop
  | .done => fun a w => Q .normal a w
  | .one o r => opI P ops S st Q o (wpO P ops S st Q r)
  | .br o p q => fun a w => opI P ops S st Q o (wpO P ops S st Q p) a w ∧ wpO P ops S st Q q a w
theorem planAt_get : ∀ {l : List Oper} {i : Nat}, i < l.length → l[i]? = some (planAt l i)
  | _ :: _, 0, _ => rfl
  | _ :: l, i + 1, h => by simpa [planAt] using planAt_get (l := l) (i := i) (by simpa using h)
theorem wpP_of_O {l : List Oper} : ∀ (p : Plan) (U : List Nat) (top : Bool) (a : Act) (w : World), S w → (∀ j ∈ U, j < l.length) → okN P st l.toArray U top p = true → wpO P l.toArray S st Q (p.withOps l) a w → wpP P l.toArray S st Q p a w := by
  intro p
  induction p with
  | done => intro U top a w _ _ _ h; exact h
  | one i r ih =>
    intro U top a w hS hU hok h
    simp only [okN, Bool.and_eq_true, List.contains_iff_mem] at hok
    refine ⟨planAt l i, by simpa using planAt_get (hU i hok.1.1), ?_⟩
    exact opI_mono hS (fun a' w' hS' hk => ih (U.erase i) true a' w' hS' (fun j hj => hU j (List.mem_of_mem_erase hj)) hok.2 hk) h
  | br i p q ihp ihq =>
    intro U top a w hS hU hok h
    simp only [okN, Bool.and_eq_true, List.contains_iff_mem] at hok
    obtain ⟨h1, h2⟩ := h
    refine ⟨⟨planAt l i, by simpa using planAt_get (hU i hok.1.1.1), ?_⟩, ihq U false a w hS hU hok.2 h2⟩
    exact opI_mono hS (fun a' w' hS' hk => ihp (U.erase i) true a' w' hS' (fun j hj => hU j (List.mem_of_mem_erase hj)) hok.1.2 hk) h1

/-- **A REGION THAT DRAWS ITS ORDER, BY A PLAN.** -/
theorem wp_region_plan (S : World → Prop) (st : Op → Bool) (p : Plan) {id : Nat} {a : Act} {w : World} {l : List Oper} (hm : P.follows .mixedOrders = true) (hB : (Region.noSelect l.toArray && okN P st l.toArray (List.range l.length) true p) = true) (hS : S w.drew)
    (h : wpO P l.toArray S st Q (p.withOps l) a w.drew) : (Code.region id l.toArray true).wp P Q a w := by
  simp only [Bool.and_eq_true] at hB
  obtain ⟨hsel, hok⟩ := hB
  refine wp_region_any hm (wpAny_of_I (S := S) (st := st) _ _ _ _ hS ?_)
  have hP := wpP_of_O p (List.range l.length) true a w.drew hS (fun j hj => List.mem_range.1 hj) hok h
  have := (plan_sound (Region.noSelect_spec hsel) p (List.range l.length) (Array.replicate l.toArray.size false) a w.drew hS ⟨by simp, fun j hj => by
    have hj' : j < l.length := by simpa using hj
    simp [hj'], List.nodup_range, fun j hj => by simpa using hj⟩ hP).1 hok
  simpa using this

/-! ### its steps -/
theorem wpO_one {o : Oper} {r : PlanO} {a : Act} {w : World} (hS : S w) (h : wpI P ops S st (fun _ a w => S w ∧ wpO P ops S st Q r a w) [o] a w) : wpO P ops S st Q (.one o r) a w := opI_one h hS
theorem wpO_br {o : Oper} {p q : PlanO} {a : Act} {w : World} (hS : S w) (h : wpI P ops S st (fun _ a w => S w ∧ wpO P ops S st Q p a w) [o] a w) (h2 : wpO P ops S st Q q a w) : wpO P ops S st Q (.br o p q) a w := ⟨opI_one h hS, h2⟩
theorem wpO_done {a : Act} {w : World} (h : Q .normal a w) : wpO P ops S st Q .done a w := h
end
end Go.Ord

/- Walk: the document's Unpack. -/
namespace Go.Own
/-- three of what the call has made, in whatever order -/
theorem Own.pick3 {w0 w : World} {L : List Res} (h : Own w0 w L) (i j k : Nat) {x y z : Res} (hi : L[i]? = some x) (hj : L[j]? = some y) (hk : L[k]? = some z) (hij : i ≠ j) (hik : i ≠ k) (hjk : j ≠ k) : Own w0 w [x, y, z] := by
  have ap : ∀ {a b : Nat} {p q : Res}, L[a]? = some p → L[b]? = some q → a ≠ b → Apart p q := by
    intro a b p q ha hb hab
    obtain ⟨la, rfl⟩ := List.getElem?_eq_some_iff.1 ha
    obtain ⟨lb, rfl⟩ := List.getElem?_eq_some_iff.1 hb
    have hp := List.pairwise_iff_getElem.1 h.apart
    rcases Nat.lt_or_gt_of_ne hab with hlt | hlt
    · exact hp a b la lb hlt
    · exact (hp b a lb la hlt).symm
  refine ⟨h.below, fun r hr => ?_, ?_⟩
  · simp only [List.mem_cons, List.not_mem_nil, or_false] at hr
    rcases hr with rfl | rfl | rfl
    · exact h.mem _ (List.mem_of_getElem? hi)
    · exact h.mem _ (List.mem_of_getElem? hj)
    · exact h.mem _ (List.mem_of_getElem? hk)
  · refine List.Pairwise.cons (fun q hq => ?_) (List.Pairwise.cons (fun q hq => ?_) (List.pairwise_singleton _ _))
    · simp only [List.mem_cons, List.not_mem_nil, or_false] at hq
      rcases hq with rfl | rfl
      · exact ap hi hj hij
      · exact ap hi hk hik
    · simp only [List.mem_cons, List.not_mem_nil, or_false] at hq
      subst hq
      exact ap hj hk hjk
end Go.Own
namespace Go.Proofs.YtniibdglodnhoaaGreatDoor
open Go.RowKit Go.Own Go.Bv Go.Ord Go.Eq Go.Opn Go.Pb Go.Mt

set_option maxHeartbeats 8000000 in
set_option maxRecDepth 100000 in
theorem runpack_calls (a : Option Addr) (n cap : Nat) (b : List (BitVec 8)) (most : Int) (w : World) (hR : Rd w 1 a n cap (u8s b)) (hn : n ≤ 10000000) (T : List (BitVec 8)) (E : Int) (M : Nat) (hT : Go.Pz.unT b most = T) (hE : Go.Pz.unE b most = E) (hM : T.length = M) :
    Calls Tryz.prog 26 #[.slice a n cap, .int .i64 most] w fun e w' => ∃ a' c', e = .returned (.tuple #[.slice a' M c', .int .i64 E]) ∧ Below w.heap.size w w' ∧ w'.ownsRow w.heap.size 5 1 (.slice a' M c') M (u8s T) := by
  have hO := Own.start w
  have hlen : b.length = n := by have := hR.len; rw [u8s_length] at this; omega
  have nilT : E ≠ 0 → T = [] ∧ M = 0 := fun h => by
    have h1 : T = [] := by rw [← hT]; unfold Go.Pz.unT; rw [hE, if_neg h]
    exact ⟨h1, by rw [← hM, h1]; rfl⟩
  by_cases h1 : most < 0
  · have e1 : E = 1 := by rw [← hE]; unfold Go.Pz.unE; rw [if_pos h1]
    obtain ⟨rfl, rfl⟩ := nilT (by rw [e1]; decide)
    subst e1
    have d1 : decide (most < 0) = true := decide_eq_true h1
    clear hR hT hE hM hlen nilT h1
    generalize hW : w = wn at hO ⊢
    clear hW w
    go_enter Tryz.func26, Tryz.ntmps26
    go_wp2
    go_ret2
    exact ⟨none, 0, rfl, hO.below, World.ownsRow_nil _ _ _ _⟩
  have d1 : decide (most < 0) = false := decide_eq_false h1
  obtain ⟨V, hV⟩ : ∃ V, Go.Pz.longV b = V := ⟨_, rfl⟩
  obtain ⟨LE, hLE⟩ : ∃ V, Go.Pz.longE b = V := ⟨_, rfl⟩
  have HLO := Lib.hid (fun w h => rplong_calls a n cap b w h V LE hV hLE)
  by_cases h2 : LE ≠ 0
  · have e1 : E = LE := by rw [← hE]; unfold Go.Pz.unE; rw [if_neg h1, hLE, if_pos h2]
    obtain ⟨rfl, rfl⟩ := nilT (by rw [e1]; exact h2)
    subst e1
    have d2 : (E == 0) = false := by simpa using h2
    have d2' : decide (E = 0) = false := by simpa using h2
    have HR := Lib.hid hR
    clear hR hT hE hM hlen nilT h1 hV hLE h2
    generalize hW : w = wn at hO HR ⊢
    clear hW w
    go_enter Tryz.func26, Tryz.ntmps26
    go_wp2_with (first
      | (go_at_call 48; refine (HLO.out _ (hO.rd HR.out)).mono ?_; rintro e w1 ⟨rfl, hb⟩; replace hO := hO.call hb; clear hb))
    go_ret2
    exact ⟨none, 0, rfl, hO.below, World.ownsRow_nil _ _ _ _⟩
  have h2' : LE = 0 := Classical.not_not.1 h2
  rw [h2'] at HLO
  have h9 : 9 ≤ n := by
    rw [h2'] at hLE
    unfold Go.Pz.longE at hLE
    split at hLE
    · cases hLE
    · omega
  have hV65 : V ≤ 65536 := by rw [← hV]; exact longV_le b
  by_cases h3 : most < (V : Int)
  · have e1 : E = 3 := by rw [← hE]; unfold Go.Pz.unE; rw [if_neg h1, hLE, if_neg h2, hV, if_pos h3]
    obtain ⟨rfl, rfl⟩ := nilT (by rw [e1]; decide)
    subst e1
    have d2 : decide (most < (V : Int)) = true := decide_eq_true h3
    have HR := Lib.hid hR
    clear hR hT hE hM hlen nilT h1 hV hLE h2 h2' h3
    generalize hW : w = wn at hO HR ⊢
    clear hW w
    go_enter Tryz.func26, Tryz.ntmps26
    go_wp2_with (first
      | (go_at_call 48; refine (HLO.out _ (hO.rd HR.out)).mono ?_; rintro e w1 ⟨rfl, hb⟩; replace hO := hO.call hb; clear hb))
    go_ret2
    exact ⟨none, 0, rfl, hO.below, World.ownsRow_nil _ _ _ _⟩
  have d2 : decide (most < (V : Int)) = false := decide_eq_false h3
  obtain ⟨n4, rfl⟩ : ∃ n4, n = n4 + 4 := ⟨n - 4, by omega⟩
  obtain ⟨ba, off, rfl⟩ := hR.place (by omega)
  have hR4 := rd_four hR (by omega)
  rw [Nat.add_sub_cancel] at hR4
  obtain ⟨b4, hb4⟩ : ∃ x, b.drop 4 = x := ⟨_, rfl⟩
  rw [hb4] at hR4
  have hl4 : b4.length = n4 := by rw [← hb4, List.length_drop, hlen, Nat.add_sub_cancel]
  have hmc : n4 + 4 ≤ cap := hR.le
  have hmm := Nat.le_trans hR.le hR.max
  unfold maxLen at hmm
  have hE4 : E = if Go.Kc.opE 528 b4 ≠ 0 then 2 else if (Go.Pz.uloop b4 V V ⟨Go.Kc.open_ 528 b4, false⟩ []).1.bad = true ∨ (Go.Pz.uloop b4 V V ⟨Go.Kc.open_ 528 b4, false⟩ []).1.r.used ≠ n4 then 2 else 0 := by
    rw [← hE]; unfold Go.Pz.unE; rw [if_neg h1, hLE, if_neg h2, hV, if_neg h3, hb4, hlen, Nat.add_sub_cancel]
  by_cases h40 : Go.Kc.opE 528 b4 = 0
  rotate_left
  · have h4 : Go.Kc.opE 528 b4 ≠ 0 := h40
    rw [if_pos h4] at hE4
    obtain ⟨rfl, rfl⟩ := nilT (by rw [hE4]; decide)
    subst hE4
    have h42 : Go.Kc.opE 528 b4 = 2 := by
      unfold Go.Kc.opE at h4 ⊢
      rw [if_pos (by omega)] at h4 ⊢
      split at h4
      · exact absurd rfl h4
      · rename_i hmo; rw [if_neg hmo]
    have HNR := Lib.hid (fun w h => rstart_bad 528 (some ⟨ba, off + 4, none⟩) n4 (cap - 4) b4 w h 2 h42 (by decide))
    have HR := Lib.hid hR
    have HR4 := Lib.hid hR4
    clear hR hT hE hM hlen nilT h1 hV hLE h2 h2' h3 hR4 hl4 hb4 h4 h40 h42
    generalize hW : w = wn at hO HR HR4 ⊢
    clear hW w
    go_enter Tryz.func26, Tryz.ntmps26
    go_wp2_with (first
      | ((with_reducible refine gG ?_); refine wpList_want rfl ?_)
      | (go_at_call 48; refine (HLO.out _ (hO.rd HR.out)).mono ?_; rintro e w1 ⟨rfl, hb⟩; replace hO := hO.call hb; clear hb)
      | (go_at_call 49; refine (HNR.out _ (hO.rd HR4.out)).mono ?_; rintro e ww ⟨rfl, hb⟩; replace hO := hO.call hb; clear hb)
      | ((with_reducible refine gAlloc ?_); refine own_alloc hO _ _ irgz ?_; clear hO; intro rb ww hO)
      | ((with_reducible refine gStore ?_); first | (refine stX hO 0 rfl rfl rfl rfl rfl (tS rfl) ?_; clear hO; intro ww hO) | (refine stC hO 0 rfl rfl rfl (ltb rfl) rfl (tS rfl) ?_; clear hO; intro ww hO))
      | ((with_reducible refine gLoad ?_); first | refine ldX hO 0 rfl rfl (tA rfl) (tS rfl) ?_ | refine ldC hO 0 rfl rfl (tA rfl) rfl ?_))
    go_ret2
    exact ⟨none, 0, rfl, hO.below, World.ownsRow_nil _ _ _ _⟩
  · rw [if_neg (fun h => h h40)] at hE4
    have ho : Go.Kc.mayOpen b4 := by obtain ⟨_, _, _, h⟩ := Go.Kc.opE_ok h40; exact h
    have hT4 : T = if E = 0 then (Go.Pz.uloop b4 V V ⟨Go.Kc.open_ 528 b4, false⟩ []).2 else [] := by rw [← hT]; unfold Go.Pz.unT; rw [hE, hV, hb4]
    obtain ⟨z, hz⟩ : ∃ z, Go.Pz.rloop b4 V V (Go.Kc.open_ 528 b4) [] = z := ⟨_, rfl⟩
    have hrel := Go.Pz.rloop_uloop (b := b4) (n := V) V (Go.Kc.open_ 528 b4) [] trivial (by rw [told_nil]; omega) (by omega)
    rw [show text [] = [] from rfl, hz] at hrel
    generalize Go.Pz.uloop b4 V V ⟨Go.Kc.open_ 528 b4, false⟩ [] = U at hrel hE4 hT4
    obtain ⟨code, hcode⟩ : ∃ c, Go.Kc.val ((b4.drop 1).take 4) = c := ⟨_, rfl⟩
    have HNR := Lib.hid (fun w h => rstart_ok 528 (by omega) (some ⟨ba, off + 4, none⟩) n4 (cap - 4) b4 w h ho code hcode)
    have HCO : Hid ((Go.Kc.open_ 528 b4).code = code) := hcode
    have HOP := Lib.hid (Go.Kc.rok_open (n := 528) ho)
    have HE4 := Lib.hid hE4
    have HT4 := Lib.hid hT4
    have HREL := Lib.hid hrel
    have HZ := Lib.hid hz
    have HMM := Lib.hid hM
    have HR := Lib.hid hR
    have HR4 := Lib.hid hR4
    have HB4 := Lib.hid hl4
    have HN4 : Hid (n4 ≤ 10000000) := by show _ ≤ _; omega
    have HNIL := Lib.hid nilT
    have d41 : decide ((4 : Int) ≤ ((n4 : Int) + 4)) = true := decide_eq_true (by omega)
    clear hR hT hE hM hlen nilT h1 hV hLE h2 h2' h3 hR4 hl4 hb4 h40 ho hE4 hT4 hrel hz hcode
    generalize hW : w = wn at hO HR HR4 ⊢
    clear hW w
    go_enter Tryz.func26, Tryz.ntmps26
    go_wp2_with (first
      | ((with_reducible refine gG ?_); refine wpList_want rfl ?_)
      | (go_at_call 48; refine (HLO.out _ (hO.rd HR.out)).mono ?_; rintro e w1 ⟨rfl, hb⟩; replace hO := hO.call hb; clear hb)
      | (go_at_call 49; refine (HNR.out _ (hO.rd HR4.out)).mono ?_; rintro e ww ⟨aP, cP, rfl, hb, hr⟩; replace hO := hO.addRow hb hr; clear hb hr)
      | ((with_reducible refine gAlloc ?_); refine own_alloc hO _ _ irgz ?_; clear hO; intro rb ww hO)
      | ((with_reducible refine gStore ?_); first | (refine stX hO 0 rfl rfl rfl rfl rfl (tS rfl) ?_; clear hO; intro ww hO) | (refine stC hO 0 rfl rfl rfl (ltb rfl) rfl (tS rfl) ?_; clear hO; intro ww hO))
      | ((with_reducible refine gLoad ?_); first | refine ldX hO 0 rfl rfl (tA rfl) (tS rfl) ?_ | refine ldC hO 0 rfl rfl (tA rfl) rfl ?_))
    have hO2 : Own wn ww [.sl 3 1 (.slice aP 528 cP) 528 (i64s (Go.Kc.open_ 528 b4).p), .blk rb (.cells (rgC (.slice aP 528 cP) (Go.Kc.open_ 528 b4).span (Go.Kc.open_ 528 b4).code (Go.Kc.open_ 528 b4).used) 73 (0,0)), .sl 78 3 (.slice none 0 0) 0 (tks [])] := by
      have h1 : Own wn ww [.blk rb (.cells (rgC (.slice aP 528 cP) (Go.Kc.open_ 528 b4).span (Go.Kc.open_ 528 b4).code (Go.Kc.open_ 528 b4).used) 73 (0,0)), .sl 3 1 (.slice aP 528 cP) 528 (i64s (Go.Kc.open_ 528 b4).p)] := by rw [HCO.out]; exact hO
      have h := h1.add (Below.refl _ _) (r := .sl 78 3 (.slice none 0 0) 0 (tks [])) (World.ownsRow_nil _ _ _ _)
      exact h.rot3.swap
    clear hO
    have hO := hO2
    clear hO2 HNR HLO
    go_loopg [9, 10] (V + 1) (fun mm s9 s10 wr => ∃ (r : Go.Kc.Rr) (l : List Tok) (K S f : Nat) (aO : Option Addr) (cO : Nat) (aP : Option Addr) (cP : Nat), mm = V - S + 1 ∧ s9 = .slice aO K cO ∧ s10 = .int .i64 (S : Int) ∧ K ≤ S ∧ S ≤ V + 17 ∧ K ≤ V ∧ Hid (l.length = K) ∧ Hid (told l = S) ∧ Hid (Go.Pz.rloop b4 V f r l = z) ∧ Hid (V ≤ S + f) ∧ Hid (Go.Kc.Rok 528 b4 r) ∧
      Own wn wr [.sl 3 1 (.slice aP 528 cP) 528 (i64s r.p), .blk rb (.cells (rgC (.slice aP 528 cP) r.span r.code r.used) 73 (0,0)), .sl 78 3 (.slice aO K cO) K (tks l)])
    case atStart => exact ⟨Go.Kc.open_ 528 b4, [], 0, 0, V, none, 0, aP, cP, by simp, rfl, rfl, by omega, by omega, by omega, rfl, rfl, HZ.out, by show _ ≤ _; omega, HOP.out, hO⟩
    case round =>
      obtain ⟨r, l, K, S, f, aO, cO, aP, cP, rfl, rfl, rfl, hKS, hSV, hKV, HK, HS, HF, HVf, HRK, hO1⟩ := hrel
      clear hO
      have hO := hO1
      clear hO1
      by_cases hlt : S < V
      · have d5 : decide ((S : Int) < (V : Int)) = true := decide_eq_true (by omega)
        obtain ⟨g, rfl⟩ : ∃ g, f = g + 1 := ⟨f - 1, by have := HVf.out; omega⟩
        obtain ⟨x, hx⟩ : ∃ x, Go.Pz.rtok b4 r = x := ⟨_, rfl⟩
        have hlt2 : told l < V := by rw [HS.out]; exact hlt
        have HTC := Lib.hid (fun (w : World) (L : List Res) hO => rtoken_calls (w0 := wn) (w := w) (L := L) (aP := aP) (cP := cP) b4 r HRK.out (some ⟨ba, off + 4, none⟩) n4 (cap - 4) HR4.out HN4.out x hx hO)
        cases x with
        | none =>
          have hz : z = none := by rw [← HF.out]; exact Go.Pz.rloop_no hlt2 hx
          have he := HE4.out
          rw [if_pos (.inl (HREL.out.1 hz))] at he
          obtain ⟨e1, e2⟩ := HNIL.out (by rw [he]; decide)
          subst e1
          subst e2
          subst he
          clear hx hlt2 hz HF HVf HK HS HE4 HT4 HREL HZ HMM HNIL HRK HOP HCO
          go_wp2_with (first
            | ((with_reducible refine gG ?_); refine wpList_want rfl ?_))
          refine wp_region_plan (fun w' => Own wn w' [.blk rb (.cells (rgC (.slice aP 528 cP) r.span r.code r.used) 73 (0,0))]) (fun op => match op with | .load _ _ => true | _ => false) (.one 0 (.one 1 (.one 2 (.br 3 (.one 4 (.one 5 (.one 6 (.one 7 (.br 8 (.one 9 (.one 10 (.one 11 (.one 12 (.done))))) (.one 9 (.one 8 (.one 10 (.one 11 (.one 12 (.done))))))))))) (.br 8 (.br 3 (.one 4 (.one 5 (.one 6 (.one 7 (.one 9 (.one 10 (.one 11 (.one 12 (.done))))))))) (.one 9 (.one 3 (.one 4 (.one 5 (.one 6 (.one 7 (.one 10 (.one 11 (.one 12 (.done))))))))))) (.one 9 (.br 3 (.one 4 (.one 5 (.one 6 (.one 7 (.one 8 (.one 10 (.one 11 (.one 12 (.done))))))))) (.one 8 (.one 3 (.one 4 (.one 5 (.one 6 (.one 7 (.one 10 (.one 11 (.one 12 (.done))))))))))))))))) (by kernel_rfl) (by kernel_rfl) (hO.drew.only (by simp)) ?_
          dsimp only [Plan.withOps, planAt]
          replace hO := hO.drew
          generalize World.drew _ = wd at hO ⊢
          go_wp2_with (first
            | (((with_reducible refine gIL ?_); first | refine wpI_ldS (fun w' hS => hS.blk 0 rfl) rfl rfl (tA rfl) (tS rfl) ?_); first | (refine wpI_act (by simp only [Act.put, List.setIfInBounds_toArray, List.set_cons_succ, List.set_cons_zero]; rfl) ?_) | skip)
            | (go_at_call 50; (first | refine (HTC.out _ _ hO).mono ?_ | refine (HTC.out _ _ hO.swap).mono ?_ | refine (HTC.out _ _ hO.rot3.rot3).mono ?_); rintro e ww ⟨t0, a6, c6, s1, s2, s3, rfl, hO2⟩; clear hO; have hO := hO2; clear hO2)
            | ((with_reducible refine gAlloc (T := 78) ?_); refine own_alloc hO _ _ itz ?_; clear hO; intro tb ww hO)
            | ((with_reducible refine gAlloc (T := 73) ?_); refine own_alloc hO _ _ irgz ?_; clear hO; intro nx ww hO)
            | ((with_reducible refine gLoad ?_); first | refine ldX hO 0 rfl rfl (tA rfl) (tS rfl) ?_ | refine ldC hO 0 rfl rfl (tA rfl) rfl ?_ | refine ldX hO 1 rfl rfl (tA rfl) (tS rfl) ?_ | refine ldC hO 1 rfl rfl (tA rfl) rfl ?_ | refine ldX hO 2 rfl rfl (tA rfl) (tS rfl) ?_ | refine ldC hO 2 rfl rfl (tA rfl) rfl ?_ | refine ldX hO 3 rfl rfl (tA rfl) (tS rfl) ?_ | refine ldC hO 3 rfl rfl (tA rfl) rfl ?_ | refine ldX hO 4 rfl rfl (tA rfl) (tS rfl) ?_ | refine ldC hO 4 rfl rfl (tA rfl) rfl ?_ | refine ldX hO 5 rfl rfl (tA rfl) (tS rfl) ?_ | refine ldC hO 5 rfl rfl (tA rfl) rfl ?_)
            | ((with_reducible refine gStore ?_); first | (refine stX hO 0 rfl rfl rfl rfl rfl (tS rfl) ?_; clear hO; intro ww hO) | (refine stC hO 0 rfl rfl rfl (ltb rfl) rfl (tS rfl) ?_; clear hO; intro ww hO) | (refine stX hO 1 rfl rfl rfl rfl rfl (tS rfl) ?_; clear hO; intro ww hO) | (refine stC hO 1 rfl rfl rfl (ltb rfl) rfl (tS rfl) ?_; clear hO; intro ww hO) | (refine stX hO 2 rfl rfl rfl rfl rfl (tS rfl) ?_; clear hO; intro ww hO) | (refine stC hO 2 rfl rfl rfl (ltb rfl) rfl (tS rfl) ?_; clear hO; intro ww hO) | (refine stX hO 3 rfl rfl rfl rfl rfl (tS rfl) ?_; clear hO; intro ww hO) | (refine stC hO 3 rfl rfl rfl (ltb rfl) rfl (tS rfl) ?_; clear hO; intro ww hO) | (refine stX hO 4 rfl rfl rfl rfl rfl (tS rfl) ?_; clear hO; intro ww hO) | (refine stC hO 4 rfl rfl rfl (ltb rfl) rfl (tS rfl) ?_; clear hO; intro ww hO) | (refine stX hO 5 rfl rfl rfl rfl rfl (tS rfl) ?_; clear hO; intro ww hO) | (refine stC hO 5 rfl rfl rfl (ltb rfl) rfl (tS rfl) ?_; clear hO; intro ww hO))
            | ((with_reducible refine wpO_one ?_ ?_); exact hO.only (by simp)) | ((with_reducible refine wpO_br ?_ ?_ ?_); exact hO.only (by simp)) | ((with_reducible refine wpI_nilS ?_ ?_); exact hO.only (by simp)) | (with_reducible refine wpO_done ?_)
            | ((with_reducible refine gI ?_); refine wpI_step rfl rfl (by kernel_rfl) ?_; intro K hK; have HK := Lib.hid hK; clear hK) | ((with_reducible refine gI ?_); first | refine wpI_skip rfl ?_ | refine wpI_want rfl ?_) | ((with_reducible refine gOnlyK HK.out ?_ ?_); exact hO.only (by simp); clear HK K; first | (refine wpI_act (by simp only [Act.put, List.setIfInBounds_toArray, List.set_cons_succ, List.set_cons_zero]; rfl) ?_) | skip) | (with_reducible refine wpI_nil ?_))
          all_goals
            go_ret2
            exact ⟨none, 0, rfl, hO.below, World.ownsRow_nil _ _ _ _⟩
        | some x =>
          obtain ⟨t, u⟩ := x
          obtain ⟨z1, z2, z3, z4⟩ := Go.Pz.rtok_size hx
          have HSX : Hid ((if t.len < 1 then 1 else t.len) = (t.size : Int)) := z4.symm
          have HF2 : Hid (Go.Pz.rloop b4 V g u (l ++ [t]) = z) := by show _ = _; rw [← HF.out]; exact (Go.Pz.rloop_go hlt2 hx).symm
          have HRK2 := Lib.hid (Go.Pz.rtok_rok hx HRK.out)
          have HK2 : Hid ((l ++ [t]).length = K + 1) := by show _ = _; rw [List.length_append, List.length_singleton, HK.out]
          have HS2 : Hid (told (l ++ [t]) = S + t.size) := by show _ = _; rw [told_append, told_one, HS.out]
          have HTK : Hid (tks (l ++ [t]) = tks l ++ tks [t]) := tks_append l [t]
          have HVG : Hid (V ≤ S + t.size + g) := by have := HVf.out; show _ ≤ _; omega
          obtain ⟨Z, hZ⟩ : ∃ Z, t.size = Z := ⟨_, rfl⟩
          rw [hZ] at HSX HS2 HVG z1 z2
          clear hx hlt2 z3 z4 HF HVf HRK HK HS hZ
          go_wp2_with (first
            | ((with_reducible refine gG ?_); refine wpList_want rfl ?_))
          refine wp_region_plan (fun w' => Own wn w' [.blk rb (.cells (rgC (.slice aP 528 cP) r.span r.code r.used) 73 (0,0))]) (fun op => match op with | .load _ _ => true | _ => false) (.one 0 (.one 1 (.one 2 (.br 3 (.one 4 (.one 5 (.one 6 (.one 7 (.br 8 (.one 9 (.one 10 (.one 11 (.one 12 (.done))))) (.one 9 (.one 8 (.one 10 (.one 11 (.one 12 (.done))))))))))) (.br 8 (.br 3 (.one 4 (.one 5 (.one 6 (.one 7 (.one 9 (.one 10 (.one 11 (.one 12 (.done))))))))) (.one 9 (.one 3 (.one 4 (.one 5 (.one 6 (.one 7 (.one 10 (.one 11 (.one 12 (.done))))))))))) (.one 9 (.br 3 (.one 4 (.one 5 (.one 6 (.one 7 (.one 8 (.one 10 (.one 11 (.one 12 (.done))))))))) (.one 8 (.one 3 (.one 4 (.one 5 (.one 6 (.one 7 (.one 10 (.one 11 (.one 12 (.done))))))))))))))))) (by kernel_rfl) (by kernel_rfl) (hO.drew.only (by simp)) ?_
          dsimp only [Plan.withOps, planAt]
          replace hO := hO.drew
          generalize World.drew _ = wd at hO ⊢
          go_wp2_with (first
            | (((with_reducible refine gIL ?_); first | refine wpI_ldS (fun w' hS => hS.blk 0 rfl) rfl rfl (tA rfl) (tS rfl) ?_); first | (refine wpI_act (by simp only [Act.put, List.setIfInBounds_toArray, List.set_cons_succ, List.set_cons_zero]; rfl) ?_) | skip)
            | (go_at_call 50; (first | refine (HTC.out _ _ hO).mono ?_ | refine (HTC.out _ _ hO.swap).mono ?_ | refine (HTC.out _ _ hO.rot3.rot3).mono ?_); rintro e ww ⟨a6, c6, rfl, hO2⟩; clear hO; have hO := hO2; clear hO2)
            | ((with_reducible refine gAlloc (T := 78) ?_); refine own_alloc hO _ _ itz ?_; clear hO; intro tb ww hO)
            | ((with_reducible refine gAlloc (T := 73) ?_); refine own_alloc hO _ _ irgz ?_; clear hO; intro nx ww hO)
            | ((with_reducible refine gLoad ?_); first | refine ldX hO 0 rfl rfl (tA rfl) (tS rfl) ?_ | refine ldC hO 0 rfl rfl (tA rfl) rfl ?_ | refine ldX hO 1 rfl rfl (tA rfl) (tS rfl) ?_ | refine ldC hO 1 rfl rfl (tA rfl) rfl ?_ | refine ldX hO 2 rfl rfl (tA rfl) (tS rfl) ?_ | refine ldC hO 2 rfl rfl (tA rfl) rfl ?_ | refine ldX hO 3 rfl rfl (tA rfl) (tS rfl) ?_ | refine ldC hO 3 rfl rfl (tA rfl) rfl ?_ | refine ldX hO 4 rfl rfl (tA rfl) (tS rfl) ?_ | refine ldC hO 4 rfl rfl (tA rfl) rfl ?_ | refine ldX hO 5 rfl rfl (tA rfl) (tS rfl) ?_ | refine ldC hO 5 rfl rfl (tA rfl) rfl ?_)
            | ((with_reducible refine gStore ?_); first | (refine stX hO 0 rfl rfl rfl rfl rfl (tS rfl) ?_; clear hO; intro ww hO) | (refine stC hO 0 rfl rfl rfl (ltb rfl) rfl (tS rfl) ?_; clear hO; intro ww hO) | (refine stX hO 1 rfl rfl rfl rfl rfl (tS rfl) ?_; clear hO; intro ww hO) | (refine stC hO 1 rfl rfl rfl (ltb rfl) rfl (tS rfl) ?_; clear hO; intro ww hO) | (refine stX hO 2 rfl rfl rfl rfl rfl (tS rfl) ?_; clear hO; intro ww hO) | (refine stC hO 2 rfl rfl rfl (ltb rfl) rfl (tS rfl) ?_; clear hO; intro ww hO) | (refine stX hO 3 rfl rfl rfl rfl rfl (tS rfl) ?_; clear hO; intro ww hO) | (refine stC hO 3 rfl rfl rfl (ltb rfl) rfl (tS rfl) ?_; clear hO; intro ww hO) | (refine stX hO 4 rfl rfl rfl rfl rfl (tS rfl) ?_; clear hO; intro ww hO) | (refine stC hO 4 rfl rfl rfl (ltb rfl) rfl (tS rfl) ?_; clear hO; intro ww hO) | (refine stX hO 5 rfl rfl rfl rfl rfl (tS rfl) ?_; clear hO; intro ww hO) | (refine stC hO 5 rfl rfl rfl (ltb rfl) rfl (tS rfl) ?_; clear hO; intro ww hO))
            | ((with_reducible refine gBuild (T := 76) ?_); refine own_build hO 76 1 _ etk t.C (by omega) (by omega) (by kernel_rfl) rfl ?_; clear hO; intro g3 ww hO)
            | ((with_reducible refine gAppend ?_); refine own_append hO 5 _ _ 76 etk rfl rfl rfl (hO.rdAt 0 rfl) (tks_one [t]) (K + 1) rfl (by simp [maxLen]; omega) (by omega) ?_; clear hO; intro a2 c2 ww hO)
            | ((with_reducible refine gMax ?_); refine maxV _ HSX.out rfl rfl ?_)
            | ((with_reducible refine wpO_one ?_ ?_); exact hO.only (by simp)) | ((with_reducible refine wpO_br ?_ ?_ ?_); exact hO.only (by simp)) | ((with_reducible refine wpI_nilS ?_ ?_); exact hO.only (by simp)) | (with_reducible refine wpO_done ?_)
            | ((with_reducible refine gI ?_); refine wpI_step rfl rfl (by kernel_rfl) ?_; intro K hK; have HK := Lib.hid hK; clear hK) | ((with_reducible refine gI ?_); first | refine wpI_skip rfl ?_ | refine wpI_want rfl ?_) | ((with_reducible refine gOnlyK HK.out ?_ ?_); exact hO.only (by simp); clear HK K; first | (refine wpI_act (by simp only [Act.put, List.setIfInBounds_toArray, List.set_cons_succ, List.set_cons_zero]; rfl) ?_) | skip) | (with_reducible refine wpI_nil ?_))
          all_goals
            go_roundg (V - (S + Z) + 1)
            case measure => omega
            case rel => first | exact ⟨u, l ++ [t], K + 1, S + Z, g, a2, c2, a6, c6, rfl, rfl, by go_num, by omega, by omega, by omega, HK2.out, HS2.out, HF2.out, HVG.out, HRK2.out, by rw [HTK.out]; exact hO.pick3 3 4 5 rfl rfl rfl (by decide) (by decide) (by decide)⟩ | exact ⟨u, l ++ [t], K + 1, S + Z, g, a2, c2, a6, c6, rfl, rfl, by go_num, by omega, by omega, by omega, HK2.out, HS2.out, HF2.out, HVG.out, HRK2.out, by rw [HTK.out]; exact hO.pick3 2 4 5 rfl rfl rfl (by decide) (by decide) (by decide)⟩ | exact ⟨u, l ++ [t], K + 1, S + Z, g, a2, c2, a6, c6, rfl, rfl, by go_num, by omega, by omega, by omega, HK2.out, HS2.out, HF2.out, HVG.out, HRK2.out, by rw [HTK.out]; exact hO.pick3 1 4 5 rfl rfl rfl (by decide) (by decide) (by decide)⟩
      · have hlt2 : ¬ told l < V := by rw [HS.out]; exact hlt
        have d5 : decide ((S : Int) < (V : Int)) = false := decide_eq_false (by omega)
        have hz : z = some (r, l) := by rw [← HF.out]; exact Go.Pz.rloop_end hlt2 f
        obtain ⟨g1, g2⟩ := HREL.out.2 r l hz
        have he := HE4.out
        have ht := HT4.out
        by_cases hok : okFrom 0 l ∧ told l ≤ V
        · have hU := g1 hok
          rw [hU] at he ht
          dsimp only at he ht
          obtain rfl : S = V := by have := HS.out; omega
          have HTX := Lib.hid (fun w h => rtext_ok aO K cO l (S : Int) S HS.out w h (by omega) hok.1 (by omega) (by omega))
          by_cases hu : r.used = n4
          · rw [if_neg (by rintro (h | h); cases h; exact h hu)] at he
            rw [he, if_pos rfl] at ht
            subst ht
            subst he
            obtain rfl : M = S := by rw [← HMM.out, text_length hok.1, HS.out]
            have d6 : decide ((r.used : Int) = ((n4 : Int) + 4) - 4) = true := decide_eq_true (by omega)
            have d6' : decide ((r.used : Int) = (n4 : Int)) = true := decide_eq_true (by omega)
            have d7 : ((r.used : Int) != (n4 : Int)) = false := by simp [hu]
            have d8 : ((r.used : Int) == (n4 : Int)) = true := by simp [hu]
            clear hz g1 g2 hok hU hlt2 hu HF HVf HK HS HE4 HT4 HREL HZ HMM HNIL HRK HOP HCO
            go_wp2_with (first
              | ((with_reducible refine gG ?_); refine wpList_want rfl ?_)
              | ((with_reducible refine gLoad ?_); first | refine ldX hO 0 rfl rfl (tA rfl) (tS rfl) ?_ | refine ldC hO 0 rfl rfl (tA rfl) rfl ?_ | refine ldX hO 1 rfl rfl (tA rfl) (tS rfl) ?_ | refine ldC hO 1 rfl rfl (tA rfl) rfl ?_ | refine ldX hO 2 rfl rfl (tA rfl) (tS rfl) ?_ | refine ldC hO 2 rfl rfl (tA rfl) rfl ?_ | refine ldX hO 3 rfl rfl (tA rfl) (tS rfl) ?_ | refine ldC hO 3 rfl rfl (tA rfl) rfl ?_)
              | (go_at_call 51; refine (HTX.out _ (hO.rdAt 2 rfl)).mono ?_; rintro e ww ⟨a2, c2, rfl, hb, hr⟩; replace hO := hO.addRow hb hr; clear hb hr))
            go_ret2
            exact ⟨a2, c2, rfl, hO.below, hO.row 0 rfl⟩
          · rw [if_pos (.inr hu)] at he
            obtain ⟨e1, e2⟩ := HNIL.out (by rw [he]; decide)
            subst e1
            subst e2
            subst he
            have d6' : decide ((r.used : Int) = (n4 : Int)) = false := decide_eq_false (by omega)
            have d7 : ((r.used : Int) != (n4 : Int)) = true := by simp; omega
            have d8 : ((r.used : Int) == (n4 : Int)) = false := by simp; omega
            clear hz g1 g2 hok hU hlt2 hu HF HVf HK HS HE4 HT4 HREL HZ HMM HNIL HRK HOP HCO ht
            go_wp2_with (first
              | ((with_reducible refine gG ?_); refine wpList_want rfl ?_)
              | ((with_reducible refine gLoad ?_); first | refine ldX hO 0 rfl rfl (tA rfl) (tS rfl) ?_ | refine ldC hO 0 rfl rfl (tA rfl) rfl ?_ | refine ldX hO 1 rfl rfl (tA rfl) (tS rfl) ?_ | refine ldC hO 1 rfl rfl (tA rfl) rfl ?_ | refine ldX hO 2 rfl rfl (tA rfl) (tS rfl) ?_ | refine ldC hO 2 rfl rfl (tA rfl) rfl ?_ | refine ldX hO 3 rfl rfl (tA rfl) (tS rfl) ?_ | refine ldC hO 3 rfl rfl (tA rfl) rfl ?_)
              | (go_at_call 51; refine (HTX.out _ (hO.rdAt 2 rfl)).mono ?_; rintro e ww ⟨a2, c2, rfl, hb, hr⟩; replace hO := hO.addRow hb hr; clear hb hr))
            go_ret2
            exact ⟨none, 0, rfl, hO.below, World.ownsRow_nil _ _ _ _⟩
        · rw [if_pos (.inl (g2 hok))] at he
          obtain ⟨e1, e2⟩ := HNIL.out (by rw [he]; decide)
          subst e1
          subst e2
          subst he
          by_cases hk : okFrom 0 l
          · have HTX := Lib.hid (fun w h => rtext_long aO K cO l (V : Int) w h (by omega) hk (by omega) (.inl (by have : ¬ told l ≤ V := fun h => hok ⟨hk, h⟩; omega)))
            clear hz g1 g2 hok hk hlt2 HF HVf HK HS HE4 HT4 HREL HZ HMM HNIL HRK HOP HCO ht
            go_wp2_with (first
              | ((with_reducible refine gG ?_); refine wpList_want rfl ?_)
              | ((with_reducible refine gLoad ?_); first | refine ldX hO 0 rfl rfl (tA rfl) (tS rfl) ?_ | refine ldC hO 0 rfl rfl (tA rfl) rfl ?_ | refine ldX hO 1 rfl rfl (tA rfl) (tS rfl) ?_ | refine ldC hO 1 rfl rfl (tA rfl) rfl ?_ | refine ldX hO 2 rfl rfl (tA rfl) (tS rfl) ?_ | refine ldC hO 2 rfl rfl (tA rfl) rfl ?_ | refine ldX hO 3 rfl rfl (tA rfl) (tS rfl) ?_ | refine ldC hO 3 rfl rfl (tA rfl) rfl ?_)
              | (go_at_call 51; refine (HTX.out _ (hO.rdAt 2 rfl)).mono ?_; rintro e ww ⟨rfl, hb⟩; replace hO := hO.call hb; clear hb))
            go_ret2
            exact ⟨none, 0, rfl, hO.below, World.ownsRow_nil _ _ _ _⟩
          · have HTX := Lib.hid (fun w h => rtext_bad aO K cO l (V : Int) w h (.inl (.inr hk)))
            clear hz g1 g2 hok hk hlt2 HF HVf HK HS HE4 HT4 HREL HZ HMM HNIL HRK HOP HCO ht
            go_wp2_with (first
              | ((with_reducible refine gG ?_); refine wpList_want rfl ?_)
              | ((with_reducible refine gLoad ?_); first | refine ldX hO 0 rfl rfl (tA rfl) (tS rfl) ?_ | refine ldC hO 0 rfl rfl (tA rfl) rfl ?_ | refine ldX hO 1 rfl rfl (tA rfl) (tS rfl) ?_ | refine ldC hO 1 rfl rfl (tA rfl) rfl ?_ | refine ldX hO 2 rfl rfl (tA rfl) (tS rfl) ?_ | refine ldC hO 2 rfl rfl (tA rfl) rfl ?_ | refine ldX hO 3 rfl rfl (tA rfl) (tS rfl) ?_ | refine ldC hO 3 rfl rfl (tA rfl) rfl ?_)
              | (go_at_call 51; refine (HTX.out _ (hO.rdAt 2 rfl)).mono ?_; rintro e ww ⟨rfl, hb⟩; replace hO := hO.call hb; clear hb))
            go_ret2
            exact ⟨none, 0, rfl, hO.below, World.ownsRow_nil _ _ _ _⟩
end Go.Proofs.YtniibdglodnhoaaGreatDoor

/- The walk of the document's Of. -/
namespace Go.Proofs.YtniibdglodnhoaaGreatDoor
open Go.RowKit Go.Own Go.Bv Go.Ord Go.Eq

set_option maxHeartbeats 1000000 in
set_option maxRecDepth 100000 in
theorem rofno_calls (a : Option Addr) (n cap : Nat) (h16 : n ≠ 16) (w : World) :
    Calls Tryz.prog 45 #[.slice a n cap] w fun e w' => e = .returned (.tuple #[.agg St.zero.C, .int .i64 2]) ∧ Below w.heap.size w w' := by
  have hO := Own.start w
  have b0 : ((n : Int) != 16) = true := by simp; omega
  generalize hW : w = wn at hO ⊢
  clear hW w
  go_enter Tryz.func45, Tryz.ntmps45
  go_wp2_with (first
    | ((with_reducible refine gAlloc ?_); refine own_alloc hO 24 _ iwz ?_; clear hO; intro b w1 hO)
    | ((with_reducible refine gLoad ?_); first | refine ld_blk hO 0 rfl rfl rfl (tA rfl) ?_ | refine ld_all hO 0 rfl rfl (tA rfl) (tS rfl) ?_)
    | ((with_reducible refine gStore ?_); first | (refine st_blk hO 0 rfl rfl rfl (ltb rfl) rfl (tS rfl) ?_; clear hO; intro ww hO) | (refine st_all hO 0 rfl rfl rfl rfl rfl rfl (tS rfl) ?_; clear hO; intro ww hO)))
  refine bodyPost_ret (res_ct rfl _ _ b 24 St.zero.C (0,0) _ rfl (hO.blk 0 rfl) Tryz.underlying24 rfl (iws' _)) rfl ⟨rfl, hO.below⟩

set_option maxHeartbeats 2000000 in
set_option maxRecDepth 100000 in
theorem rof16_calls (a : Option Addr) (cap : Nat) (bs : List (BitVec 8)) (w : World) (hR : Rd w 1 a 16 cap (u8s bs)) :
    Calls Tryz.prog 45 #[.slice a 16 cap] w fun e w' => e = .returned (.tuple #[.agg (St.of bs).C, .int .i64 0]) ∧ Below w.heap.size w w' := by
  have hO := Own.start w
  have hlen : bs.length = 16 := by have := hR.len; rw [u8s_length] at this; omega
  obtain ⟨b0, off, rfl⟩ := hR.place (by omega)
  have hle := hR.le
  have d0 : ¬ cap = 4 := by omega
  have d1 : ¬ cap = 8 := by omega
  have d2 : ¬ cap = 12 := by omega
  match bs, hlen with
  | [x0, x1, x2, x3, x4, x5, x6, x7, x8, x9, x10, x11, x12, x13, x14, x15], _ =>
    have hA : Hid (Rd w 1 (some ⟨b0, off, none⟩) 4 cap (u8s [x0, x1, x2, x3])) := by
      have h := hR.take 4 (by omega)
      exact h
    have hB : Hid (Rd w 1 (some ⟨b0, off + 4, none⟩) 4 (cap - 4) (u8s [x4, x5, x6, x7])) := hR.cut 4 4 (by omega)
    have hC : Hid (Rd w 1 (some ⟨b0, off + 8, none⟩) 4 (cap - 8) (u8s [x8, x9, x10, x11])) := hR.cut 8 4 (by omega)
    have hD : Hid (Rd w 1 (some ⟨b0, off + 12, none⟩) 4 (cap - 12) (u8s [x12, x13, x14, x15])) := hR.cut 12 4 (by omega)
    clear hR
    generalize hW : w = wn at hO hA hB hC hD ⊢
    clear hW w
    go_enter Tryz.func45, Tryz.ntmps45
    go_wp2_with (first
      | ((with_reducible refine gAlloc ?_); refine own_alloc hO 24 _ iwz ?_; clear hO; intro b w1 hO))
    refine wp_region_text (by kernel_rfl) (by kernel_rfl) ?_
    replace hO := hO.drew
    generalize World.drew _ = wd at hO ⊢
    go_wp2_with (first
      | (go_at_call 73; (with_reducible refine gCall #[.slice (some ⟨b0, off, none⟩) 4 cap] ?_); refine (four_calls _ _ _ x0 x1 x2 x3 _ (hO.rd hA.out)).mono ?_; rintro e ww ⟨rfl, hb⟩; replace hO := hO.call hb; clear hb)
      | (go_at_call 73; (with_reducible refine gCall #[.slice (some ⟨b0, off + 4, none⟩) 4 (cap - 4)] ?_); refine (four_calls _ _ _ x4 x5 x6 x7 _ (hO.rd hB.out)).mono ?_; rintro e ww ⟨rfl, hb⟩; replace hO := hO.call hb; clear hb)
      | (go_at_call 73; (with_reducible refine gCall #[.slice (some ⟨b0, off + 8, none⟩) 4 (cap - 8)] ?_); refine (four_calls _ _ _ x8 x9 x10 x11 _ (hO.rd hC.out)).mono ?_; rintro e ww ⟨rfl, hb⟩; replace hO := hO.call hb; clear hb)
      | (go_at_call 73; (with_reducible refine gCall #[.slice (some ⟨b0, off + 12, none⟩) 4 (cap - 12)] ?_); refine (four_calls _ _ _ x12 x13 x14 x15 _ (hO.rd hD.out)).mono ?_; rintro e ww ⟨rfl, hb⟩; replace hO := hO.call hb; clear hb)
      | ((with_reducible refine gLoad ?_); first | refine ld_blk hO 0 rfl rfl rfl (tA rfl) ?_ | refine ld_all hO 0 rfl rfl (tA rfl) (tS rfl) ?_)
      | ((with_reducible refine gStore ?_); first | (refine st_blk hO 0 rfl rfl rfl (ltb rfl) rfl (tS rfl) ?_; clear hO; intro ww hO) | (refine st_all hO 0 rfl rfl rfl rfl rfl rfl (tS rfl) ?_; clear hO; intro ww hO))
      | ((with_reducible refine gI ?_); refine wpI_step rfl rfl (by kernel_rfl) ?_; intro K hK; have HK := Lib.hid hK; clear hK) | ((with_reducible refine gI ?_); first | refine wpI_skip rfl ?_ | refine wpI_want rfl ?_) | ((with_reducible refine gOnlyK0 HK.out ?_); clear HK K; first | (refine wpI_act (by simp only [Act.put, List.setIfInBounds_toArray, List.set_cons_succ, List.set_cons_zero]; rfl) ?_) | skip) | (with_reducible refine wpI_nil ?_))
    refine bodyPost_ret (res_ct rfl _ _ b 24 (St.mk (of4 x0 x1 x2 x3) (of4 x4 x5 x6 x7) (of4 x8 x9 x10 x11) (of4 x12 x13 x14 x15)).C (0,0) _ rfl (hO.blk 0 rfl) Tryz.underlying24 rfl (iws' _)) rfl ⟨rfl, hO.below⟩
theorem rof_calls (a : Option Addr) (n cap : Nat) (bs : List (BitVec 8)) (w : World) (hR : Rd w 1 a n cap (u8s bs)) :
    Calls Tryz.prog 45 #[.slice a n cap] w fun e w' => e = .returned (.tuple #[.agg (ofT bs).C, .int .i64 (ofE bs)]) ∧ Below w.heap.size w w' := by
  have hlen : bs.length = n := by have := hR.len; rw [u8s_length] at this; omega
  unfold ofT ofE
  by_cases h : n = 16
  · subst h
    rw [if_pos hlen, if_pos hlen]
    exact rof16_calls a cap bs w hR
  · rw [if_neg (by omega), if_neg (by omega)]
    exact rofno_calls a n cap h w
end Go.Proofs.YtniibdglodnhoaaGreatDoor

/- Walk of the document's From, of enough octets. -/
namespace Go.Bva
open Go.RowKit Go.Bv
section
variable {P : Program} {ops : Array Oper} {Q : Exit → Act → World → Prop} {a : Act} {w : World} {rest : List Oper}
variable {d : Option Tmp} {ty : TypeId} {pos : String} {aft : Array Edge}
def bm256 (u : BitVec 64) : BitVec 64 := 256#64 * u
def badd64 (u v : BitVec 64) : BitVec 64 := u + v
theorem mul256_u64 {t yt : TypeId} {x y : Operand} {u : BitVec 64} (hx : a.eval x = .int .u64 256) (hy : a.eval y = .int .u64 (u.toNat : Int))
    (h : wpList P ops Q rest (a.put d (.int .u64 ((bm256 u).toNat : Int))) w) : wpList P ops Q ({ dst := d, op := .binOp .mul t x y yt, type := ty, pos := pos, after := aft, guard := none } :: rest) a w := by
  unfold bm256 at h
  refine step_val ?_ h
  simp only [execOp, hx, hy]
  have e : ∀ z : Int, IntKind.u64.wrap z = z % 18446744073709551616 := fun z => by simp [IntKind.wrap, IntKind.bits, IntKind.signed]
  simp [go_sem, binOp, eqGuard, Op.intArith, e, BitVec.toNat_mul]
theorem add_u64 {t yt : TypeId} {x y : Operand} {u v : BitVec 64} (hx : a.eval x = .int .u64 (u.toNat : Int)) (hy : a.eval y = .int .u64 (v.toNat : Int))
    (h : wpList P ops Q rest (a.put d (.int .u64 ((badd64 u v).toNat : Int))) w) : wpList P ops Q ({ dst := d, op := .binOp .add t x y yt, type := ty, pos := pos, after := aft, guard := none } :: rest) a w := by
  unfold badd64 at h
  refine step_val ?_ h
  simp only [execOp, hx, hy]
  have e : ∀ z : Int, IntKind.u64.wrap z = z % 18446744073709551616 := fun z => by simp [IntKind.wrap, IntKind.bits, IntKind.signed]
  simp [go_sem, binOp, eqGuard, Op.intArith, e, BitVec.toNat_add]
end
end Go.Bva
namespace Go.Proofs.YtniibdglodnhoaaGreatDoor
open Go.RowKit Go.Own Go.Bv Go.Ord Go.Eq


def dK (bs : List (BitVec 8)) : Nat → BitVec 64
  | 0 => 0#64
  | k + 1 => Go.Bva.badd64 (Go.Bva.bm256 (dK bs k)) (Go.Bva.bw64 (bs.getD (7 - k) 0#8))
theorem dK_num (bs : List (BitVec 8)) (h : 8 ≤ bs.length) : dK bs 8 = num bs 8 := by
  match bs, h with
  | x0 :: x1 :: x2 :: x3 :: x4 :: x5 :: x6 :: x7 :: r, _ =>
    apply BitVec.eq_of_toNat_eq
    rw [num_nat _ 8 (Nat.le_refl _)]
    have h0 := x0.isLt
    have h1 := x1.isLt
    have h2 := x2.isLt
    have h3 := x3.isLt
    have h4 := x4.isLt
    have h5 := x5.isLt
    have h6 := x6.isLt
    have h7 := x7.isLt
    simp [numN, dK, Go.Bva.badd64, Go.Bva.bm256, Go.Bva.bw64, BitVec.toNat_add, BitVec.toNat_mul]
    omega

set_option maxHeartbeats 8000000 in
set_option maxRecDepth 100000 in
theorem rfrom_ok (a : Option Addr) (len cap : Nat) (bs : List (BitVec 8)) (w : World) (hR : Rd w 1 a len cap (u8s bs)) (h1 : 24 ≤ len) (h2 : len ≤ 65560) :
    Calls Tryz.prog 24 #[.slice a len cap] w fun e w' => ∃ a' c', e = .returned (.tuple #[.agg (boxC (num bs 8) (.slice a' (len - 24) c') (St.of ((bs.drop 8).take 16))), .int .i64 0]) ∧ Below w.heap.size w w' ∧ w'.ownsRow w.heap.size 5 1 (.slice a' (len - 24) c') (len - 24) (u8s (bs.drop 24)) := by
  have hO := Own.start w
  have hlen : bs.length = len := by have := hR.len; rw [u8s_length] at this; omega
  obtain ⟨g0, off, rfl⟩ := hR.place (by omega)
  have d1 : decide ((len : Int) < 24) = false := by simp; omega
  have d2 : decide ((65560 : Int) < (len : Int)) = false := by simp; omega
  have hle := hR.le
  have hmx := hR.max
  unfold maxLen at hmx
  have dc8 : ¬ (cap < 8) := by omega
  have dc24 : ¬ (cap < 24) := by omega
  have r2 := hR.cut 8 16 (by omega)
  have r3 := hR.cut 24 (len - 24) (by omega)
  have eb2 : ((u8s bs).drop 8).take 16 = u8s ((bs.drop 8).take 16) := by unfold u8s; rw [List.map_take, List.map_drop]
  have eb3 : ((u8s bs).drop 24).take (len - 24) = u8s (bs.drop 24) := by rw [List.take_of_length_le (by rw [List.length_drop, u8s_length]; omega)]; unfold u8s; rw [List.map_drop]
  rw [eb2] at r2
  rw [eb3] at r3
  have x2 : ofT ((bs.drop 8).take 16) = St.of ((bs.drop 8).take 16) := by unfold ofT; rw [if_pos (by simp; omega)]
  have y2 : ofE ((bs.drop 8).take 16) = 0 := by unfold ofE; rw [if_pos (by simp; omega)]
  have g2 := fun w h => rof_calls (some ⟨g0, off + 8, none⟩) 16 (cap - 8) ((bs.drop 8).take 16) w h
  rw [x2, y2] at g2
  have r4 : cap = 24 → ∀ w, Rd w 1 (some ⟨g0, off, none⟩) (len - 24) 0 (u8s (bs.drop 24)) := fun hc w =>
    ⟨by rw [u8s_length, List.length_drop, hlen, Nat.mul_one], by omega, by simp [maxLen], (fun h => by cases h), fun hne => absurd (by omega) hne⟩
  have r5 : Rd w 1 (if cap = 24 then some ⟨g0, off, none⟩ else some ⟨g0, off + 24, none⟩) (len - 24) (cap - 24) (u8s (bs.drop 24)) := by
    by_cases hc : cap = 24
    · rw [if_pos hc, show cap - 24 = 0 by omega]; exact r4 hc w
    · rw [if_neg hc]; exact r3
  have R5 := Lib.hid r5
  have HG : ∀ k (h : k < 8), Hid (∃ c : BitVec 8, (u8s bs)[7 - k]? = some (.int .u8 (c.toNat : Int)) ∧ dK bs (k + 1) = Go.Bva.badd64 (Go.Bva.bm256 (dK bs k)) (Go.Bva.bw64 c)) := fun k h => by
    refine ⟨bs[7 - k]'(by omega), u8s_get bs (7 - k) (by omega), ?_⟩
    show Go.Bva.badd64 _ (Go.Bva.bw64 (bs.getD (7 - k) 0#8)) = _
    rw [List.getD_eq_getElem?_getD, List.getElem?_eq_getElem (by omega)]
    rfl
  have e8 := dK_num bs (by omega)
  obtain ⟨u, hu⟩ : ∃ u, St.of ((bs.drop 8).take 16) = u := ⟨_, rfl⟩
  rw [hu] at g2 ⊢
  obtain ⟨nn8, h8⟩ : ∃ x, num bs 8 = x := ⟨_, rfl⟩
  rw [h8]
  rw [h8] at e8
  have H8 := Lib.hid e8
  have G2 := Lib.hid g2
  have HR := Lib.hid hR
  have R2 := Lib.hid r2
  have R3 := Lib.hid r3
  clear hR r2 r3 r4 r5 g2 x2 y2 eb2 eb3 hu hlen h8 e8
  generalize hW : w = wn at hO HR R2 R3 R5 ⊢
  clear hW w
  go_enter Tryz.func24, Tryz.ntmps24
  go_wp2_with (first
    | ((with_reducible refine gAlloc (T := 54) ?_); refine own_alloc hO _ _ ibz ?_; clear hO; intro bx ww hO))
  go_loopg [4, 5] 8 (fun m s4 c wr => ∃ k : Nat, m = 8 - k ∧ k ≤ 8 ∧ c = .int .i64 ((7 : Int) - (k : Int)) ∧ s4 = .int .u64 ((dK bs k).toNat : Int) ∧ Own wn wr [.blk bx (.cells (boxC 0#64 (.slice none 0 0) St.zero) 54 (0,0))])
  case atStart => exact ⟨0, rfl, by omega, rfl, rfl, hO⟩
  case round =>
    obtain ⟨k, rfl, hk, rfl, rfl, hO1⟩ := hrel
    clear hO
    have hO := hO1
    clear hO1
    by_cases hlt : k < 8
    · obtain ⟨c, hc, hn⟩ := (HG k hlt).out
      have HV := Lib.hid hc
      have HN := Lib.hid hn
      generalize dK bs k = v at *
      clear hc hn
      obtain ⟨q, hq⟩ : ∃ q, q = k := ⟨k, rfl⟩
      have HQ := Lib.hid hq
      clear hq
      obtain rfl | rfl | rfl | rfl | rfl | rfl | rfl | rfl : k = 0 ∨ k = 1 ∨ k = 2 ∨ k = 3 ∨ k = 4 ∨ k = 5 ∨ k = 6 ∨ k = 7 := by omega
      all_goals
        go_wp2_with (first
          | ((with_reducible refine gLoad (T := 5) ?_); refine ld_rd (hO.rd HR.out) rfl (HV.out) (tA rfl) ?_)
          | ((with_reducible refine Go.Bva.gCnv ?_); refine Go.Bva.cnv_8_64 Tryz.underlying5 Tryz.underlying25 rfl ?_)
          | ((with_reducible refine Go.Bva.gBin (op := .mul) ?_); refine Go.Bva.mul256_u64 rfl rfl ?_)
          | ((with_reducible refine Go.Bva.gBin (op := .add) (t := 25) ?_); refine Go.Bva.add_u64 rfl rfl ?_))
        go_roundg (8 - (q + 1))
        case measure => rw [HQ.out]; omega
        case rel => exact ⟨q + 1, rfl, by rw [HQ.out]; omega, by rw [HQ.out]; go_num, by rw [HQ.out, HN.out], hO⟩
    · obtain rfl : k = 8 := by omega
      rw [H8.out]
      go_wp2_with (first
        | (go_at_call 45; refine (G2.out _ (hO.rd R2.out)).mono ?_; rintro e ww ⟨rfl, hb⟩; replace hO := hO.call hb; clear hb)
        | ((with_reducible refine gAlloc (T := 24) ?_); refine own_alloc hO _ _ iwz ?_; clear hO; intro bw ww hO)
        | ((with_reducible refine gStore (T := 24) ?_); refine stX hO 0 rfl rfl rfl rfl rfl (tS rfl) ?_; clear hO; intro ww hO))
      replace hO : Own wn _ [.blk bw (.cells u.C 24 (0,0)), .blk bx (.cells (boxC 0#64 (.slice none 0 0) St.zero) 54 (0,0))] := hO
      refine wp_region_textS (fun w' => Own wn w' [.blk bw (.cells u.C 24 (0,0))]) (fun op => match op with | .load _ _ => true | _ => false) (by kernel_rfl) (by kernel_rfl) (hO.drew.sub (List.Sublist.cons_cons _ (List.nil_sublist _))) ?_
      replace hO := hO.drew
      generalize World.drew _ = wd at hO ⊢
      go_wp2_with (first
        | ((with_reducible refine gAppendNil ?_); refine own_appendNil hO _ _ 29 eu8_8 rfl rfl (hO.rd R5.out) (u8s_one _) (by simp [maxLen]; omega) (by omega) ?_; clear hO; intro a4 c4 ww hO)
        | (((with_reducible refine gIL ?_); first | refine wpI_ldS (fun w' hS => hS.blk 0 rfl) rfl rfl (tA rfl) (tS rfl) ?_); first | (refine wpI_act (by simp only [Act.put, List.setIfInBounds_toArray, List.set_cons_succ, List.set_cons_zero]; rfl) ?_) | skip)
        | ((with_reducible refine gBld (T := 54) ?_); refine own_bld (boxC nn8 (.slice a4 (len - 24) c4) u) (by kernel_rfl) ?_)
        | ((with_reducible refine gStore (T := 54) ?_); refine stX hO 2 rfl rfl rfl rfl rfl (tS rfl) ?_; clear hO; intro ww hO)
        | ((with_reducible refine gI ?_); refine wpI_step rfl rfl (by kernel_rfl) ?_; intro K hK; have HK := Lib.hid hK; clear hK) | ((with_reducible refine gI ?_); first | refine wpI_skip rfl ?_ | refine wpI_want rfl ?_) | ((with_reducible refine gOnlyK HK.out ?_ ?_); exact hO.sub (List.singleton_sublist.2 (by simp)); clear HK K; first | (refine wpI_act (by simp only [Act.put, List.setIfInBounds_toArray, List.set_cons_succ, List.set_cons_zero]; rfl) ?_) | skip) | (with_reducible refine wpI_nil ?_))
      all_goals refine bodyPost_ret (res_ct rfl _ _ bx 54 (boxC nn8 (.slice a4 (len - 24) c4) u) (0,0) _ rfl (hO.blk 2 rfl) Tryz.underlying54 rfl (ibs _ _ _)) rfl ⟨_, _, rfl, hO.below, hO.row 0 rfl⟩
end Go.Proofs.YtniibdglodnhoaaGreatDoor
