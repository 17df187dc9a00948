/- The walk of MatchLongest. -/
import Derived.Test.YtdhcmnblfkhndaaMd
namespace Go.Mt
theorem com_best {b : List (BitVec 8)} {d p : Nat} (h1 : 1 ≤ d) (h2 : d ≤ p) (h3 : d ≤ 256) : com b d p 18 ≤ (found b p).1 ∧ ((found b p).1 ≤ com b d p 18 → (found b p).2 ≤ d) := by
  obtain ⟨_, _, _, h4, h5⟩ := best_spec b p (min 256 p)
  unfold found
  refine ⟨h4 d h1 (by omega), fun h => ?_⟩
  rcases Nat.lt_or_ge d (best b p (min 256 p)).2 with h6 | h6
  · have := h5 d h1 h6; omega
  · exact h6
theorem found_facts (b : List (BitVec 8)) (p : Nat) (h : 3 ≤ (found b p).1) : (found b p).1 ≤ 18 ∧ 1 ≤ (found b p).2 ∧ (found b p).2 ≤ p ∧ (found b p).2 ≤ 256 ∧ p + (found b p).1 ≤ b.length ∧ ∀ i, i < (found b p).1 → b.getD (p + i) 0 = b.getD (p + i - (found b p).2) 0 := by
  obtain ⟨h1, h2, h3, _, _⟩ := best_spec b p (min 256 p)
  have ha := found_agree b p
  have hl := (ha ((found b p).1 - 1) (by omega)).1
  have e : found b p = best b p (min 256 p) := rfl
  rw [← e] at h1 h2 h3
  refine ⟨h1, by rcases h3 with h3 | h3 <;> omega, by omega, by omega, by omega, fun i hi => (ha i hi).2⟩
end Go.Mt
namespace Go.Proofs.Ytdhcmnblfkhndaa
open Go.RowKit Go.Own Go.Bv Go.Ord Go.Eq Go.Mt

set_option maxHeartbeats 4000000 in
set_option maxRecDepth 100000 in
theorem longest_in (a : Option Addr) (n cap : Nat) (bs : List (BitVec 8)) (p D : Nat) (w : World) (hR : Rd w 1 a n cap (u8s bs)) (hn : n ≤ 200) (hp : p < n) (hD : 1 ≤ D) (hD3 : D ≤ 300) (T : Tok) (E : Int) (hT : findT n bs p = T) (hE : findE n bs p = E) :
    Calls Try.prog 5 #[.slice a n cap, .int .i64 (p : Int), .int .i64 (D : Int)] w fun e w' => e = .returned (.bool true) ∧ Below w.heap.size w w' := by
  have hO := Own.start w
  have hlen : bs.length = n := by have := hR.len; rw [u8s_length] at this; omega
  have HL := Lib.hid hlen
  have HR := Lib.hid hR
  have d1 : decide ((200 : Int) < (n : Int)) = false := by simp; omega
  have d2 : decide ((D : Int) < 1) = false := by simp; omega
  have d3 : decide ((300 : Int) < (D : Int)) = false := by simp; omega
  have hf := fun w h => Find_calls a n cap bs (p : Int) w h
  rw [hT, hE] at hf
  have HF := Lib.hid hf
  have hE1 : ((E : Int) == 1) = false := by rw [← hE]; unfold findE; rw [if_neg (by omega), if_neg (by omega)]; split <;> rfl
  obtain ⟨K, hK⟩ : ∃ K, (if D ≤ p ∧ D ≤ 256 then com bs D p 18 else 0) = K := ⟨_, rfl⟩
  clear hf hR hlen
  generalize hW : w = wn at hO HR ⊢
  clear hW w
  go_enter Try.func5, Try.ntmps5
  go_upto_block 0 with (first
    | ((with_reducible refine gG ?_); refine wpList_want rfl ?_)
    | ((with_reducible refine gAlloc (T := 25) ?_); refine own_alloc hO _ _ itz ?_; clear hO; intro bx ww hO)
    | (go_at_call 9; refine (live_calls _).mono ?_; rintro e ww ⟨rfl, hb⟩; replace hO := hO.call hb; clear hb)
    | (go_at_call 12; refine (HF.out _ (hO.rd HR.out)).mono ?_; rintro e ww ⟨rfl, hb⟩; replace hO := hO.call hb; clear hb)
    | ((with_reducible refine gStore ?_); first | (refine stX hO 0 rfl rfl rfl rfl rfl (tS rfl) ?_; clear hO; intro ww hO) | (refine stC hO 0 rfl rfl rfl (ltb rfl) rfl (tS rfl) ?_; clear hO; intro ww hO)))
  replace hO : Own wn _ [.blk bx (.cells T.C 25 (0,0))] := hO
  go_cut [10] from 44 to 81 (fun s10 wx => s10 = .int .i64 (K : Int) ∧ Own wn wx [.blk bx (.cells T.C 25 (0,0))])
  case first =>
    have HK := Lib.hid hK
    clear hT hE hE1 d1 d2 d3 hK
    go_wp2
    by_cases c1 : D ≤ p
    · have e1 : decide ((D : Int) ≤ (p : Int)) = true := by simp; omega
      have e1' : decide (D ≤ p) = true := by simp; omega
      by_cases c2 : D ≤ 256
      · have e2 : decide ((D : Int) ≤ 256) = true := by simp; omega
        have HK2 : Hid (com bs D p 18 = K) := by show _ = _; rw [← HK.out, if_pos ⟨c1, c2⟩]
        go_loopg [10] 19 (fun m c wr => ∃ k : Nat, m = 19 - k ∧ k ≤ 18 ∧ c = .int .i64 (k : Int) ∧ agree bs D p k ∧ Own wn wr [.blk bx (.cells T.C 25 (0,0))])
        case atStart => exact ⟨0, rfl, by omega, rfl, agree_zero _ _ _, hO⟩
        case round =>
          obtain ⟨k, rfl, hk, rfl, hA, hO1⟩ := hrel
          clear hO
          have hO := hO1
          have HA := Lib.hid hA
          clear hO1 hA
          by_cases c3 : k < 18
          · have e3 : decide ((k : Int) < 18) = true := by simp; omega
            have f1 : IntKind.i64.wrap ((p : Int) + (k : Int)) = (p : Int) + (k : Int) := by rw [IntKind.wrap_i64]; omega
            by_cases c4 : p + k < n
            · have e4 : decide ((p : Int) + (k : Int) < (n : Int)) = true := by simp; omega
              have f2 : IntKind.i64.wrap ((p : Int) + (k : Int) - (D : Int)) = (p : Int) + (k : Int) - (D : Int) := by rw [IntKind.wrap_i64]; omega
              obtain ⟨b0, off, rfl⟩ := HR.out.place (by omega)
              have hxy : ∃ x y : BitVec 8, wr.cell? ⟨b0, off + (p + k), none⟩ = some (.int .u8 (x.toNat : Int)) ∧ wr.cell? ⟨b0, off + (p + k - D), none⟩ = some (.int .u8 (y.toNat : Int)) ∧ ((x.toNat : Int) = y.toNat → agree bs D p (k + 1)) ∧ (¬ (x.toNat : Int) = y.toNat → ¬ agree bs D p (k + 1)) := by
                have h1 : p + k - D < bs.length := by rw [HL.out]; omega
                have h2 : p + k < bs.length := by rw [HL.out]; omega
                have hx : bs.getD (p + k) 0 = bs[p + k] := by rw [List.getD_eq_getElem?_getD, List.getElem?_eq_getElem h2]; rfl
                have hy : bs.getD (p + k - D) 0 = bs[p + k - D] := by rw [List.getD_eq_getElem?_getD, List.getElem?_eq_getElem h1]; rfl
                obtain ⟨b', o', he, _, hc⟩ := (hO.rd HR.out).at' (by omega)
                simp only [Option.some.injEq, Addr.mk.injEq, and_true] at he
                obtain ⟨rfl, rfl⟩ := he
                refine ⟨bs[p + k], bs[p + k - D], by rw [hc _ (by omega)]; exact u8s_get bs _ h2, by rw [hc _ (by omega)]; exact u8s_get bs _ h1, fun h => agree_succ HA.out h2 (by rw [hx, hy]; exact BitVec.eq_of_toNat_eq (by omega)), fun h => com_not (by rw [hx, hy]; intro h2; exact h (by rw [h2]))⟩
              obtain ⟨x, y, cx, cy, hnn, hmm⟩ := hxy
              have cz : wr.cell? ⟨b0, off + ((p : Int) + (k : Int) - (D : Int)).toNat, none⟩ = some (.int .u8 (y.toNat : Int)) := by rw [show ((p : Int) + (k : Int) - (D : Int)).toNat = p + k - D by omega]; exact cy
              have cw : wr.cell? ⟨b0, off + ((p : Int) + (k : Int)).toNat, none⟩ = some (.int .u8 (x.toNat : Int)) := by rw [show ((p : Int) + (k : Int)).toNat = p + k by omega]; exact cx
              have HN := Lib.hid hnn
              have HM := Lib.hid hmm
              clear hnn hmm
              have g1 : D ≤ p + k := by omega
              have g2 : (0 : Int) ≤ (p : Int) + (k : Int) ∧ (p : Int) + (k : Int) < (n : Int) := by omega
              have g3 : (0 : Int) ≤ (p : Int) + (k : Int) - (D : Int) ∧ (p : Int) + (k : Int) - (D : Int) < (n : Int) := by omega
              by_cases c5 : (x.toNat : Int) = y.toNat
              · have e5 : ((x.toNat : Int) == (y.toNat : Int)) = true := by simp [c5]
                have HN := Lib.hid (HN.out c5)
                clear HM c5
                go_wp2
                go_quiet (fail)
                all_goals go_wp2
                go_roundg (19 - (k + 1))
                case measure => omega
                case rel => exact ⟨k + 1, rfl, by omega, by go_num, HN.out, hO.drewN _⟩
              · have e5 : ((x.toNat : Int) == (y.toNat : Int)) = false := by simp [c5]
                have HM := Lib.hid (HM.out c5)
                have HE := Lib.hid (com_eq HA.out hk (.inr HM.out))
                clear HN c5
                go_wp2
                go_quiet (fail)
                all_goals go_wp2
                go_meet
                case rel => exact ⟨by rw [← HK2.out, HE.out], hO.drewN _⟩
            · have e4 : decide ((p : Int) + (k : Int) < (n : Int)) = false := by simp; omega
              have HE : Hid (com bs D p 18 = k) := com_eq HA.out hk (.inr fun h => c4 (by have := (h k (by omega)).1; rw [HL.out] at this; exact this))
              go_wp2
              go_quiet (fail)
              all_goals go_wp2
              go_meet
              case rel => exact ⟨by rw [← HK2.out, HE.out], hO.drewN _⟩
          · obtain rfl : k = 18 := by omega
            have HE : Hid (com bs D p 18 = 18) := com_eq HA.out hk (.inl rfl)
            go_wp2
            go_quiet (fail)
            all_goals go_wp2
            go_meet
            case rel => exact ⟨by rw [← HK2.out, HE.out], hO.drewN _⟩
      · have e2 : decide ((D : Int) ≤ 256) = false := by simp; omega
        have HK0 : Hid (0 = K) := by show _ = _; rw [← HK.out, if_neg (fun h => c2 h.2)]
        go_loopg [10] 1 (fun m c wr => c = .int .i64 0 ∧ Own wn wr [.blk bx (.cells T.C 25 (0,0))])
        case atStart => exact ⟨rfl, hO⟩
        case round =>
          obtain ⟨rfl, hO1⟩ := hrel
          clear hO
          have hO := hO1
          clear hO1
          go_wp2
          go_quiet (fail)
          all_goals go_wp2
          go_meet
          case rel => exact ⟨by rw [← HK0.out]; rfl, hO.drewN _⟩
    · have e1 : decide ((D : Int) ≤ (p : Int)) = false := by simp; omega
      have e1' : decide (D ≤ p) = false := by simp; omega
      have HK0 : Hid (0 = K) := by show _ = _; rw [← HK.out, if_neg (fun h => c1 h.1)]
      go_loopg [10] 1 (fun m c wr => c = .int .i64 0 ∧ Own wn wr [.blk bx (.cells T.C 25 (0,0))])
      case atStart => exact ⟨rfl, hO⟩
      case round =>
        obtain ⟨rfl, hO1⟩ := hrel
        clear hO
        have hO := hO1
        clear hO1
        go_wp2
        go_quiet (fail)
        all_goals go_wp2
        go_meet
        case rel => exact ⟨by rw [← HK0.out]; rfl, hO.drewN _⟩
  case rest =>
    obtain ⟨rfl, hO1⟩ := hcut
    clear hO
    have hO := hO1
    clear hO1
    by_cases h3 : 3 ≤ (found bs p).1
    · have eT : T = ⟨0, (found bs p).1, (found bs p).2⟩ := by rw [← hT]; unfold findT; rw [if_neg (by omega), if_neg (by omega), Int.toNat_natCast, if_pos h3]
      have eE : E = 0 := by rw [← hE]; unfold findE; rw [if_neg (by omega), if_neg (by omega), Int.toNat_natCast, if_pos h3]
      obtain ⟨f1, f2, f3, f4, f5, f6⟩ := found_facts bs p h3
      have hKF : K ≤ (found bs p).1 ∧ ((found bs p).1 ≤ K → (found bs p).2 ≤ D) := by
        rw [← hK]
        split
        · rename_i h; exact com_best hD h.1 h.2
        · exact ⟨by omega, fun h => by omega⟩
      rw [HL.out] at f5
      obtain ⟨F1, hF1⟩ : ∃ F1, (found bs p).1 = F1 := ⟨_, rfl⟩
      obtain ⟨F2, hF2⟩ : ∃ F2, (found bs p).2 = F2 := ⟨_, rfl⟩
      rw [hF1] at eT hKF h3 f1 f5 f6
      rw [hF2] at eT hKF f2 f3 f4 f6
      have H6 := Lib.hid f6
      obtain ⟨hKF1, hKF2⟩ := hKF
      have HKF := Lib.hid hKF2
      clear hT hE hE1 hK HF hF1 hF2 f6 hKF2
      subst eE eT
      have e1 : decide (p < F2) = false := by simp; omega
      have e2 : decide ((n : Int) - (p : Int) < (F1 : Int)) = false := by simp; omega
      have e3 : decide (F2 < 1) = false := by simp; omega
      have e4 : decide ((F2 : Int) < 1) = false := by simp; omega
      have e5 : decide ((p : Int) < (F2 : Int)) = false := by simp; omega
      go_wp2_with (first
        | ((with_reducible refine gG ?_); refine wpList_want rfl ?_)
        | ((with_reducible refine gLoad ?_); first | refine ldX hO 0 rfl rfl (tA rfl) (tS rfl) ?_ | refine ldC hO 0 rfl rfl (tA rfl) rfl ?_))
      go_loopg [118] F1 (fun m c wr => ∃ k : Nat, m = F1 - k ∧ k ≤ F1 ∧ c = .int .i64 (k : Int) ∧ Own wn wr [.blk bx (.cells (Tok.C ⟨0, (F1 : Int), (F2 : Int)⟩) 25 (0,0))])
      case atStart => exact ⟨0, rfl, by omega, rfl, hO⟩
      case round =>
        obtain ⟨k, rfl, hk, rfl, hO1⟩ := hrel
        clear hO
        have hO := hO1
        clear hO1
        by_cases c1 : k < F1
        · have g0 : decide ((k : Int) < (F1 : Int)) = true := by simp; omega
          have w1 : IntKind.i64.wrap ((p : Int) + (k : Int)) = (p : Int) + (k : Int) := by rw [IntKind.wrap_i64]; omega
          have w2 : IntKind.i64.wrap ((p : Int) + (k : Int) - (F2 : Int)) = (p : Int) + (k : Int) - (F2 : Int) := by rw [IntKind.wrap_i64]; omega
          obtain ⟨b0, off, rfl⟩ := HR.out.place (by omega)
          have hx : ∃ x : BitVec 8, wr.cell? ⟨b0, off + (p + k), none⟩ = some (.int .u8 (x.toNat : Int)) ∧ wr.cell? ⟨b0, off + (p + k - F2), none⟩ = some (.int .u8 (x.toNat : Int)) := by
            have h1 : p + k - F2 < bs.length := by rw [HL.out]; omega
            have h2 : p + k < bs.length := by rw [HL.out]; omega
            have hx : bs.getD (p + k) 0 = bs[p + k] := by rw [List.getD_eq_getElem?_getD, List.getElem?_eq_getElem h2]; rfl
            have hy : bs.getD (p + k - F2) 0 = bs[p + k - F2] := by rw [List.getD_eq_getElem?_getD, List.getElem?_eq_getElem h1]; rfl
            have h6 := H6.out k c1
            rw [hx, hy] at h6
            obtain ⟨b', o', he, _, hc⟩ := (hO.rd HR.out).at' (by omega)
            simp only [Option.some.injEq, Addr.mk.injEq, and_true] at he
            obtain ⟨rfl, rfl⟩ := he
            exact ⟨bs[p + k], by rw [hc _ (by omega)]; exact u8s_get bs _ h2, by rw [hc _ (by omega), h6]; exact u8s_get bs _ h1⟩
          obtain ⟨x, cx, cy⟩ := hx
          have cz : wr.cell? ⟨b0, off + ((p : Int) + (k : Int) - (F2 : Int)).toNat, none⟩ = some (.int .u8 (x.toNat : Int)) := by rw [show ((p : Int) + (k : Int) - (F2 : Int)).toNat = p + k - F2 by omega]; exact cy
          have cw : wr.cell? ⟨b0, off + ((p : Int) + (k : Int)).toNat, none⟩ = some (.int .u8 (x.toNat : Int)) := by rw [show ((p : Int) + (k : Int)).toNat = p + k by omega]; exact cx
          have cb : wr.cell? ⟨bx, 2, none⟩ = some (.int .i64 (F2 : Int)) := by rw [cell_of_row wr bx 2 _ _ _ (hO.blk 0 rfl)]; rfl
          have g1 : F2 ≤ p + k := by omega
          have g2 : (0 : Int) ≤ (p : Int) + (k : Int) ∧ (p : Int) + (k : Int) < (n : Int) := by omega
          have g3 : (0 : Int) ≤ (p : Int) + (k : Int) - (F2 : Int) ∧ (p : Int) + (k : Int) - (F2 : Int) < (n : Int) := by omega
          go_wp2
          go_quiet (fail)
          all_goals go_wp2
          go_roundg (F1 - (k + 1))
          case measure => omega
          case rel => exact ⟨k + 1, rfl, by omega, by go_num, hO.drewN _⟩
        · obtain rfl : k = F1 := by omega
          have g1 : decide ((K : Int) ≤ (k : Int)) = true := by simp; omega
          have g1' : decide (K ≤ k) = true := by simp; omega
          by_cases c2 : K < k
          · have g2 : decide ((K : Int) < (k : Int)) = true := by simp; omega
            have g2' : decide (K < k) = true := by simp; omega
            go_wp2_with (first
              | ((with_reducible refine gG ?_); refine wpList_want rfl ?_)
              | ((with_reducible refine gLoad ?_); first | refine ldX hO 0 rfl rfl (tA rfl) (tS rfl) ?_ | refine ldC hO 0 rfl rfl (tA rfl) rfl ?_))
            go_ret
            exact ⟨rfl, hO.below⟩
          · have g2 : decide ((K : Int) < (k : Int)) = false := by simp; omega
            have g2' : decide (K < k) = false := by simp; omega
            have h2 := HKF.out (by omega)
            have g3 : decide ((F2 : Int) ≤ (D : Int)) = true := by simp; omega
            have g3' : decide (F2 ≤ D) = true := by simp; omega
            go_wp2_with (first
              | ((with_reducible refine gG ?_); refine wpList_want rfl ?_)
              | ((with_reducible refine gLoad ?_); first | refine ldX hO 0 rfl rfl (tA rfl) (tS rfl) ?_ | refine ldC hO 0 rfl rfl (tA rfl) rfl ?_))
            go_ret
            exact ⟨rfl, hO.below⟩
    · have eE : E = 4 := by rw [← hE]; unfold findE; rw [if_neg (by omega), if_neg (by omega), Int.toNat_natCast, if_neg h3]
      have hK3 : K < 3 := by
        rw [← hK]
        split
        · rename_i h; have := (com_best (b := bs) hD h.1 h.2).1; omega
        · omega
      have e1 : decide ((K : Int) < 3) = true := by simp; omega
      clear hT hE hE1 d1 d2 d3 hK HF
      subst eE
      go_wp2_with (first
        | ((with_reducible refine gG ?_); refine wpList_want rfl ?_))
      go_ret
      exact ⟨rfl, hO.below⟩

set_option maxHeartbeats 1000000 in
set_option maxRecDepth 100000 in
theorem longest_walk (a : Option Addr) (n cap : Nat) (bs : List (BitVec 8)) (x y : Int) (w : World) (hR : Rd w 1 a n cap (u8s bs)) :
    Calls Try.prog 5 #[.slice a n cap, .int .i64 x, .int .i64 y] w fun e w' => e = .returned (.bool true) ∧ Below w.heap.size w w' := by
  by_cases h1 : 200 < n
  · have hO := Own.start w
    have d1 : decide ((200 : Int) < (n : Int)) = true := by simp; omega
    clear hR
    generalize hW : w = wn at hO ⊢
    clear hW w
    go_enter Try.func5, Try.ntmps5
    go_wp2_with (first
      | ((with_reducible refine gG ?_); refine wpList_want rfl ?_)
      | (go_at_call 9; refine (live_calls _).mono ?_; rintro e ww ⟨rfl, hb⟩; replace hO := hO.call hb; clear hb))
    go_ret
    exact ⟨rfl, hO.below⟩
  have d1 : decide ((200 : Int) < (n : Int)) = false := by simp; omega
  by_cases h2 : y < 1
  · have hO := Own.start w
    have d2 : decide (y < 1) = true := by simpa using h2
    clear hR
    generalize hW : w = wn at hO ⊢
    clear hW w
    go_enter Try.func5, Try.ntmps5
    go_wp2_with (first
      | ((with_reducible refine gG ?_); refine wpList_want rfl ?_)
      | (go_at_call 9; refine (live_calls _).mono ?_; rintro e ww ⟨rfl, hb⟩; replace hO := hO.call hb; clear hb))
    go_ret
    exact ⟨rfl, hO.below⟩
  have d2 : decide (y < 1) = false := by simpa using h2
  by_cases h3 : 300 < y
  · have hO := Own.start w
    have d3 : decide (300 < y) = true := by simpa using h3
    clear hR
    generalize hW : w = wn at hO ⊢
    clear hW w
    go_enter Try.func5, Try.ntmps5
    go_wp2_with (first
      | ((with_reducible refine gG ?_); refine wpList_want rfl ?_)
      | (go_at_call 9; refine (live_calls _).mono ?_; rintro e ww ⟨rfl, hb⟩; replace hO := hO.call hb; clear hb))
    go_ret
    exact ⟨rfl, hO.below⟩
  have d3 : decide (300 < y) = false := by simpa using h3
  by_cases h4 : 0 ≤ x ∧ x < n
  · obtain ⟨p, rfl⟩ : ∃ p : Nat, x = (p : Int) := ⟨x.toNat, by omega⟩
    obtain ⟨D, rfl⟩ : ∃ D : Nat, y = (D : Int) := ⟨y.toNat, by omega⟩
    exact longest_in a n cap bs p D w hR (by omega) (by omega) (by omega) (by omega) _ _ rfl rfl
  · have hf := fun w h => Find_calls a n cap bs x w h
    have e1 : findT n bs x = zT := by unfold findT; rw [if_neg (by omega), if_pos (by omega)]
    have e2 : findE n bs x = 1 := by unfold findE; rw [if_neg (by omega), if_pos (by omega)]
    rw [e1, e2] at hf
    have hO := Own.start w
    have HR := Lib.hid hR
    have HF := Lib.hid hf
    clear hR hf e1 e2
    generalize hW : w = wn at hO HR ⊢
    clear hW w
    by_cases h5 : x < 0
    · have d4 : decide (x < 0) = true := by simpa using h5
      go_enter Try.func5, Try.ntmps5
      go_wp2_with (first
        | ((with_reducible refine gG ?_); refine wpList_want rfl ?_)
        | ((with_reducible refine gAlloc (T := 25) ?_); refine own_alloc hO _ _ itz ?_; clear hO; intro bx ww hO)
        | (go_at_call 9; refine (live_calls _).mono ?_; rintro e ww ⟨rfl, hb⟩; replace hO := hO.call hb; clear hb)
        | (go_at_call 12; refine (HF.out _ (hO.rd HR.out)).mono ?_; rintro e ww ⟨rfl, hb⟩; replace hO := hO.call hb; clear hb)
        | ((with_reducible refine gStore ?_); first | (refine stX hO 0 rfl rfl rfl rfl rfl (tS rfl) ?_; clear hO; intro ww hO) | (refine stC hO 0 rfl rfl rfl (ltb rfl) rfl (tS rfl) ?_; clear hO; intro ww hO)))
      go_ret
      exact ⟨rfl, hO.below⟩
    · have d4 : decide (x < 0) = false := by simpa using h5
      have d5 : decide ((n : Int) ≤ x) = true := by simp; omega
      go_enter Try.func5, Try.ntmps5
      go_wp2_with (first
        | ((with_reducible refine gG ?_); refine wpList_want rfl ?_)
        | ((with_reducible refine gAlloc (T := 25) ?_); refine own_alloc hO _ _ itz ?_; clear hO; intro bx ww hO)
        | (go_at_call 9; refine (live_calls _).mono ?_; rintro e ww ⟨rfl, hb⟩; replace hO := hO.call hb; clear hb)
        | (go_at_call 12; refine (HF.out _ (hO.rd HR.out)).mono ?_; rintro e ww ⟨rfl, hb⟩; replace hO := hO.call hb; clear hb)
        | ((with_reducible refine gStore ?_); first | (refine stX hO 0 rfl rfl rfl rfl rfl (tS rfl) ?_; clear hO; intro ww hO) | (refine stC hO 0 rfl rfl rfl (ltb rfl) rfl (tS rfl) ?_; clear hO; intro ww hO)))
      go_ret
      exact ⟨rfl, hO.below⟩
end Go.Proofs.Ytdhcmnblfkhndaa
