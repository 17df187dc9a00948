/- The walk of MatchParts. -/
import Derived.Test.YtdhcmnblfkhndaaMx
namespace Go.Proofs.Ytdhcmnblfkhndaa
open Go.RowKit Go.Own Go.Bv Go.Ord Go.Eq Go.Mt

theorem cut_in (x : Int) (n : Nat) (hn : 0 < n) : ∃ k : Nat, k < n ∧ ((x.tmod n) + n).tmod n = (k : Int) ∧ -(n : Int) < x.tmod n ∧ x.tmod n < n := by
  have h1 : -(n : Int) < x.tmod n := by
    have := Int.lt_tmod_of_pos x (show (0 : Int) < n by omega); omega
  have h2 : x.tmod n < n := Int.tmod_lt_of_pos x (by omega)
  have h3 : 0 ≤ ((x.tmod n) + n).tmod n := Int.tmod_nonneg _ (by omega)
  have h4 : ((x.tmod n) + n).tmod n < n := Int.tmod_lt_of_pos _ (by omega)
  exact ⟨(((x.tmod n) + n).tmod n).toNat, by omega, by omega, h1, h2⟩

set_option maxHeartbeats 4000000 in
set_option maxRecDepth 100000 in
theorem parts_walk (a : Option Addr) (n c : Nat) (l : List Tok) (x : Int) (w : World) (hR : Rd w 3 a n c (tks l)) :
    Calls Try.prog 7 #[.slice a n c, .int .i64 x] w fun e w' => e = .returned (.bool true) ∧ Below w.heap.size w w' := by
  have hO := Own.start w
  by_cases h2 : 200 < n
  · have d1 : decide ((200 : Int) < (n : Int)) = true := by simp; omega
    clear hR
    generalize hW : w = wn at hO ⊢
    clear hW w
    go_enter Try.func7, Try.ntmps7
    go_wp2_with (first
      | ((with_reducible refine gG ?_); refine wpList_want rfl ?_)
      | (go_at_call 9; refine (live_calls _).mono ?_; rintro e ww ⟨rfl, hb⟩; replace hO := hO.call hb; clear hb))
    go_ret
    exact ⟨rfl, hO.below⟩
  have d1 : decide ((200 : Int) < (n : Int)) = false := by simp; omega
  by_cases h0 : n = 0
  · subst h0
    clear hR
    generalize hW : w = wn at hO ⊢
    clear hW w
    go_enter Try.func7, Try.ntmps7
    go_wp2_with (first
      | ((with_reducible refine gG ?_); refine wpList_want rfl ?_)
      | (go_at_call 9; refine (live_calls _).mono ?_; rintro e ww ⟨rfl, hb⟩; replace hO := hO.call hb; clear hb))
    go_ret
    exact ⟨rfl, hO.below⟩
  have d2 : ((n : Int) == 0) = false := by simp; omega
  have hl : l.length = n := by have := hR.len; rw [tks_length] at this; omega
  obtain ⟨k, hk, hcut, hc1, hc2⟩ := cut_in x n (by omega)
  obtain ⟨b0, off, rfl⟩ := hR.place (by omega)
  by_cases hF : okFrom 0 l
  · have hbd := told_bounds 0 l hF
    have htk := hR.take k (by omega)
    have htk1 := hR.take (k + 1) (by omega)
    rw [tks_take] at htk htk1
    have hle := told_take_le l k
    have hle1 := told_take_le l (k + 1)
    have hkl : k < l.length := by omega
    have hnx := told_next hkl
    have htx := text_next hkl
    have hta := text_take hF k
    have htb := text_take hF (k + 1)
    have hla := text_length (okFrom_take k hF)
    have hlb := text_length (okFrom_take (k + 1) hF)
    have hlall := text_length hF
    have hokk := ((okFrom_next hkl).1 (okFrom_take (k + 1) hF)).2
    have hsz := Tok.ok_size hokk
    have htc : (text (l.take (k + 1))).take (told (l.take k)) = text (l.take k) := by
      have := text_take (okFrom_take (k + 1) hF) k
      rwa [List.take_take, Nat.min_eq_left (Nat.le_succ k)] at this
    have ha := fun w h => text_okN (some ⟨b0, off, none⟩) n c l 65536 _ rfl w h (by omega) hF (by omega) (by omega)
    have hb := fun w h => text_okN (some ⟨b0, off, none⟩) k c (l.take k) 65536 _ rfl w h (by omega) (okFrom_take k hF) (by omega) (by omega)
    have hc := fun w h => text_okN (some ⟨b0, off, none⟩) (k + 1) c (l.take (k + 1)) 65536 _ rfl w h (by omega) (okFrom_take (k + 1) hF) (by omega) (by omega)
    have hcc : k ≤ c ∧ k + 1 ≤ c := by have := hR.le; omega
    have ht := List.getElem?_eq_getElem (l := l) (i := k) hkl
    obtain ⟨t, hte⟩ : ∃ t, l[k] = t := ⟨_, rfl⟩
    rw [hte] at hnx htx hokk hsz ht
    obtain ⟨A, hA⟩ : ∃ A, told l = A := ⟨_, rfl⟩
    obtain ⟨P, hP⟩ : ∃ P, told (l.take k) = P := ⟨_, rfl⟩
    obtain ⟨Q, hQ⟩ : ∃ Q, told (l.take (k + 1)) = Q := ⟨_, rfl⟩
    rw [hA] at ha hle hle1 hbd hlall
    rw [hP] at hb hnx hle hta hla htc hokk
    rw [hQ] at hc hnx hle1 htb hlb
    obtain ⟨tl, htl⟩ : ∃ tl, text l = tl := ⟨_, rfl⟩
    obtain ⟨tp, htp⟩ : ∃ tp, text (l.take k) = tp := ⟨_, rfl⟩
    obtain ⟨tq, htq⟩ : ∃ tq, text (l.take (k + 1)) = tq := ⟨_, rfl⟩
    rw [htl] at ha hta htb hlall
    rw [htp] at hb htx hta htc hla
    rw [htq] at hc htx htb htc hlb
    have HA := Lib.hid ha
    have HB := Lib.hid hb
    have HC := Lib.hid hc
    have HR := Lib.hid hR
    have HRK := Lib.hid htk
    have HRK1 := Lib.hid htk1
    have HT := Lib.hid ht
    have HS1 := Lib.hid (fun (a b : Option Addr) (c d : Nat) w h1 h2 => by have := same_calls a b Q c Q d tq tq w h1 h2; rw [decide_eq_true rfl] at this; exact this)
    have HS2 := Lib.hid (fun (a b : Option Addr) (c d : Nat) w h1 h2 => by have := same_calls a b P c P d tp tp w h1 h2; rw [decide_eq_true rfl] at this; exact this)
    have HU1 : Hid ((u8s tl).take Q = u8s tq) := by show _ = _; rw [← htb]; unfold u8s; rw [List.map_take]
    have HU2 : Hid ((u8s tq).take P = u8s tp) := by show _ = _; rw [← htc]; unfold u8s; rw [List.map_take]
    have e1 : wrap64 ((k : Int) + 1) = (k : Int) + 1 := by unfold wrap64; omega
    have e2 : decide ((A : Int) < (Q : Int)) = false := by simp; omega
    have e3 : decide ((Q : Int) ≤ (P : Int)) = false := by simp; omega
    have e3' : decide (Q ≤ P) = false := by simp; omega
    have e2' : decide (A < Q) = false := by simp; omega
    have hPQ : P < Q := by omega
    have hA4 : A ≤ 3600 := by omega
    have HNX := Lib.hid hnx
    have HTX := Lib.hid htx
    have HLA := Lib.hid hla
    have HLB := Lib.hid hlb
    have HOKK := Lib.hid hokk
    have hA1 : 0 < A := by omega
    have hQ1 : 0 < Q := by omega
    clear hR htk htk1 ha hb hc ht hle hta htb htc hA hP hQ htl htp htq hte hnx htx hla hlb hokk hlall hbd hl hF hkl hsz
    generalize hW : w = wn at hO HR HRK HRK1 ⊢
    clear hW w
    rcases HOKK.out with ⟨h1, h2⟩ | ⟨h1, h2, h3, h4, h5, h6⟩
    · obtain ⟨lit, len, dist⟩ := t
      dsimp only at h1 h2
      subst h1 h2
      have HQ : Hid (Q = P + 1) := HNX.out
      have HX : Hid ((u8s tq)[P]? = some (.int .u8 (lit.toNat : Int))) := by
        show _ = _
        have e : tq = tp ++ [lit] := HTX.out
        rw [e]
        unfold u8s
        rw [List.map_append, List.getElem?_append_right (by rw [List.length_map, HLA.out]; exact Nat.le_refl _), List.length_map, HLA.out, Nat.sub_self]
        rfl
      go_enter Try.func7, Try.ntmps7
      go_wp2_with (first
        | ((with_reducible refine gG ?_); refine wpList_want rfl ?_)
        | ((with_reducible refine gAlloc (T := 25) ?_); refine own_alloc hO _ _ itz ?_; clear hO; intro bx ww hO)
        | ((with_reducible refine gLoad (T := 25) ?_); refine ld_tok (hO.rd HR.out) HT.out rfl (by omega) (tA rfl) (tS rfl) ?_)
        | ((with_reducible refine gStore ?_); first | (refine stX hO 0 rfl rfl rfl rfl rfl (tS rfl) ?_; clear hO; intro ww hO) | (refine stC hO 0 rfl rfl rfl (ltb rfl) rfl (tS rfl) ?_; clear hO; intro ww hO))
        | ((with_reducible refine gLoad ?_); first | refine ldX hO 0 rfl rfl (tA rfl) (tS rfl) ?_ | refine ldC hO 0 rfl rfl (tA rfl) rfl ?_)
        | (go_at_call 16; (with_reducible refine gCall #[.slice _ n _, _] ?_); refine (HA.out _ (hO.rd HR.out)).mono ?_; rintro e ww ⟨aA, cA, rfl, hb, hr⟩; replace hO := hO.addRow hb hr; clear hb hr; obtain ⟨gA, rfl⟩ := hO.slPlace 0 rfl hA1; have hcA := (hO.rdAt 0 rfl).le)
        | (go_at_call 16; (with_reducible refine gCall #[.slice _ k _, _] ?_); refine (HB.out _ (hO.rd HRK.out)).mono ?_; rintro e ww ⟨aP, cP, rfl, hb, hr⟩; replace hO := hO.addRow hb hr; clear hb hr)
        | (go_at_call 16; (with_reducible refine gCall #[.slice _ (k + 1) _, _] ?_); refine (HC.out _ (hO.rd HRK1.out)).mono ?_; rintro e ww ⟨aQ, cQ, rfl, hb, hr⟩; replace hO := hO.addRow hb hr; clear hb hr; obtain ⟨gQ, rfl⟩ := hO.slPlace 0 rfl hQ1; have hcQ := (hO.rdAt 0 rfl).le)
        | (go_at_call 17; (with_reducible refine gCall #[.slice _ Q _, _] ?_); refine (HS1.out _ _ _ _ _ (hO.rdAt 0 rfl) (by have := (hO.rdAt 2 rfl).take Q (by omega); rw [Nat.mul_one, HU1.out] at this; exact this)).mono ?_; rintro e ww ⟨rfl, rfl⟩)
        | (go_at_call 17; (with_reducible refine gCall #[.slice _ P _, _] ?_); refine (HS2.out _ _ _ _ _ (hO.rdAt 1 rfl) (by have := (hO.rdAt 0 rfl).take P (by omega); rw [Nat.mul_one, HU2.out] at this; exact this)).mono ?_; rintro e ww ⟨rfl, rfl⟩)
        | (go_at_call 9; refine (live_calls _).mono ?_; rintro e ww ⟨rfl, hb⟩; replace hO := hO.call hb; clear hb))
      replace hO : Own wn _ [.blk bx (.cells (Tok.C ⟨lit, 0, 0⟩) 25 (0,0)), .sl 5 1 (.slice (some ⟨gQ, 0, none⟩) Q cQ) Q (u8s tq), .sl 5 1 (.slice aP P cP) P (u8s tp), .sl 5 1 (.slice (some ⟨gA, 0, none⟩) A cA) A (u8s tl)] := hO
      have d5 : ((Q : Int) == (P : Int) + 1) = true := by have := HQ.out; simp; omega
      have hPb : (P : Int) + 1 ≤ 4000 := by have := HQ.out; omega
      have w1 : IntKind.i64.wrap ((P : Int) + 1) = (P : Int) + 1 := by rw [IntKind.wrap_i64]; omega
      have cq : ww.cell? ⟨gQ, P, none⟩ = some (.int .u8 (lit.toNat : Int)) := (hO.slCell 1 rfl (by omega)).trans HX.out
      have cb : ww.cell? ⟨bx, 0, none⟩ = some (.int .u8 (lit.toNat : Int)) := by rw [cell_of_row ww bx 0 _ _ _ (hO.blk 0 rfl)]; rfl
      go_quiet (fail)
      all_goals go_wp2
      go_ret
      exact ⟨rfl, (hO.drewN _).below⟩
    · obtain ⟨lit, len, dist⟩ := t
      dsimp only at h1 h2 h3 h4 h5 h6
      obtain ⟨L, rfl⟩ : ∃ L : Nat, len = (L : Int) := ⟨len.toNat, by omega⟩
      obtain ⟨D, rfl⟩ : ∃ D : Nat, dist = (D : Int) := ⟨dist.toNat, by omega⟩
      have HQ : Hid (Q = P + L) := by have := HNX.out; unfold Tok.size at this; dsimp only at this; rw [if_neg (by omega)] at this; show _ = _; omega
      have hDP : D ≤ P := by omega
      have hD1 : 1 ≤ D := by omega
      have HG : Hid (∀ i, P ≤ i → i < Q → ∃ x : BitVec 8, (u8s tq)[i]? = some (.int .u8 (x.toNat : Int)) ∧ (u8s tq)[i - D]? = some (.int .u8 (x.toNat : Int))) := fun i hi1 hi2 => by
        have e : tq = again D L tp := by have := HTX.out; unfold Tok.tell at this; dsimp only at this; rw [if_neg (by omega)] at this; exact this
        have hg := again_get D tp hD1 L i (by rw [HLA.out]; exact hi1) (by rw [HLA.out]; have := HQ.out; omega)
        rw [← e] at hg
        have hl : i < tq.length := by rw [HLB.out]; exact hi2
        have hl2 : i - D < tq.length := by omega
        rw [List.getD_eq_getElem?_getD, List.getElem?_eq_getElem hl, List.getD_eq_getElem?_getD, List.getElem?_eq_getElem hl2] at hg
        simp only [Option.getD_some] at hg
        exact ⟨tq[i], u8s_get tq i hl, by rw [hg]; exact u8s_get tq (i - D) hl2⟩
      have e5 : ((L : Int) == 0) = false := by simp; omega
      have e8 : decide ((D : Int) < 1) = false := by simp; omega
      have e8' : decide (D < 1) = false := by simp; omega
      have hQb : Q ≤ 4000 := by omega
      clear h1 h2 h3 h4 h5 h6
      go_enter Try.func7, Try.ntmps7
      go_wp2_with (first
        | ((with_reducible refine gG ?_); refine wpList_want rfl ?_)
        | ((with_reducible refine gAlloc (T := 25) ?_); refine own_alloc hO _ _ itz ?_; clear hO; intro bx ww hO)
        | ((with_reducible refine gLoad (T := 25) ?_); refine ld_tok (hO.rd HR.out) HT.out rfl (by omega) (tA rfl) (tS rfl) ?_)
        | ((with_reducible refine gStore ?_); first | (refine stX hO 0 rfl rfl rfl rfl rfl (tS rfl) ?_; clear hO; intro ww hO) | (refine stC hO 0 rfl rfl rfl (ltb rfl) rfl (tS rfl) ?_; clear hO; intro ww hO))
        | ((with_reducible refine gLoad ?_); first | refine ldX hO 0 rfl rfl (tA rfl) (tS rfl) ?_ | refine ldC hO 0 rfl rfl (tA rfl) rfl ?_)
        | (go_at_call 16; (with_reducible refine gCall #[.slice _ n _, _] ?_); refine (HA.out _ (hO.rd HR.out)).mono ?_; rintro e ww ⟨aA, cA, rfl, hb, hr⟩; replace hO := hO.addRow hb hr; clear hb hr; obtain ⟨gA, rfl⟩ := hO.slPlace 0 rfl hA1; have hcA := (hO.rdAt 0 rfl).le)
        | (go_at_call 16; (with_reducible refine gCall #[.slice _ k _, _] ?_); refine (HB.out _ (hO.rd HRK.out)).mono ?_; rintro e ww ⟨aP, cP, rfl, hb, hr⟩; replace hO := hO.addRow hb hr; clear hb hr)
        | (go_at_call 16; (with_reducible refine gCall #[.slice _ (k + 1) _, _] ?_); refine (HC.out _ (hO.rd HRK1.out)).mono ?_; rintro e ww ⟨aQ, cQ, rfl, hb, hr⟩; replace hO := hO.addRow hb hr; clear hb hr; obtain ⟨gQ, rfl⟩ := hO.slPlace 0 rfl hQ1; have hcQ := (hO.rdAt 0 rfl).le)
        | (go_at_call 17; (with_reducible refine gCall #[.slice _ Q _, _] ?_); refine (HS1.out _ _ _ _ _ (hO.rdAt 0 rfl) (by have := (hO.rdAt 2 rfl).take Q (by omega); rw [Nat.mul_one, HU1.out] at this; exact this)).mono ?_; rintro e ww ⟨rfl, rfl⟩)
        | (go_at_call 17; (with_reducible refine gCall #[.slice _ P _, _] ?_); refine (HS2.out _ _ _ _ _ (hO.rdAt 1 rfl) (by have := (hO.rdAt 0 rfl).take P (by omega); rw [Nat.mul_one, HU2.out] at this; exact this)).mono ?_; rintro e ww ⟨rfl, rfl⟩)
        | (go_at_call 9; refine (live_calls _).mono ?_; rintro e ww ⟨rfl, hb⟩; replace hO := hO.call hb; clear hb))
      replace hO : Own wn _ [.blk bx (.cells (Tok.C ⟨lit, (L : Int), (D : Int)⟩) 25 (0,0)), .sl 5 1 (.slice (some ⟨gQ, 0, none⟩) Q cQ) Q (u8s tq), .sl 5 1 (.slice aP P cP) P (u8s tp), .sl 5 1 (.slice (some ⟨gA, 0, none⟩) A cA) A (u8s tl)] := hO
      go_loopg [13] (Q - P) (fun m s13 wr => ∃ i : Nat, m = Q - i ∧ P ≤ i ∧ i ≤ Q ∧ s13 = .int .i64 (i : Int) ∧ Own wn wr [.blk bx (.cells (Tok.C ⟨lit, (L : Int), (D : Int)⟩) 25 (0,0)), .sl 5 1 (.slice (some ⟨gQ, 0, none⟩) Q cQ) Q (u8s tq), .sl 5 1 (.slice aP P cP) P (u8s tp), .sl 5 1 (.slice (some ⟨gA, 0, none⟩) A cA) A (u8s tl)])
      case atStart => exact ⟨P, rfl, by omega, by omega, rfl, hO⟩
      case round =>
        obtain ⟨i, rfl, hi1, hi2, rfl, hO1⟩ := hrel
        clear hO
        have hO := hO1
        clear hO1
        by_cases c1 : i < Q
        · have g0 : decide ((i : Int) < (Q : Int)) = true := by simp; omega
          have g1 : decide ((i : Int) < (D : Int)) = false := by simp; omega
          have g1' : decide (i < D) = false := by simp; omega
          obtain ⟨x, hx1, hx2⟩ := HG.out i hi1 c1
          have ci : wr.cell? ⟨gQ, i, none⟩ = some (.int .u8 (x.toNat : Int)) := (hO.slCell 1 rfl (by omega)).trans hx1
          have cj : wr.cell? ⟨gQ, ((i : Int) - (D : Int)).toNat, none⟩ = some (.int .u8 (x.toNat : Int)) := by rw [show ((i : Int) - (D : Int)).toNat = i - D by omega]; exact (hO.slCell 1 rfl (by omega)).trans hx2
          have cj2 : wr.cell? ⟨gQ, i - D, none⟩ = some (.int .u8 (x.toNat : Int)) := (hO.slCell 1 rfl (by omega)).trans hx2
          have cb : wr.cell? ⟨bx, 2, none⟩ = some (.int .i64 (D : Int)) := by rw [cell_of_row wr bx 2 _ _ _ (hO.blk 0 rfl)]; rfl
          have w1 : IntKind.i64.wrap ((i : Int) - (D : Int)) = (i : Int) - (D : Int) := by rw [IntKind.wrap_i64]; omega
          have g4 : D ≤ i := by omega
          have g3 : (0 : Int) ≤ (i : Int) - (D : Int) ∧ (i : Int) - (D : Int) < (Q : Int) := by omega
          clear hx1 hx2
          go_wp2
          go_quiet (fail)
          all_goals go_wp2
          go_roundg (Q - (i + 1))
          case measure => omega
          case rel => exact ⟨i + 1, rfl, by omega, by omega, by go_num, hO.drewN _⟩
        · obtain rfl : i = Q := by omega
          obtain rfl : i = P + L := HQ.out
          clear HA HB HC HS1 HS2 HG HU1 HU2 HNX HTX HLB e1 e2 e3 e2' e3' hcut hc1 hc2 hcc c1
          have e6 : wrap64 ((P : Int) + (L : Int)) = (P : Int) + (L : Int) := by unfold wrap64; omega
          go_wp2_with (first
            | ((with_reducible refine gG ?_); refine wpList_want rfl ?_)
            | ((with_reducible refine gLoad ?_); first | refine ldX hO 0 rfl rfl (tA rfl) (tS rfl) ?_ | refine ldC hO 0 rfl rfl (tA rfl) rfl ?_))
          go_ret
          exact ⟨rfl, hO.below⟩
  · have HT := Lib.hid (fun w h => text_bad (some ⟨b0, off, none⟩) n c l 65536 w h (.inl (.inr hF)))
    have HR := Lib.hid hR
    clear hR
    generalize hW : w = wn at hO HR ⊢
    clear hW w
    go_enter Try.func7, Try.ntmps7
    go_wp2_with (first
      | ((with_reducible refine gG ?_); refine wpList_want rfl ?_)
      | (go_at_call 16; refine (HT.out _ (hO.rd HR.out)).mono ?_; rintro e ww ⟨rfl, hb⟩; replace hO := hO.call hb; clear hb)
      | (go_at_call 9; refine (live_calls _).mono ?_; rintro e ww ⟨rfl, hb⟩; replace hO := hO.call hb; clear hb))
    go_ret
    exact ⟨rfl, hO.below⟩
end Go.Proofs.Ytdhcmnblfkhndaa
