/- The walk of PressBits. -/
import Derived.Test.YtnkpjmcgecdkfaaZp
namespace Go.Proofs.Ytnkpjmcgecdkfaa
open Go.RowKit Go.Own Go.Bv Go.Ord Go.Eq Go.Opn Go.Pb Go.Mt

set_option maxHeartbeats 8000000 in
set_option maxRecDepth 100000 in
theorem pbits_walk (a : Option Addr) (n c : Nat) (l : List Tok) (w : World) (hR : Rd w 3 a n c (tks l)) :
    Calls Try.prog 3 #[.slice a n c] w fun e w' => e = .returned (.bool true) ∧ Below w.heap.size w w' := by
  have hO := Own.start w
  have hlen : l.length = n := by have := hR.len; rw [tks_length] at this; omega
  by_cases hn : n ≤ 100
  · have d1 : decide ((100 : Int) < (n : Int)) = false := decide_eq_false (by omega)
    by_cases hk : okFrom 0 l
    · obtain ⟨B, hB⟩ : ∃ B, Go.Pz.bitsAll l = B := ⟨_, rfl⟩
      obtain ⟨K, hK⟩ : ∃ K, B.length = K := ⟨_, rfl⟩
      have hw := Go.Pz.bits_within hk
      rw [hB] at hw
      have hKb : K ≤ 1300 := by have := Go.Pz.bitsAll_length_le l; rw [hB, hK] at this; omega
      have H1 := Lib.hid (fun w h => bits_ok a n c l w h (by omega) hk B hB K hK)
      have HR := Lib.hid hR
      have HL := Lib.hid hlen
      have HB := Lib.hid hB
      have HK := Lib.hid hK
      have HW := Lib.hid hw
      have HOK := Lib.hid hk
      clear hR hlen hB hK hw hk
      generalize hW : w = wn at hO HR ⊢
      clear hW w
      go_enter Try.func3, Try.ntmps3
      go_wp2_with (first
        | (go_at_call 9; refine (live7_calls _).mono ?_; rintro e ww ⟨rfl, hb⟩; replace hO := hO.call hb; clear hb)
        | (go_at_call 10; refine (H1.out _ (hO.rd HR.out)).mono ?_; rintro e ww ⟨a2, c2, rfl, hb, hr⟩; replace hO := hO.addRow hb hr; clear hb hr))
      clear H1
      go_loopg [6, 36] n (fun mm s6 cc wr => ∃ (k M : Nat), mm = n - k ∧ k ≤ n ∧ cc = .int .i64 (k : Int) ∧ s6 = .int .i64 (M : Int) ∧ M ≤ 13 * k ∧ Hid ((Go.Pz.bitsAll (l.take k)).length = M) ∧ Own wn wr [.sl 32 2 (.slice a2 K c2) K (bts B)])
      case atStart => exact ⟨0, 0, rfl, by omega, rfl, rfl, by omega, rfl, hO⟩
      case round =>
        obtain ⟨k, M, rfl, hkn, rfl, rfl, hMk, HM, hO1⟩ := hrel
        clear hO
        have hO := hO1
        clear hO1
        by_cases c1 : k < n
        · have d2 : decide ((k : Int) < (n : Int)) = true := decide_eq_true (by omega)
          have hkl : k < l.length := by rw [HL.out]; exact c1
          have ht := List.getElem?_eq_getElem (l := l) (i := k) hkl
          have hbn := Go.Pz.bitsAll_next hkl
          have hokk := ((okFrom_next hkl).1 (okFrom_take (k + 1) HOK.out)).2
          generalize l[k] = t at ht hbn hokk
          have hl2 : (Go.Pz.bitsAll (l.take (k + 1))).length = M + (if t.len = 0 then 9 else 13) := by
            rw [hbn, List.length_append, HM.out, Go.Pz.bitsOf_length]
          have HT := Lib.hid ht
          obtain ⟨b0, off, rfl⟩ := HR.out.place (by omega)
          obtain ⟨lit, len, dist⟩ := t
          dsimp only at hl2
          unfold Tok.ok at hokk
          dsimp only at hokk
          by_cases h0 : len = 0
          · subst h0
            rw [if_pos rfl] at hl2
            have HL2 := Lib.hid hl2
            clear hl2 ht hbn hokk hkl
            go_wp2_with (first
              | ((with_reducible refine gAlloc (T := 30) ?_); refine own_alloc hO _ _ itz ?_; clear hO; intro bx ww hO)
              | ((with_reducible refine gLoad (T := 30) ?_); refine ld_tok (hO.rd HR.out) HT.out rfl (by omega) (tA rfl) (tS rfl) ?_)
              | ((with_reducible refine gLoad ?_); first | refine ldX hO 0 rfl rfl (tA rfl) (tS rfl) ?_ | refine ldC hO 0 rfl rfl (tA rfl) rfl ?_)
              | ((with_reducible refine gStore ?_); first | (refine stX hO 0 rfl rfl rfl rfl rfl (tS rfl) ?_; clear hO; intro ww hO) | (refine stC hO 0 rfl rfl rfl (ltb rfl) rfl (tS rfl) ?_; clear hO; intro ww hO)))
            go_roundg (n - (k + 1))
            case measure => omega
            case rel => exact ⟨k + 1, M + 9, rfl, by omega, by go_num, by go_num, by omega, HL2.out, hO.tail⟩
          · rw [if_neg h0] at hl2
            have HL2 := Lib.hid hl2
            have d3 : decide ((0 : Int) < len) = true := decide_eq_true (by omega)
            clear hl2 ht hbn hokk hkl h0
            go_wp2_with (first
              | ((with_reducible refine gAlloc (T := 30) ?_); refine own_alloc hO _ _ itz ?_; clear hO; intro bx ww hO)
              | ((with_reducible refine gLoad (T := 30) ?_); refine ld_tok (hO.rd HR.out) HT.out rfl (by omega) (tA rfl) (tS rfl) ?_)
              | ((with_reducible refine gLoad ?_); first | refine ldX hO 0 rfl rfl (tA rfl) (tS rfl) ?_ | refine ldC hO 0 rfl rfl (tA rfl) rfl ?_)
              | ((with_reducible refine gStore ?_); first | (refine stX hO 0 rfl rfl rfl rfl rfl (tS rfl) ?_; clear hO; intro ww hO) | (refine stC hO 0 rfl rfl rfl (ltb rfl) rfl (tS rfl) ?_; clear hO; intro ww hO)))
            go_roundg (n - (k + 1))
            case measure => omega
            case rel => exact ⟨k + 1, M + 13, rfl, by omega, by go_num, by go_num, by omega, HL2.out, hO.tail⟩
        · obtain rfl : k = n := by omega
          have hMK : M = K := by
            rw [← HM.out, List.take_of_length_le (by rw [HL.out]; exact Nat.le_refl _), HB.out, HK.out]
          subst hMK
          go_wp2
          go_loopg [50] M (fun mm cc wr => ∃ (i : Nat), mm = M - i ∧ i ≤ M ∧ cc = .int .i64 (i : Int) ∧ Own wn wr [.sl 32 2 (.slice a2 M c2) M (bts B)])
          case atStart => exact ⟨0, rfl, by omega, rfl, hO⟩
          case round =>
            obtain ⟨i, rfl, hin, rfl, hO1⟩ := hrel
            clear hO
            have hO := hO1
            clear hO1
            by_cases c2' : i < M
            · have d2 : decide ((i : Int) < (M : Int)) = true := decide_eq_true (by omega)
              have hil : i < B.length := by rw [HK.out]; exact c2'
              have hx := List.getElem?_eq_getElem hil
              have hat := HW.out _ (List.getElem_mem hil)
              have hxv := fun r v => bts_get B i hil r v
              obtain ⟨g, rfl⟩ := hO.slPlace 0 rfl (by omega)
              generalize B[i] = x at hx hat hxv
              obtain ⟨p, bb⟩ := x
              dsimp only at hat
              have HX := Lib.hid hxv
              have i1 : decide (p < 0) = false := decide_eq_false (by omega)
              have i2 : decide ((528 : Int) ≤ p) = false := decide_eq_false (by omega)
              clear hx hil hat hxv
              go_wp2_with (first
                | ((with_reducible refine gG ?_); refine wpList_want rfl ?_)
                | ((with_reducible refine gAlloc (T := 32) ?_); refine own_alloc hO _ _ ibtz ?_; clear hO; intro bx ww hO)
                | ((with_reducible refine gLoad (T := 32) ?_); first | refine ldX hO 0 rfl rfl (tA rfl) (tS rfl) ?_ | refine ld_sls hO 0 (Bt.C ⟨p, bb⟩).toList rfl rfl HX.out (tA rfl) (tS rfl) (by show 0 < 2; omega) ?_ | refine ld_sls hO 1 (Bt.C ⟨p, bb⟩).toList rfl rfl HX.out (tA rfl) (tS rfl) (by show 0 < 2; omega) ?_)
                | ((with_reducible refine gLoad ?_); first | refine ldX hO 0 rfl rfl (tA rfl) (tS rfl) ?_ | refine ldC hO 0 rfl rfl (tA rfl) rfl ?_)
                | ((with_reducible refine gStore ?_); first | (refine stX hO 0 rfl rfl rfl rfl rfl (tS rfl) ?_; clear hO; intro ww hO) | (refine stC hO 0 rfl rfl rfl (ltb rfl) rfl (tS rfl) ?_; clear hO; intro ww hO)))
              go_roundg (M - (i + 1))
              case measure => omega
              case rel => exact ⟨i + 1, rfl, by omega, by go_num, hO.tail⟩
            · obtain rfl : i = M := by omega
              go_wp2_with (first
                | ((with_reducible refine gG ?_); refine wpList_want rfl ?_))
              go_ret
              exact ⟨rfl, hO.below⟩
    · have H1 := Lib.hid (fun w h => bits_bad a n c l w h (.inr hk))
      have H2 := Lib.hid (fun w h => check_calls a n c l w h 1 (fun _ h2 => absurd h2 hk) (fun _ => rfl))
      have HR := Lib.hid hR
      clear hR hlen hk
      generalize hW : w = wn at hO HR ⊢
      clear hW w
      go_enter Try.func3, Try.ntmps3
      go_wp2_with (first
        | ((with_reducible refine gG ?_); refine wpList_want rfl ?_)
        | (go_at_call 9; refine (live7_calls _).mono ?_; rintro e ww ⟨rfl, hb⟩; replace hO := hO.call hb; clear hb)
        | (go_at_call 10; refine (H1.out _ (hO.rd HR.out)).mono ?_; rintro e ww ⟨rfl, hb⟩; replace hO := hO.call hb; clear hb)
        | (go_at_call 11; refine (H2.out _ (hO.rd HR.out)).mono ?_; rintro e ww ⟨rfl, hb⟩; replace hO := hO.call hb; clear hb))
      go_ret
      exact ⟨rfl, hO.below⟩
  · have d1 : decide ((100 : Int) < (n : Int)) = true := decide_eq_true (by omega)
    clear hR hlen hn
    generalize hW : w = wn at hO ⊢
    clear hW w
    go_enter Try.func3, Try.ntmps3
    go_wp2_with (first
      | (go_at_call 9; refine (live7_calls _).mono ?_; rintro e ww ⟨rfl, hb⟩; replace hO := hO.call hb; clear hb))
    go_ret
    exact ⟨rfl, hO.below⟩
end Go.Proofs.Ytnkpjmcgecdkfaa
