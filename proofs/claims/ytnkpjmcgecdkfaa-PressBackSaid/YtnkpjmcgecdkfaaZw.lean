/- Walk: press.Unpack. -/
import Derived.Test.YtnkpjmcgecdkfaaZt
namespace Go.Proofs.Ytnkpjmcgecdkfaa
open Go.RowKit Go.Own Go.Bv Go.Ord Go.Eq Go.Opn Go.Pb Go.Mt

theorem u8s_drop (b : List (BitVec 8)) (k : Nat) : (u8s b).drop k = u8s (b.drop k) := by unfold u8s; rw [List.map_drop]
theorem u8s_all (b : List (BitVec 8)) (n : Nat) (h : b.length ≤ n) : (u8s b).take n = u8s b := List.take_of_length_le (by rw [u8s_length]; exact h)
/-- the octets behind the first four -/
theorem rd_four {w : World} {ba off n cap : Nat} {b : List (BitVec 8)} (hR : Rd w 1 (some ⟨ba, off, none⟩) n cap (u8s b)) (h4 : 4 ≤ n) : Rd w 1 (some ⟨ba, off + 4, none⟩) (n - 4) (cap - 4) (u8s (b.drop 4)) := by
  have hl : b.length = n := by have := hR.len; rw [u8s_length] at this; omega
  have h := hR.cut 4 (n - 4) (by omega)
  rw [u8s_drop, u8s_all _ _ (by simp; omega)] at h
  exact h
theorem longV_le (b : List (BitVec 8)) : Go.Pz.longV b ≤ 65536 := by unfold Go.Pz.longV; split; omega; split <;> omega

set_option maxHeartbeats 8000000 in
set_option maxRecDepth 100000 in
theorem unpack_calls (a : Option Addr) (n cap : Nat) (b : List (BitVec 8)) (most : Int) (w : World) (hR : Rd w 1 a n cap (u8s b)) (hn : n ≤ 10000000) (T : List (BitVec 8)) (E : Int) (M : Nat) (hT : Go.Pz.unT b most = T) (hE : Go.Pz.unE b most = E) (hM : T.length = M) :
    Calls Try.prog 19 #[.slice a n cap, .int .i64 most] w fun e w' => ∃ a' c', e = .returned (.tuple #[.slice a' M c', .int .i64 E]) ∧ Below w.heap.size w w' ∧ w'.ownsRow w.heap.size 5 1 (.slice a' M c') M (u8s T) := by
  have hO := Own.start w
  have hlen : b.length = n := by have := hR.len; rw [u8s_length] at this; omega
  have nilT : E ≠ 0 → T = [] ∧ M = 0 := fun h => by
    have h1 : T = [] := by rw [← hT]; unfold Go.Pz.unT; rw [hE, if_neg h]
    exact ⟨h1, by rw [← hM, h1]; rfl⟩
  by_cases h1 : most < 0
  · have e1 : E = 1 := by rw [← hE]; unfold Go.Pz.unE; rw [if_pos h1]
    obtain ⟨rfl, rfl⟩ := nilT (by rw [e1]; decide)
    subst e1
    have d1 : decide (most < 0) = true := decide_eq_true h1
    clear hR hT hE hM hlen nilT h1
    generalize hW : w = wn at hO ⊢
    clear hW w
    go_enter Try.func19, Try.ntmps19
    go_wp2
    go_ret2
    exact ⟨none, 0, rfl, hO.below, World.ownsRow_nil _ _ _ _⟩
  have d1 : decide (most < 0) = false := decide_eq_false h1
  obtain ⟨V, hV⟩ : ∃ V, Go.Pz.longV b = V := ⟨_, rfl⟩
  obtain ⟨LE, hLE⟩ : ∃ V, Go.Pz.longE b = V := ⟨_, rfl⟩
  have HLO := Lib.hid (fun w h => plong_calls a n cap b w h V LE hV hLE)
  by_cases h2 : LE ≠ 0
  · have e1 : E = LE := by rw [← hE]; unfold Go.Pz.unE; rw [if_neg h1, hLE, if_pos h2]
    obtain ⟨rfl, rfl⟩ := nilT (by rw [e1]; exact h2)
    subst e1
    have d2 : (E == 0) = false := by simpa using h2
    have d2' : decide (E = 0) = false := by simpa using h2
    have HR := Lib.hid hR
    clear hR hT hE hM hlen nilT h1 hV hLE h2
    generalize hW : w = wn at hO HR ⊢
    clear hW w
    go_enter Try.func19, Try.ntmps19
    go_wp2_with (first
      | (go_at_call 15; refine (HLO.out _ (hO.rd HR.out)).mono ?_; rintro e w1 ⟨rfl, rfl⟩))
    go_ret2
    exact ⟨none, 0, rfl, hO.below, World.ownsRow_nil _ _ _ _⟩
  have h2' : LE = 0 := Classical.not_not.1 h2
  rw [h2'] at HLO
  have h9 : 9 ≤ n := by
    rw [h2'] at hLE
    unfold Go.Pz.longE at hLE
    split at hLE
    · cases hLE
    · omega
  have hV65 : V ≤ 65536 := by rw [← hV]; exact longV_le b
  by_cases h3 : most < (V : Int)
  · have e1 : E = 3 := by rw [← hE]; unfold Go.Pz.unE; rw [if_neg h1, hLE, if_neg h2, hV, if_pos h3]
    obtain ⟨rfl, rfl⟩ := nilT (by rw [e1]; decide)
    subst e1
    have d2 : decide (most < (V : Int)) = true := decide_eq_true h3
    have HR := Lib.hid hR
    clear hR hT hE hM hlen nilT h1 hV hLE h2 h2' h3
    generalize hW : w = wn at hO HR ⊢
    clear hW w
    go_enter Try.func19, Try.ntmps19
    go_wp2_with (first
      | (go_at_call 15; refine (HLO.out _ (hO.rd HR.out)).mono ?_; rintro e w1 ⟨rfl, rfl⟩))
    go_ret2
    exact ⟨none, 0, rfl, hO.below, World.ownsRow_nil _ _ _ _⟩
  have d2 : decide (most < (V : Int)) = false := decide_eq_false h3
  obtain ⟨n4, rfl⟩ : ∃ n4, n = n4 + 4 := ⟨n - 4, by omega⟩
  obtain ⟨ba, off, rfl⟩ := hR.place (by omega)
  have hR4 := rd_four hR (by omega)
  rw [Nat.add_sub_cancel] at hR4
  obtain ⟨b4, hb4⟩ : ∃ x, b.drop 4 = x := ⟨_, rfl⟩
  rw [hb4] at hR4
  have hl4 : b4.length = n4 := by rw [← hb4, List.length_drop, hlen, Nat.add_sub_cancel]
  have hmc : n4 + 4 ≤ cap := hR.le
  have hmm := Nat.le_trans hR.le hR.max
  unfold maxLen at hmm
  have hE4 : E = if Go.Kc.opE 528 b4 ≠ 0 then 2 else if (Go.Pz.uloop b4 V V ⟨Go.Kc.open_ 528 b4, false⟩ []).1.bad = true ∨ (Go.Pz.uloop b4 V V ⟨Go.Kc.open_ 528 b4, false⟩ []).1.r.used ≠ n4 then 2 else 0 := by
    rw [← hE]; unfold Go.Pz.unE; rw [if_neg h1, hLE, if_neg h2, hV, if_neg h3, hb4, hlen, Nat.add_sub_cancel]
  by_cases h40 : Go.Kc.opE 528 b4 = 0
  rotate_left
  · have h4 : Go.Kc.opE 528 b4 ≠ 0 := h40
    rw [if_pos h4] at hE4
    obtain ⟨rfl, rfl⟩ := nilT (by rw [hE4]; decide)
    subst hE4
    have h42 : Go.Kc.opE 528 b4 = 2 := by
      unfold Go.Kc.opE at h4 ⊢
      rw [if_pos (by omega)] at h4 ⊢
      split at h4
      · exact absurd rfl h4
      · rename_i hmo; rw [if_neg hmo]
    have HNR := Lib.hid (fun w h => newR_bad 528 (some ⟨ba, off + 4, none⟩) n4 (cap - 4) b4 w h (by omega) 2 h42 (by decide))
    have HR := Lib.hid hR
    have HR4 := Lib.hid hR4
    clear hR hT hE hM hlen nilT h1 hV hLE h2 h2' h3 hR4 hl4 hb4 h4 h40 h42
    generalize hW : w = wn at hO HR HR4 ⊢
    clear hW w
    go_enter Try.func19, Try.ntmps19
    go_wp2_with (first
      | ((with_reducible refine gG ?_); refine wpList_want rfl ?_)
      | (go_at_call 15; refine (HLO.out _ (hO.rd HR.out)).mono ?_; rintro e w1 ⟨rfl, rfl⟩)
      | (go_at_call 29; refine (HNR.out _ (hO.rd HR4.out)).mono ?_; rintro e ww ⟨rfl, hb⟩; replace hO := hO.call hb; clear hb)
      | ((with_reducible refine gBld (T := 56) ?_); refine own_bld #[.pointer none, .int .i64 2] (by kernel_rfl) ?_)
      | ((with_reducible refine gBox ?_); first | (refine bxA hO rfl ?_; clear hO; intro ub ww hO) | (refine bx1 hO rfl rfl ?_; clear hO; intro ub ww hO))
      | ((with_reducible refine gLoad ?_); first | refine ldX hO 0 rfl rfl (tA rfl) (tS rfl) ?_ | refine ldC hO 0 rfl rfl (tA rfl) rfl ?_))
    go_loopg [] 1 (fun q wr => q ≤ 1 ∧ Own wn wr [.blk ub (.cells #[.pointer none, .int .i64 2] 56 (0,0))])
    case atStart => exact ⟨by omega, hO⟩
    case round =>
      obtain ⟨hq, hO1⟩ := hrel
      clear hO
      have hO := hO1
      clear hO1
      go_wp2_with (first
        | ((with_reducible refine gG ?_); refine wpList_want rfl ?_)
        | ((with_reducible refine gLoad ?_); first | refine ldX hO 0 rfl rfl (tA rfl) (tS rfl) ?_ | refine ldC hO 0 rfl rfl (tA rfl) rfl ?_))
      go_ret2
      exact ⟨none, 0, rfl, hO.below, World.ownsRow_nil _ _ _ _⟩
  · rw [if_neg (fun h => h h40)] at hE4
    have ho : Go.Kc.mayOpen b4 := by obtain ⟨_, _, _, h⟩ := Go.Kc.opE_ok h40; exact h
    have hT4 : T = if E = 0 then (Go.Pz.uloop b4 V V ⟨Go.Kc.open_ 528 b4, false⟩ []).2 else [] := by rw [← hT]; unfold Go.Pz.unT; rw [hE, hV, hb4]
    have HNR := Lib.hid (fun w h => newR_ok 528 (by omega) (some ⟨ba, off + 4, none⟩) n4 (cap - 4) b4 w h (by omega) hl4 (by rw [← hl4]; exact ho.1) ho.2.1 _ rfl)
    have HNV : Hid (¬ Go.Kc.val ((b4.drop 1).take 4) = 4294967295) := ho.2.2
    have HOP := Lib.hid (Go.Kc.rok_open (n := 528) ho)
    have HE4 := Lib.hid hE4
    have HT4 := Lib.hid hT4
    have HMM := Lib.hid hM
    have HR := Lib.hid hR
    have HR4 := Lib.hid hR4
    have HB4 := Lib.hid hl4
    have HN4 : Hid (n4 ≤ 10000000) := by show _ ≤ _; omega
    have HNIL := Lib.hid nilT
    clear hR hT hE hM hlen nilT h1 hV hLE h2 h2' h3 hR4 hl4 hb4 h40 ho hE4 hT4
    generalize hW : w = wn at hO HR HR4 ⊢
    clear hW w
    go_enter Try.func19, Try.ntmps19
    go_wp2_with (first
      | ((with_reducible refine gG ?_); refine wpList_want rfl ?_)
      | (go_at_call 15; refine (HLO.out _ (hO.rd HR.out)).mono ?_; rintro e w1 ⟨rfl, rfl⟩)
      | (go_at_call 29; refine (HNR.out _ (hO.rd HR4.out)).mono ?_; rintro e ww hpost; unfold newPost at hpost; rw [if_neg HNV.out] at hpost; obtain ⟨rb, aP, cP, aB, cB, rfl, hK⟩ := hpost; replace hO := hO.join hK; clear hK)
      | ((with_reducible refine gBld (T := 56) ?_); refine own_bld (uC rb false) (by kernel_rfl) ?_)
      | ((with_reducible refine gBox ?_); first | (refine bxA hO rfl ?_; clear hO; intro ub ww hO) | (refine bx1 hO rfl rfl ?_; clear hO; intro ub ww hO)))
    have hO2 : Own wn ww (uL rb ub aB n4 cB aP cP b4 ⟨Go.Kc.open_ 528 b4, false⟩ [.sl 5 1 (.slice none 0 0) 0 (u8s [])]) := by
      have h := hO.add (Below.refl _ _) (r := .sl 5 1 (.slice none 0 0) 0 (u8s [])) (World.ownsRow_nil _ _ _ _)
      exact h.perm ((List.perm_append_comm (l₁ := [_, _]) (l₂ := [_, _, _])).trans (List.Perm.append_left [_, _, _] (List.Perm.swap _ _ _)))
    clear hO
    have hO := hO2
    clear hO2 HNR HLO
    go_loopg [10] (V + 1) (fun mm s10 wr => ∃ (s : Go.Pz.Us) (out : List (BitVec 8)) (K f : Nat) (aO : Option Addr) (cO : Nat), mm = (if s.bad then 0 else V - K + 1) ∧ s10 = .slice aO K cO ∧ K ≤ V ∧ Hid (out.length = K) ∧ Hid (Go.Pz.uloop b4 V f s out = Go.Pz.uloop b4 V V ⟨Go.Kc.open_ 528 b4, false⟩ []) ∧ Hid (s.bad = false → V ≤ K + f) ∧ Hid (Go.Kc.Rok 528 b4 s.r) ∧
      Own wn wr (uL rb ub aB n4 cB aP cP b4 s [.sl 5 1 (.slice aO K cO) K (u8s out)]))
    case atStart => exact ⟨⟨Go.Kc.open_ 528 b4, false⟩, [], 0, V, none, 0, by simp, rfl, by omega, rfl, rfl, fun _ => by omega, HOP.out, hO⟩
    case round =>
      obtain ⟨s, out, K, f, aO, cO, hmm2, rfl, hKV, HK, HF, HV, HRK, hO1⟩ := hrel
      clear hO
      have hO := hO1
      clear hO1
      obtain ⟨r, bad⟩ := s
      cases bad
      · dsimp only at hmm2
        simp only [Bool.false_eq_true, if_false] at hmm2
        unfold uL at hO
        dsimp only at hO
        by_cases hlt : K < V
        · have d5 : decide ((K : Int) < (V : Int)) = true := decide_eq_true (by omega)
          obtain ⟨g, rfl⟩ : ∃ g, f = g + 1 := ⟨f - 1, by have := HV.out rfl; omega⟩
          obtain ⟨t, ht⟩ : ∃ t, (Go.Pz.utok b4 ⟨r, false⟩ out V).1 = t := ⟨_, rfl⟩
          obtain ⟨o2, ho2⟩ : ∃ t, (Go.Pz.utok b4 ⟨r, false⟩ out V).2 = t := ⟨_, rfl⟩
          obtain ⟨K2, hK2⟩ : ∃ K2, o2.length = K2 := ⟨_, rfl⟩
          have hlen2 := Go.Pz.utok_len (b := b4) (s := ⟨r, false⟩) (out := out) (most := V) (by rw [HK.out]; exact hlt)
          rw [ht, ho2, hK2, HK.out] at hlen2
          have hst : Go.Pz.uloop b4 V g t o2 = Go.Pz.uloop b4 V V ⟨Go.Kc.open_ 528 b4, false⟩ [] := by
            rw [← HF.out]
            conv => rhs; unfold Go.Pz.uloop
            rw [if_pos ⟨rfl, by rw [HK.out]; exact hlt⟩, ht, ho2]
          have hrk : Go.Kc.Rok 528 b4 t.r := by rw [← ht]; exact Go.Pz.utok_rok HRK.out out V
          have HTC := Lib.hid (fun (w : World) hO => utok_calls (w0 := wn) (w := w) (L := []) (rb := rb) (ub := ub) (aB := aB) (cB := cB) (aP := aP) (cP := cP) (aO := aO) (cO := cO) b4 ⟨r, false⟩ HRK.out HB4.out HN4.out out HK.out V hKV (by omega) t o2 ht ho2 K2 hK2 hO)
          have HST := Lib.hid hst
          have HRK2 := Lib.hid hrk
          have HL2 := Lib.hid hlen2
          have HK2 := Lib.hid hK2
          have HVG : Hid (V ≤ K + (g + 1)) := HV.out rfl
          clear ht ho2 hst hrk hlen2 hK2 HF HV
          go_wp2_with (first
            | ((with_reducible refine gG ?_); refine wpList_want rfl ?_)
            | ((with_reducible refine gLoad ?_); first | refine ldX hO 0 rfl rfl (tA rfl) (tS rfl) ?_ | refine ldC hO 0 rfl rfl (tA rfl) rfl ?_ | refine ldX hO 1 rfl rfl (tA rfl) (tS rfl) ?_ | refine ldC hO 1 rfl rfl (tA rfl) rfl ?_ | refine ldX hO 2 rfl rfl (tA rfl) (tS rfl) ?_ | refine ldC hO 2 rfl rfl (tA rfl) rfl ?_ | refine ldX hO 3 rfl rfl (tA rfl) (tS rfl) ?_ | refine ldC hO 3 rfl rfl (tA rfl) rfl ?_)
            | (go_at_call 30; refine (HTC.out _ hO).mono ?_; rintro e ww ⟨a2, c2, rfl, hO2⟩; clear hO; have hO := hO2; clear hO2))
          go_roundg (if t.bad then 0 else V - K2 + 1)
          case measure =>
            have h := HL2.out
            cases hb : t.bad
            · have := h.2.1 hb
              simp; omega
            · simp; omega
          case rel => exact ⟨t, o2, K2, g, a2, c2, rfl, rfl, HL2.out.1, HK2.out, HST.out, fun hb => by have h := HL2.out.2.1 hb; have h2 := HVG.out; omega, HRK2.out, hO⟩
        · obtain rfl : K = V := by omega
          have d5 : decide ((K : Int) < (K : Int)) = false := decide_eq_false (by omega)
          have hfin : Go.Pz.uloop b4 K K ⟨Go.Kc.open_ 528 b4, false⟩ [] = (⟨r, false⟩, out) := by
            rw [← HF.out]; exact Go.Pz.uloop_stop (.inr (by rw [HK.out]; exact Nat.le_refl _)) f
          have he := HE4.out
          have ht := HT4.out
          rw [hfin] at he ht
          dsimp only at he ht
          by_cases hu : r.used = n4
          · rw [if_neg (by rintro (h | h); cases h; exact h hu)] at he
            rw [he, if_pos rfl] at ht
            subst ht
            subst he
            obtain rfl : M = K := by rw [← HMM.out, HK.out]
            have d6 : ((r.used : Int) == (n4 : Int)) = true := by simp [hu]
            have d6' : decide ((r.used : Int) = (n4 : Int)) = true := decide_eq_true (by omega)
            clear hfin HF HV HK HE4 HT4 HMM HNIL hmm2
            go_wp2_with (first
              | ((with_reducible refine gG ?_); refine wpList_want rfl ?_)
              | ((with_reducible refine gLoad ?_); first | refine ldX hO 0 rfl rfl (tA rfl) (tS rfl) ?_ | refine ldC hO 0 rfl rfl (tA rfl) rfl ?_ | refine ldX hO 1 rfl rfl (tA rfl) (tS rfl) ?_ | refine ldC hO 1 rfl rfl (tA rfl) rfl ?_ | refine ldX hO 2 rfl rfl (tA rfl) (tS rfl) ?_ | refine ldC hO 2 rfl rfl (tA rfl) rfl ?_ | refine ldX hO 3 rfl rfl (tA rfl) (tS rfl) ?_ | refine ldC hO 3 rfl rfl (tA rfl) rfl ?_)
              | (go_at_call 31; refine (used_calls hO).mono ?_; rintro e w1 ⟨rfl, rfl⟩))
            go_ret2
            exact ⟨aO, cO, rfl, hO.below, hO.row 4 rfl⟩
          · rw [if_pos (.inr hu)] at he
            obtain ⟨e1, e2⟩ := HNIL.out (by rw [he]; decide)
            subst e1
            subst e2
            subst he
            have d6 : ((r.used : Int) == (n4 : Int)) = false := by simp; omega
            have d6' : decide ((r.used : Int) = (n4 : Int)) = false := decide_eq_false (by omega)
            clear hfin HF HV HK HE4 HT4 HMM HNIL hmm2
            go_wp2_with (first
              | ((with_reducible refine gG ?_); refine wpList_want rfl ?_)
              | ((with_reducible refine gLoad ?_); first | refine ldX hO 0 rfl rfl (tA rfl) (tS rfl) ?_ | refine ldC hO 0 rfl rfl (tA rfl) rfl ?_ | refine ldX hO 1 rfl rfl (tA rfl) (tS rfl) ?_ | refine ldC hO 1 rfl rfl (tA rfl) rfl ?_ | refine ldX hO 2 rfl rfl (tA rfl) (tS rfl) ?_ | refine ldC hO 2 rfl rfl (tA rfl) rfl ?_ | refine ldX hO 3 rfl rfl (tA rfl) (tS rfl) ?_ | refine ldC hO 3 rfl rfl (tA rfl) rfl ?_)
              | (go_at_call 31; refine (used_calls hO).mono ?_; rintro e w1 ⟨rfl, rfl⟩))
            go_ret2
            exact ⟨none, 0, rfl, hO.below, World.ownsRow_nil _ _ _ _⟩
      · have hfin : Go.Pz.uloop b4 V V ⟨Go.Kc.open_ 528 b4, false⟩ [] = (⟨r, true⟩, out) := by
          rw [← HF.out]; exact Go.Pz.uloop_stop (.inl rfl) f
        have he := HE4.out
        rw [hfin] at he
        dsimp only at he
        rw [if_pos (.inl rfl)] at he
        obtain ⟨e1, e2⟩ := HNIL.out (by rw [he]; decide)
        subst e1
        subst e2
        subst he
        unfold uL at hO
        dsimp only at hO
        clear hfin HF HV HK HE4 HT4 HMM HNIL hmm2
        go_wp2_with (first
          | ((with_reducible refine gG ?_); refine wpList_want rfl ?_)
          | ((with_reducible refine gLoad ?_); first | refine ldX hO 0 rfl rfl (tA rfl) (tS rfl) ?_ | refine ldC hO 0 rfl rfl (tA rfl) rfl ?_ | refine ldX hO 1 rfl rfl (tA rfl) (tS rfl) ?_ | refine ldC hO 1 rfl rfl (tA rfl) rfl ?_ | refine ldX hO 2 rfl rfl (tA rfl) (tS rfl) ?_ | refine ldC hO 2 rfl rfl (tA rfl) rfl ?_ | refine ldX hO 3 rfl rfl (tA rfl) (tS rfl) ?_ | refine ldC hO 3 rfl rfl (tA rfl) rfl ?_))
        go_ret2
        exact ⟨none, 0, rfl, hO.below, World.ownsRow_nil _ _ _ _⟩
end Go.Proofs.Ytnkpjmcgecdkfaa
