/- The walk of PressBack. -/
import Derived.Test.YtnkpjmcgecdkfaaZw
import Derived.Test.YtnkpjmcgecdkfaaZd
import Derived.Test.YtnkpjmcgecdkfaaZs
namespace Go.Proofs.Ytnkpjmcgecdkfaa
open Go.RowKit Go.Own Go.Bv Go.Ord Go.Eq Go.Opn Go.Pb Go.Mt

theorem pback_ar (n : Nat) (hn : n ≤ 10000000) (h0 : 0 < n) : ∃ n1 : Nat, n = n1 + 1 ∧ n1 ≤ n ∧ wrap64 ((n : Int) - 1) = (n1 : Int) ∧ IntKind.i64.wrap ((n : Int) - 1) = (n1 : Int) ∧ (n1 : Int) = (n : Int) - 1 := by
  refine ⟨n - 1, by omega, by omega, by unfold wrap64; omega, by rw [IntKind.wrap_i64]; omega, by omega⟩

set_option maxHeartbeats 8000000 in
set_option maxRecDepth 100000 in
theorem pback_in (a : Option Addr) (n c : Nat) (bs : List (BitVec 8)) (a2 : Option Addr) (m2 c2 : Nat) (tl : List (BitVec 8)) (w : World)
    (hR : Rd w 1 a n c (u8s bs)) (hR2 : Rd w 1 a2 m2 c2 (u8s tl)) (hn : n ≤ 200) (hm2 : m2 ≤ 20) :
    Calls Try.prog 7 #[.slice a n c, .slice a2 m2 c2] w fun e w' => e = .returned (.bool true) ∧ Below w.heap.size w w' := by
  have hO := Own.start w
  have hlen : bs.length = n := by have := hR.len; rw [u8s_length] at this; omega
  have htl : tl.length = m2 := by have := hR2.len; rw [u8s_length] at this; omega
  have d1 : decide ((200 : Int) < (n : Int)) = false := decide_eq_false (by omega)
  have d2 : decide ((20 : Int) < (m2 : Int)) = false := decide_eq_false (by omega)
  obtain ⟨T, hT⟩ : ∃ T, Go.Pz.packT bs = T := ⟨_, rfl⟩
  obtain ⟨M, hM⟩ : ∃ M, T.length = M := ⟨_, rfl⟩
  have hP := Go.Pz.packed bs
  have hMl : 9 ≤ M ∧ M ≤ 10000 := by
    have h1 := Go.Pz.pack_short bs
    have h2 : (Go.Pz.packT bs).length = 4 + (5 + (Go.Kc.enc 528 (Go.Kc.prs (Go.Pz.bitsAll (tokens bs)))).k) := by
      unfold Go.Pz.packT
      rw [List.length_append, Go.Pz.le4_length, Go.Kc.encT_length]
    rw [hT, hM] at h1 h2
    omega
  have hU1 := Go.Pz.un_back bs [] (by omega)
  have hU4 := (Go.Pz.un_back bs tl (by omega)).1
  have hU3 := Go.Pz.un_cut bs (by omega)
  have hU2 := fun h => Go.Pz.un_less bs (by omega) h
  rw [List.append_nil, hT, hlen] at hU1
  rw [hT, hlen, htl] at hU4
  rw [hT, hlen, hM] at hU3
  rw [hT, hlen] at hU2
  obtain ⟨M1, hM1, hMM, f1, f2, f3⟩ := pback_ar M (by omega) (by omega)
  have eM : M - 1 = M1 := by omega
  rw [eM] at hU3
  have HPA := Lib.hid (fun w h => pack_ok a n c bs w h (by omega) T hT M hM)
  have HLO := Lib.hid (fun a c w h => plong_calls a M c T w h n 0 (by have h := (Go.Pz.long_le4 bs.length (by omega) (Go.Kc.encT 528 (Go.Kc.prs (Go.Pz.bitsAll (tokens bs)))) (by rw [Go.Kc.encT_length]; omega)).2; rw [← hlen, ← hT]; exact h) (by have h := (Go.Pz.long_le4 bs.length (by omega) (Go.Kc.encT 528 (Go.Kc.prs (Go.Pz.bitsAll (tokens bs)))) (by rw [Go.Kc.encT_length]; omega)).1; rw [← hT]; exact h))
  have HU1 := Lib.hid (fun a c w h => unpack_calls a M c T (n : Int) w h (by omega) bs 0 n (hU1.2 rfl) (by rw [hU1.1]; rfl) hlen)
  have HU3 := Lib.hid (fun a c w h => unpack_calls a M1 c (T.take M1) (n : Int) w h (by omega) [] 2 0 (by unfold Go.Pz.unT; rw [hU3]; rfl) hU3 rfl)
  obtain ⟨E4, B4, hE4, dm, dm', de, de'⟩ : ∃ (E4 : Int) (B4 : Bool), Go.Pz.unE (T ++ tl) (n : Int) = E4 ∧ decide ((m2 : Int) = 0) = B4 ∧ ((m2 : Int) == 0) = B4 ∧ decide (E4 = 0) = B4 ∧ (E4 == 0) = B4 := by
    rw [hU4]; refine ⟨_, decide (m2 = 0), rfl, ?_, ?_, ?_, ?_⟩ <;> by_cases h : m2 = 0 <;> simp [h]
  have HU4 := Lib.hid (fun a c w h => unpack_calls a (M + m2) c (T ++ tl) (n : Int) w h (by omega) _ E4 _ rfl hE4 rfl)
  have HSA := Lib.hid (fun a1 c1 a2 c2 w h1 h2 => (same_calls a1 a2 n c1 n c2 bs bs w h1 h2))
  have HSE : decide (bs = bs) = true := by simp
  have HUA : Hid (∀ p q : List (BitVec 8), u8s p ++ u8s q = u8s (p ++ q)) := fun p q => by unfold u8s; rw [List.map_append]
  have HUT : Hid ((u8s T).take (M1 * 1) = u8s (T.take M1)) := by show _ = _; unfold u8s; rw [List.map_take, Nat.mul_one]
  have HR := Lib.hid hR
  have HR2 := Lib.hid hR2
  have HU2 := Lib.hid (fun (n1 : Nat) (h : (n1 : Int) = (n : Int) - 1) (h0 : 0 < n) a c w hh => unpack_calls a M c T (n1 : Int) w hh (by omega) [] 3 0 (by unfold Go.Pz.unT; rw [h, hU2 h0]; rfl) (by rw [h, hU2 h0]) rfl)
  obtain ⟨hM9, hM10⟩ := hMl
  have hM0 : 0 < M := by omega
  rcases Nat.eq_zero_or_pos n with h0 | h0
  · have d3 : decide ((0 : Int) < (n : Int)) = false := decide_eq_false (by omega)
    have d3' : decide (0 < n) = false := decide_eq_false (by omega)
    clear hR hR2 hT hM hP hlen htl hU1 hU2 hU3 hU4 hE4 hM1 eM f3 HU2 h0 hn hM9
    generalize hW : w = wn at hO HR HR2 ⊢
    clear hW w
    go_enter Try.func7, Try.ntmps7
    go_wp2_with (first
      | ((with_reducible refine gG ?_); refine wpList_want rfl ?_)
      | (go_at_call 9; refine (live7_calls _).mono ?_; rintro e ww ⟨rfl, hb⟩; replace hO := hO.call hb; clear hb)
      | (go_at_call 12; refine (HPA.out _ (hO.rd HR.out)).mono ?_; rintro e ww ⟨a5, c5, rfl, hb, hr⟩; replace hO := hO.addRow hb hr; clear hb hr; obtain ⟨g5a, rfl⟩ := hO.slPlace 0 rfl hM0; have hc5 := (hO.rdAt 0 rfl).le)
      | (go_at_call 15; refine (HLO.out _ _ _ (hO.rdAt 0 rfl)).mono ?_; rintro e w1 ⟨rfl, rfl⟩)
      | (go_at_call 19; (with_reducible refine gCall #[.slice (some ⟨g5a, 0, none⟩) M _, .int .i64 (n : Int)] ?_); refine (HU1.out _ _ _ (hO.rdAt 0 rfl)).mono ?_; rintro e ww ⟨a6, c6, rfl, hb, hr⟩; replace hO := hO.addRow hb hr; clear hb hr)
      | (go_at_call 18; refine (HSA.out _ _ _ _ _ (hO.rdAt 0 rfl) (hO.rd HR.out)).mono ?_; rintro e w1 ⟨rfl, rfl⟩; first | (refine wpI_act (by simp only [Act.put, List.setIfInBounds_toArray, List.set_cons_succ, List.set_cons_zero]; rfl) ?_) | skip)
      | (go_at_call 19; (with_reducible refine gCall #[.slice _ M1 _, _] ?_); refine (HU3.out _ _ _ (by rw [← HUT.out]; exact (hO.rdAt 1 rfl).take M1 hMM)).mono ?_; rintro e ww ⟨a7, c7, rfl, hb, hr⟩; replace hO := hO.call hb; clear hb hr)
      | ((with_reducible refine gAppendNil ?_); refine own_appendNil hO _ _ 34 eu8 rfl rfl (hO.rdAt 1 rfl) (u8s_one _) (by simp [maxLen]; omega) (by omega) ?_; clear hO; intro a8 c8 ww hO)
      | ((with_reducible refine gAppend ?_); refine own_append hO 0 _ _ 34 eu8 rfl rfl rfl (hO.rd HR2.out) (u8s_one _) (M + m2) rfl (by simp [maxLen]; omega) (by omega) ?_; clear hO; intro a9 c9 ww hO)
      | (go_at_call 19; (with_reducible refine gCall #[.slice _ (M + m2) _, _] ?_); refine (HU4.out _ _ _ (by rw [← HUA.out]; exact hO.rdAt 0 rfl)).mono ?_; rintro e ww ⟨a10, c10, rfl, hb, hr⟩; replace hO := hO.call hb; clear hb hr))
    go_ret
    exact ⟨rfl, hO.below⟩
  · have d3 : decide ((0 : Int) < (n : Int)) = true := decide_eq_true (by omega)
    have d3' : decide (0 < n) = true := decide_eq_true (by omega)
    obtain ⟨n1, hn1, _, g1, g2, g3⟩ := pback_ar n (by omega) h0
    have HU2' := Lib.hid (HU2.out n1 g3 h0)
    clear hR hR2 hT hM hP hlen htl hU1 hU2 hU3 hU4 hE4 hM1 eM f3 HU2 h0 hn hM9 hn1 g3
    generalize hW : w = wn at hO HR HR2 ⊢
    clear hW w
    go_enter Try.func7, Try.ntmps7
    go_wp2_with (first
      | ((with_reducible refine gG ?_); refine wpList_want rfl ?_)
      | (go_at_call 9; refine (live7_calls _).mono ?_; rintro e ww ⟨rfl, hb⟩; replace hO := hO.call hb; clear hb)
      | (go_at_call 12; refine (HPA.out _ (hO.rd HR.out)).mono ?_; rintro e ww ⟨a5, c5, rfl, hb, hr⟩; replace hO := hO.addRow hb hr; clear hb hr; obtain ⟨g5a, rfl⟩ := hO.slPlace 0 rfl hM0; have hc5 := (hO.rdAt 0 rfl).le)
      | (go_at_call 15; refine (HLO.out _ _ _ (hO.rdAt 0 rfl)).mono ?_; rintro e w1 ⟨rfl, rfl⟩)
      | (go_at_call 19; (with_reducible refine gCall #[.slice (some ⟨g5a, 0, none⟩) M _, .int .i64 (n : Int)] ?_); refine (HU1.out _ _ _ (hO.rdAt 0 rfl)).mono ?_; rintro e ww ⟨a6, c6, rfl, hb, hr⟩; replace hO := hO.addRow hb hr; clear hb hr)
      | (go_at_call 19; (with_reducible refine gCall #[_, .int .i64 (n1 : Int)] ?_); refine (HU2'.out _ _ _ (hO.rdAt 1 rfl)).mono ?_; rintro e ww ⟨a6b, c6b, rfl, hb, hr⟩; replace hO := hO.call hb; clear hb hr)
      | (go_at_call 18; refine (HSA.out _ _ _ _ _ (hO.rdAt 0 rfl) (hO.rd HR.out)).mono ?_; rintro e w1 ⟨rfl, rfl⟩; first | (refine wpI_act (by simp only [Act.put, List.setIfInBounds_toArray, List.set_cons_succ, List.set_cons_zero]; rfl) ?_) | skip)
      | (go_at_call 19; (with_reducible refine gCall #[.slice _ M1 _, _] ?_); refine (HU3.out _ _ _ (by rw [← HUT.out]; exact (hO.rdAt 1 rfl).take M1 hMM)).mono ?_; rintro e ww ⟨a7, c7, rfl, hb, hr⟩; replace hO := hO.call hb; clear hb hr)
      | ((with_reducible refine gAppendNil ?_); refine own_appendNil hO _ _ 34 eu8 rfl rfl (hO.rdAt 1 rfl) (u8s_one _) (by simp [maxLen]; omega) (by omega) ?_; clear hO; intro a8 c8 ww hO)
      | ((with_reducible refine gAppend ?_); refine own_append hO 0 _ _ 34 eu8 rfl rfl rfl (hO.rd HR2.out) (u8s_one _) (M + m2) rfl (by simp [maxLen]; omega) (by omega) ?_; clear hO; intro a9 c9 ww hO)
      | (go_at_call 19; (with_reducible refine gCall #[.slice _ (M + m2) _, _] ?_); refine (HU4.out _ _ _ (by rw [← HUA.out]; exact hO.rdAt 0 rfl)).mono ?_; rintro e ww ⟨a10, c10, rfl, hb, hr⟩; replace hO := hO.call hb; clear hb hr))
    go_ret
    exact ⟨rfl, hO.below⟩

set_option maxHeartbeats 8000000 in
set_option maxRecDepth 100000 in
theorem pback_walk (a : Option Addr) (n c : Nat) (bs : List (BitVec 8)) (a2 : Option Addr) (m2 c2 : Nat) (tl : List (BitVec 8)) (w : World)
    (hR : Rd w 1 a n c (u8s bs)) (hR2 : Rd w 1 a2 m2 c2 (u8s tl)) :
    Calls Try.prog 7 #[.slice a n c, .slice a2 m2 c2] w fun e w' => e = .returned (.bool true) ∧ Below w.heap.size w w' := by
  by_cases h1 : n ≤ 200
  · have d1 : decide ((200 : Int) < (n : Int)) = false := decide_eq_false (by omega)
    by_cases h2 : m2 ≤ 20
    · exact pback_in a n c bs a2 m2 c2 tl w hR hR2 h1 h2
    · have hO := Own.start w
      have d2 : decide ((20 : Int) < (m2 : Int)) = true := decide_eq_true (by omega)
      clear hR hR2 h1 h2
      generalize hW : w = wn at hO ⊢
      clear hW w
      go_enter Try.func7, Try.ntmps7
      go_wp2_with (first
        | ((with_reducible refine gG ?_); refine wpList_want rfl ?_)
        | (go_at_call 9; refine (live7_calls _).mono ?_; rintro e ww ⟨rfl, hb⟩; replace hO := hO.call hb; clear hb))
      go_ret
      exact ⟨rfl, hO.below⟩
  · have hO := Own.start w
    have d1 : decide ((200 : Int) < (n : Int)) = true := decide_eq_true (by omega)
    clear hR hR2 h1
    generalize hW : w = wn at hO ⊢
    clear hW w
    go_enter Try.func7, Try.ntmps7
    go_wp2_with (first
      | ((with_reducible refine gG ?_); refine wpList_want rfl ?_)
      | (go_at_call 9; refine (live7_calls _).mono ?_; rintro e ww ⟨rfl, hb⟩; replace hO := hO.call hb; clear hb))
    go_ret
    exact ⟨rfl, hO.below⟩
end Go.Proofs.Ytnkpjmcgecdkfaa
