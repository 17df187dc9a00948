/- The walk of CoderShort. -/
import Derived.Test.YtmfeknamdjjbhaaKBack
import Derived.Test.YtmfeknamdjjbhaaKg
namespace Go.Proofs.Ytmfeknamdjjbhaa
open Go.RowKit Go.Own Go.Bv Go.Ord Go.Eq Go.Opn Go.Pb

/-- without its last octet: nothing of five octets may be opened, a longer one ends too early -/
theorem short_facts {n : Nat} {l : List Bt} (hl : l.all (okI (n : Int)) = true) (hk : 0 < (Go.Kc.enc n (Go.Kc.prs l)).k) {b : List (BitVec 8)} (hb : b = (Go.Kc.encT n (Go.Kc.prs l)).take (4 + (Go.Kc.enc n (Go.Kc.prs l)).k)) :
    Go.Kc.mayOpen b ∧ (∀ x ∈ (Go.Kc.prs l).map Prod.fst, x < n) ∧ ∃ j, ∃ hj : j < ((Go.Kc.prs l).map Prod.fst).length,
      (∀ i (hi : i < j), (Go.Kc.rdN b (Go.Kc.open_ n b) (((Go.Kc.prs l).map Prod.fst).take i)).may b (((Go.Kc.prs l).map Prod.fst)[i]'(by omega))) ∧ ¬ (Go.Kc.rdN b (Go.Kc.open_ n b) (((Go.Kc.prs l).map Prod.fst).take j)).may b ((Go.Kc.prs l).map Prod.fst)[j] := by
  have hw := within_ok hl
  obtain ⟨h1, j, hj, h2, h3⟩ := Go.Kc.short_run hw hk hb
  refine ⟨h1, fun x hx => ?_, j, by rw [List.length_map]; exact hj, fun i hi => ?_, ?_⟩
  · obtain ⟨y, hy, rfl⟩ := List.mem_map.1 hx
    exact hw y hy
  · have := h2 i hi
    rw [List.map_take] at this
    rw [List.getElem_map]
    exact this
  · rw [List.map_take] at h3
    rw [List.getElem_map]
    exact h3
/-- a text of five octets alone, one octet less: too short to be opened -/
theorem enc_head {n : Nat} {l : List Bt} (hl : l.all (okI (n : Int)) = true) : (Go.Kc.encT n (Go.Kc.prs l))[0]? = some 0#8 := by
  have h := Go.Kc.encT_head (within_ok hl)
  have h2 : ((Go.Kc.encT n (Go.Kc.prs l)).take 1)[0]? = some 0#8 := by rw [h]; rfl
  rw [List.getElem?_take_of_lt (by decide)] at h2
  exact h2

set_option maxHeartbeats 2000000 in
set_option maxRecDepth 100000 in
theorem newR_few (n : Nat) (hn : n ≤ 1024) (a : Option Addr) (m cap : Nat) (w : World) (h5 : m < 5) :
    Calls Try.prog 12 #[.int .i64 (n : Int), .slice a m cap] w fun e w' => e = .returned (.tuple #[.pointer none, .int .i64 2]) ∧ Below w.heap.size w w' := by
  have hO := Own.start w
  have hnT : newT (n : Int) = List.replicate n 1024 := by unfold newT; rw [if_pos (by omega), Int.toNat_natCast]
  have hnE : newE (n : Int) = 0 := by unfold newE; rw [if_pos (by omega)]
  have HNEW := Lib.hid (fun w => new_calls (n : Int) w n (List.replicate n 1024) 0 (by rw [hnT, List.length_replicate]) hnT hnE)
  have d1 : decide ((m : Int) < 5) = true := decide_eq_true (by omega)
  clear hnT hnE h5
  generalize hWW : w = wn at hO ⊢
  clear hWW w
  go_enter Try.func12, Try.ntmps12
  go_wp2_with (first
    | ((with_reducible refine gG ?_); refine wpList_want rfl ?_)
    | (go_at_call 22; refine (HNEW.out _).mono ?_; rintro e ww ⟨a1, c1, rfl, hb, hr⟩; replace hO := hO.addRow hb hr; clear hb hr))
  go_ret2
  exact ⟨rfl, hO.below⟩

set_option maxHeartbeats 2000000 in
set_option maxRecDepth 100000 in
theorem dec_few (n : Nat) (hn : n ≤ 1024) (a : Option Addr) (m cap : Nat) (a3 : Option Addr) (N c3 : Nat) (w : World) (h5 : m < 5) :
    Calls Try.prog 18 #[.int .i64 (n : Int), .slice a m cap, .slice a3 N c3] w fun e w' => e = .returned (.tuple #[.slice none 0 0, .int .i64 0, .int .i64 2]) ∧ Below w.heap.size w w' := by
  have hO := Own.start w
  have HN := Lib.hid (fun w => newR_few n hn a m cap w h5)
  clear h5 hn
  generalize hWW : w = wn at hO ⊢
  clear hWW w
  go_enter Try.func18, Try.ntmps18
  go_wp2_with (first
    | (go_at_call 12; refine (HN.out _).mono ?_; rintro e ww ⟨rfl, hb⟩; replace hO := hO.call hb; clear hb))
  go_ret3
  exact ⟨rfl, hO.below⟩

theorem short_ar (m M : Nat) (hm : m ≤ 300) (h1 : 5 ≤ M) (h2 : 8 * (M - 5) ≤ 7 * m) : ∃ (M1 q q7 z : Nat), M = M1 + 1 ∧ wrap64 ((m : Int) + 7) = (m : Int) + 7 ∧ ((m : Int) + 7).tdiv 8 = (q : Int) ∧ wrap64 ((q : Int) * 7) = (q7 : Int) ∧ wrap64 (5 + (q7 : Int)) = (z : Int) ∧ wrap64 ((M : Int) - 1) = (M1 : Int) ∧
    IntKind.i64.wrap ((m : Int) + 7) = (m : Int) + 7 ∧ IntKind.i64.wrap (q : Int) = (q : Int) ∧ IntKind.i64.wrap ((q : Int) * 7) = (q7 : Int) ∧ IntKind.i64.wrap (5 + (q7 : Int)) = (z : Int) ∧ IntKind.i64.wrap ((M : Int) - 1) = (M1 : Int) ∧ decide ((z : Int) < (M : Int)) = false ∧ decide (z < M) = false := by
  have e : ((m : Int) + 7).tdiv 8 = ((m : Int) + 7) / 8 := Int.tdiv_eq_ediv_of_nonneg (by omega)
  refine ⟨M - 1, (m + 7) / 8, (m + 7) / 8 * 7, 5 + (m + 7) / 8 * 7, by omega, by unfold wrap64; omega, by rw [e]; omega, by unfold wrap64; omega, by unfold wrap64; omega, by unfold wrap64; omega, by rw [IntKind.wrap_i64]; omega, by rw [IntKind.wrap_i64]; omega, by rw [IntKind.wrap_i64]; omega, by rw [IntKind.wrap_i64]; omega, by rw [IntKind.wrap_i64]; omega, decide_eq_false (by omega), decide_eq_false (by omega)⟩

set_option maxHeartbeats 8000000 in
set_option maxRecDepth 100000 in
theorem short_in (n : Nat) (hn : n ≤ 60) (a : Option Addr) (m c : Nat) (l : List Bt) (w : World)
    (hR : Rd w 2 a m c (bts l)) (hm : m ≤ 300) (hl : l.all (okI (n : Int)) = true) :
    Calls Try.prog 7 #[.int .i64 (n : Int), .slice a m c] w fun e w' => e = .returned (.bool true) ∧ Below w.heap.size w w' := by
  have hO := Own.start w
  have hlen : l.length = m := by have := hR.len; rw [bts_length] at this; omega
  have d1 : decide ((300 : Int) < (m : Int)) = false := decide_eq_false (by omega)
  have d3 : decide ((60 : Int) < (n : Int)) = false := decide_eq_false (by omega)
  obtain ⟨T, hT⟩ : ∃ T, Go.Kc.encT n (Go.Kc.prs l) = T := ⟨_, rfl⟩
  obtain ⟨M, hM⟩ : ∃ M, T.length = M := ⟨_, rfl⟩
  have hMk : M = 5 + (Go.Kc.enc n (Go.Kc.prs l)).k := by rw [← hM, ← hT, Go.Kc.encT_length]
  have hk8 : 8 * (M - 5) ≤ 7 * m := by
    obtain ⟨_, _, _, h4⟩ := Go.Kc.enc_facts (within_ok hl)
    rw [Go.Kc.prs_length, hlen] at h4
    omega
  have hh := enc_head hl
  rw [hT] at hh
  have hg0 : (u8s T)[0]? = some (.int .u8 0) := by
    obtain ⟨h1, h2⟩ := List.getElem?_eq_some_iff.1 hh
    rw [u8s_get T 0 h1, h2]; rfl
  have hEN := fun w h => encode_ok n (by omega) a m c l w h (by omega) hl M T hT hM
  obtain ⟨M1, q, q7, z, hM1, hars⟩ := short_ar m M hm (by omega) hk8
  have hPL := fun w h => places_calls a m c l w h (by omega)
  have hDE : ∀ aX cX aP cP w, Rd w 1 aX M1 cX (u8s (T.take M1)) → Rd w 1 aP m cP (i64s (ats l)) → Calls Try.prog 18 #[.int .i64 (n : Int), .slice aX M1 cX, .slice aP m cP] w fun e w' => e = .returned (.tuple #[.slice none 0 0, .int .i64 0, .int .i64 2]) ∧ Below w.heap.size w w' := fun aX cX aP cP w h1 h2 => by
    by_cases hk0 : (Go.Kc.enc n (Go.Kc.prs l)).k = 0
    · exact dec_few n (by omega) aX M1 cX aP m cP w (by omega)
    · obtain ⟨s1, s2, j, hj, s3, s4⟩ := short_facts hl (b := T.take M1) (by omega) (by rw [hT]; congr 1; omega)
      exact dec_short n (by omega) aX M1 cX (T.take M1) aP m cP ((Go.Kc.prs l).map Prod.fst) w h1 (by rw [nat_ats hl]; exact h2) (by omega) (by omega) (by rw [List.length_take]; omega) s1 s2 j hj s3 s4
  have HUT : Hid ((u8s T).take (M1 * 1) = u8s (T.take M1)) := by show _ = _; unfold u8s; rw [List.map_take, Nat.mul_one]
  have hM0 : 0 < M := by omega
  have hMM : M1 ≤ M := by omega
  have d8 : decide ((M : Int) < 5) = false := decide_eq_false (by omega)
  have d9 : decide (M < 5) = false := decide_eq_false (by omega)
  have HR := Lib.hid hR
  have HEN := Lib.hid hEN
  have HDE := Lib.hid hDE
  have HPL := Lib.hid hPL
  have HG0 := Lib.hid hg0
  clear hR hlen hT hM hEN hDE hPL hl hn hMk hk8 hh hg0 hM1
  generalize hW : w = wn at hO HR ⊢
  clear hW w
  obtain ⟨f1, f2, f3, f4, f5, g1, g2, g3, g4, g5, d6, d7⟩ := hars
  go_enter Try.func7, Try.ntmps7
  go_wp2_with (first
    | ((with_reducible refine gG ?_); refine wpList_want rfl ?_)
    | (go_at_call 9; refine (live_calls _).mono ?_; rintro e ww ⟨rfl, hb⟩; replace hO := hO.call hb; clear hb)
    | (go_at_call 10; refine (HEN.out _ (hO.rd HR.out)).mono ?_; rintro e ww ⟨a5, c5, rfl, hb, hr⟩; replace hO := hO.addRow hb hr; clear hb hr; obtain ⟨g5a, rfl⟩ := hO.slPlace 0 rfl hM0; have hc5 := (hO.rdAt 0 rfl).le)
    | ((with_reducible refine gLoad (T := 5) ?_); refine ld_sl hO 0 rfl rfl HG0.out (tA rfl) ?_))
  refine wp_region_text (by kernel_rfl) (by kernel_rfl) ?_
  replace hO := hO.drew
  generalize World.drew _ = wd at hO ⊢
  go_wp2_with (first
    | (go_at_call 21; refine (HPL.out _ (hO.rd HR.out)).mono ?_; rintro e ww ⟨a8, c8, rfl, hb, hr⟩; replace hO := hO.addRow hb hr; clear hb hr)
    | (go_at_call 18; refine (HDE.out _ _ _ _ _ (by rw [← HUT.out]; exact (hO.rdAt 1 rfl).take M1 hMM) (hO.rdAt 0 rfl)).mono ?_; rintro e ww ⟨rfl, hb⟩; replace hO := hO.call hb; clear hb)
    | ((with_reducible refine gG ?_); refine wpList_want rfl ?_)
    | ((with_reducible refine gI ?_); refine wpI_step rfl rfl (by kernel_rfl) ?_; intro K hK; have HK := Lib.hid hK; clear hK) | ((with_reducible refine gI ?_); first | refine wpI_skip rfl ?_ | refine wpI_want rfl ?_) | ((with_reducible refine gOnlyK0 HK.out ?_); clear HK K; first | (refine wpI_act (by simp only [Act.put, List.setIfInBounds_toArray, List.set_cons_succ, List.set_cons_zero]; rfl) ?_) | skip) | (with_reducible refine wpI_nil ?_))
  go_ret
  exact ⟨rfl, hO.below⟩

set_option maxHeartbeats 8000000 in
set_option maxRecDepth 100000 in
theorem short_walk (x : Int) (a : Option Addr) (m c : Nat) (l : List Bt) (w : World) (hR : Rd w 2 a m c (bts l)) :
    Calls Try.prog 7 #[.int .i64 x, .slice a m c] w fun e w' => e = .returned (.bool true) ∧ Below w.heap.size w w' := by
  by_cases h1 : m ≤ 300
  · have d1 : decide ((300 : Int) < (m : Int)) = false := decide_eq_false (by omega)
    by_cases h3 : x ≤ 60
    · have d3 : decide ((60 : Int) < x) = false := decide_eq_false (by omega)
      by_cases hE : encE x l = 0
      · obtain ⟨n, rfl, _, _, hl, _, _⟩ := enc_ok hE
        exact short_in n (by omega) a m c l w hR h1 hl
      · have hO := Own.start w
        have hT : encO x l = [] := by unfold encO; rw [if_neg hE]
        obtain ⟨E, hEE⟩ : ∃ E, encE x l = E := ⟨_, rfl⟩
        rw [hEE] at hE
        have HEN := Lib.hid (fun w h => encode_calls x a m c l w h 0 [] E hEE hT rfl)
        have HR := Lib.hid hR
        have d4 : (E == 0) = false := by simp [hE]
        clear hR hT hEE h1 h3
        generalize hW : w = wn at hO HR ⊢
        clear hW w
        go_enter Try.func7, Try.ntmps7
        go_wp2_with (first
          | ((with_reducible refine gG ?_); refine wpList_want rfl ?_)
          | (go_at_call 9; refine (live_calls _).mono ?_; rintro e ww ⟨rfl, hb⟩; replace hO := hO.call hb; clear hb)
          | (go_at_call 10; refine (HEN.out _ (hO.rd HR.out)).mono ?_; rintro e ww ⟨a5, c5, rfl, hb, hr⟩; replace hO := hO.addRow hb hr; clear hb hr))
        go_ret
        exact ⟨rfl, hO.below⟩
    · have hO := Own.start w
      have d3 : decide ((60 : Int) < x) = true := decide_eq_true (by omega)
      clear hR h1 h3
      generalize hW : w = wn at hO ⊢
      clear hW w
      go_enter Try.func7, Try.ntmps7
      go_wp2_with (first
        | ((with_reducible refine gG ?_); refine wpList_want rfl ?_)
        | (go_at_call 9; refine (live_calls _).mono ?_; rintro e ww ⟨rfl, hb⟩; replace hO := hO.call hb; clear hb))
      go_ret
      exact ⟨rfl, hO.below⟩
  · have hO := Own.start w
    have d1 : decide ((300 : Int) < (m : Int)) = true := decide_eq_true (by omega)
    clear hR h1
    generalize hW : w = wn at hO ⊢
    clear hW w
    go_enter Try.func7, Try.ntmps7
    go_wp2_with (first
      | ((with_reducible refine gG ?_); refine wpList_want rfl ?_)
      | (go_at_call 9; refine (live_calls _).mono ?_; rintro e ww ⟨rfl, hb⟩; replace hO := hO.call hb; clear hb))
    go_ret
    exact ⟨rfl, hO.below⟩
end Go.Proofs.Ytmfeknamdjjbhaa
