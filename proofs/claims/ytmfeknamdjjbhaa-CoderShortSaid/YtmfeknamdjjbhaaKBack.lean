/- The walk of CoderBack. -/
import Derived.Test.YtmfeknamdjjbhaaKf
namespace Go.Kc
open Go.Pb
theorem begins_app {n : Nat} {l : List (Nat × Bool)} (tl : List (BitVec 8)) : Begins n l (encT n l ++ tl) := by
  refine ⟨by rw [List.length_append, encT_length]; omega, ?_⟩
  rw [List.take_append_of_le_length (by rw [encT_length]; exact Nat.le_refl _), List.take_of_length_le (by rw [encT_length]; exact Nat.le_refl _)]
end Go.Kc
namespace Go.Proofs.Ytmfeknamdjjbhaa
open Go.RowKit Go.Own Go.Bv Go.Ord Go.Eq Go.Opn Go.Pb

theorem nat_ats {n : Nat} {l : List Bt} (hl : l.all (okI (n : Int)) = true) : natI ((Go.Kc.prs l).map Prod.fst) = ats l := by
  unfold natI ats Go.Kc.prs
  rw [List.map_map, List.map_map]
  refine List.map_congr_left fun x hx => ?_
  have h := List.all_eq_true.1 hl x hx
  simp only [okI, Bool.and_eq_true, decide_eq_true_eq] at h
  show ((x.at_.toNat : Nat) : Int) = x.at_
  omega
/-- what Decode wants, of a text that begins with what was written of the bits up to a place -/
theorem back_facts {n : Nat} {l : List Bt} (hl : l.all (okI (n : Int)) = true) {b : List (BitVec 8)} (hb : Go.Kc.Begins n (Go.Kc.prs l) b) (c : Nat) :
    Go.Kc.mayOpen b ∧ (∀ x ∈ (Go.Kc.prs (l.take c)).map Prod.fst, x < n) ∧
    (∀ j (hj : j < ((Go.Kc.prs (l.take c)).map Prod.fst).length) (hq : j < ((l.take c).map Bt.b).length), (Go.Kc.rdN b (Go.Kc.open_ n b) (((Go.Kc.prs (l.take c)).map Prod.fst).take j)).set ((Go.Kc.prs (l.take c)).map Prod.fst)[j] = ((l.take c).map Bt.b)[j] ∧ (Go.Kc.rdN b (Go.Kc.open_ n b) (((Go.Kc.prs (l.take c)).map Prod.fst).take j)).may b ((Go.Kc.prs (l.take c)).map Prod.fst)[j]) ∧
    (Go.Kc.rdN b (Go.Kc.open_ n b) ((Go.Kc.prs (l.take c)).map Prod.fst)).used = (Go.Kc.encT n (Go.Kc.prs (l.take c))).length := by
  have hw := within_ok hl
  obtain ⟨h1, h2, h3⟩ := Go.Kc.back_run hw hb c
  rw [← Go.Kc.prs_take] at h2 h3
  refine ⟨h1, fun x hx => ?_, fun j hj hq => ?_, by rw [h3, Go.Kc.encT_length]⟩
  · obtain ⟨y, hy, rfl⟩ := List.mem_map.1 hx
    rw [Go.Kc.prs_take] at hy
    exact hw y (List.mem_of_mem_take hy)
  · have hj' : j < (Go.Kc.prs (l.take c)).length := by rw [List.length_map] at hj; exact hj
    obtain ⟨s1, s2⟩ := h2 j hj'
    rw [List.map_take] at s1 s2
    rw [List.getElem_map, List.getElem_map]
    have e : (Go.Kc.prs (l.take c))[j].2 = ((l.take c)[j]'(by rw [List.length_map] at hq; exact hq)).b := by simp [Go.Kc.prs]
    rw [← e]
    exact ⟨s1, s2⟩

theorem enc_ok {x : Int} {l : List Bt} (h : encE x l = 0) : ∃ n : Nat, x = (n : Int) ∧ n ≤ 1024 ∧ l.length ≤ 1048576 ∧ l.all (okI (n : Int)) = true ∧ encO x l = Go.Kc.encT n (Go.Kc.prs l) ∧ (encO x l).length ≤ 5 + l.length := by
  have h0 := h
  unfold encE at h
  split at h
  · rename_i h1
    split at h
    · rename_i h2
      split at h
      · rename_i h3
        obtain ⟨n, rfl⟩ : ∃ n : Nat, x = (n : Int) := ⟨x.toNat, by omega⟩
        have e : encO (n : Int) l = Go.Kc.encT n (Go.Kc.prs l) := by unfold encO; rw [if_pos h0, Int.toNat_natCast]
        refine ⟨n, rfl, by omega, h2, h3, e, ?_⟩
        rw [e, Go.Kc.encT_length]
        obtain ⟨_, _, _, h4⟩ := Go.Kc.enc_facts (within_ok h3)
        rw [Go.Kc.prs_length] at h4
        omega
      · cases h
    · cases h
  · cases h

set_option maxHeartbeats 8000000 in
set_option maxRecDepth 100000 in
theorem back_in (n : Nat) (hn : n ≤ 60) (a : Option Addr) (m c : Nat) (l : List Bt) (a2 : Option Addr) (m2 c2 : Nat) (tl : List (BitVec 8)) (w : World)
    (hR : Rd w 2 a m c (bts l)) (hR2 : Rd w 1 a2 m2 c2 (u8s tl)) (hm : m ≤ 300) (hm2 : m2 ≤ 100) (hl : l.all (okI (n : Int)) = true) :
    Calls Try.prog 6 #[.int .i64 (n : Int), .slice a m c, .slice a2 m2 c2] w fun e w' => e = .returned (.bool true) ∧ Below w.heap.size w w' := by
  have hO := Own.start w
  have hlen : l.length = m := by have := hR.len; rw [bts_length] at this; omega
  have htl : tl.length = m2 := by have := hR2.len; rw [u8s_length] at this; omega
  have d1 : decide ((300 : Int) < (m : Int)) = false := decide_eq_false (by omega)
  have d2 : decide ((100 : Int) < (m2 : Int)) = false := decide_eq_false (by omega)
  have d3 : decide ((60 : Int) < (n : Int)) = false := decide_eq_false (by omega)
  obtain ⟨T, hT⟩ : ∃ T, Go.Kc.encT n (Go.Kc.prs l) = T := ⟨_, rfl⟩
  obtain ⟨M, hM⟩ : ∃ M, T.length = M := ⟨_, rfl⟩
  have hMl : M ≤ 305 := by
    obtain ⟨_, _, _, h4⟩ := Go.Kc.enc_facts (within_ok hl)
    rw [Go.Kc.prs_length, hlen] at h4
    rw [← hM, ← hT, Go.Kc.encT_length]; omega
  have hM0 : 0 < M := by rw [← hM, ← hT, Go.Kc.encT_length]; omega
  have hEN := fun w h => encode_ok n (by omega) a m c l w h (by omega) hl M T hT hM
  have hbf := back_facts hl (b := T ++ tl) (by rw [← hT]; exact Go.Kc.begins_app tl) m
  rw [List.take_of_length_le (by omega)] at hbf
  obtain ⟨f1, f2, f3, f4⟩ := hbf
  rw [hT, hM] at f4
  have hblen : (T ++ tl).length = M + m2 := by rw [List.length_append, hM, htl]
  have hDE := fun aX cX aP cP w h1 (h2 : Rd w 1 aP m cP (i64s (ats l))) => dec_ok n (by omega) aX (M + m2) cX (T ++ tl) aP m cP ((Go.Kc.prs l).map Prod.fst) (l.map Bt.b) w h1 (by rw [nat_ats hl]; exact h2) (by omega) (by omega) hblen f1 f2 (by rw [List.length_map, hlen]) f3 M f4
  have hPL := fun w h => places_calls a m c l w h (by omega)
  have HR := Lib.hid hR
  have HR2 := Lib.hid hR2
  have HL := Lib.hid hlen
  have HEN := Lib.hid hEN
  have HDE := Lib.hid hDE
  have HPL := Lib.hid hPL
  have HUA : Hid (∀ p q : List (BitVec 8), u8s p ++ u8s q = u8s (p ++ q)) := fun p q => by unfold u8s; rw [List.map_append]
  have d4 : ((M : Int) == (M : Int)) = true := by simp
  have d5 : ((m : Int) == (m : Int)) = true := by simp
  clear hR hR2 hlen htl hT hM hEN f1 f2 f3 f4 hDE hPL hblen hl hn
  generalize hW : w = wn at hO HR HR2 ⊢
  clear hW w
  go_enter Try.func6, Try.ntmps6
  go_wp2_with (first
    | ((with_reducible refine gG ?_); refine wpList_want rfl ?_)
    | (go_at_call 9; refine (live_calls _).mono ?_; rintro e ww ⟨rfl, hb⟩; replace hO := hO.call hb; clear hb)
    | (go_at_call 10; refine (HEN.out _ (hO.rd HR.out)).mono ?_; rintro e ww ⟨a5, c5, rfl, hb, hr⟩; replace hO := hO.addRow hb hr; clear hb hr)
    | ((with_reducible refine gAppendNil ?_); refine own_appendNil hO _ _ 26 eu8 rfl rfl (hO.rdAt 0 rfl) (u8s_one _) (by simp [maxLen]; omega) (by omega) ?_; clear hO; intro a6 c6 ww hO)
    | ((with_reducible refine gAppend ?_); refine own_append hO 0 _ _ 26 eu8 rfl rfl rfl (hO.rd HR2.out) (u8s_one _) (M + m2) rfl (by simp [maxLen]; omega) (by omega) ?_; clear hO; intro a7 c7 ww hO)
    | (go_at_call 21; refine (HPL.out _ (hO.rd HR.out)).mono ?_; rintro e ww ⟨a8, c8, rfl, hb, hr⟩; replace hO := hO.addRow hb hr; clear hb hr)
    | (go_at_call 18; refine (HDE.out _ _ _ _ _ (by rw [← HUA.out]; exact hO.rdAt 1 rfl) (hO.rdAt 0 rfl)).mono ?_; rintro e ww ⟨a9, c9, rfl, hb, hr⟩; replace hO := hO.addRow hb hr; clear hb hr))
  have hO2 : Own wn ww [.sl 4 1 (.slice a9 m c9) m (blv (l.map Bt.b))] := hO.sub (List.Sublist.cons_cons _ (List.nil_sublist _))
  clear hO HEN HDE HPL HR2
  have hO := hO2
  clear hO2
  go_loopg [72] m (fun q s72 wr => ∃ k : Nat, q = m - k ∧ k ≤ m ∧ s72 = .int .i64 (k : Int) ∧ Own wn wr [.sl 4 1 (.slice a9 m c9) m (blv (l.map Bt.b))])
  case atStart => exact ⟨0, rfl, by omega, rfl, hO⟩
  case round =>
    obtain ⟨k, rfl, hk, rfl, hO1⟩ := hrel
    clear hO
    have hO := hO1
    clear hO1
    by_cases hlt : k < m
    · have hb0 : decide ((k : Int) < (m : Int)) = true := decide_eq_true (by omega)
      have hkl : k < l.length := by rw [HL.out]; exact hlt
      obtain ⟨ba, off, rfl⟩ := HR.out.place (by omega)
      obtain ⟨g9, rfl⟩ := hO.slPlace 0 rfl (by omega)
      have hx := List.getElem?_eq_getElem hkl
      have hg := blv_get (l.map Bt.b) k (by rw [List.length_map]; exact hkl)
      rw [List.getElem_map] at hg
      generalize l[k] = x at hx hg
      have HX := Lib.hid hx
      have HG := Lib.hid hg
      clear hx hg hkl
      obtain ⟨p, bb⟩ := x
      dsimp only at HG
      have db : (bb == bb) = true := by simp
      go_wp2_with (first
        | ((with_reducible refine gAlloc (T := 25) ?_); refine own_alloc hO _ _ ibtz ?_; clear hO; intro bx ww hO)
        | ((with_reducible refine gLoad (T := 25) ?_); refine ld_bt (hO.rd HR.out) HX.out rfl (by omega) (tA rfl) (tS rfl) ?_)
        | ((with_reducible refine gLoad ?_); first | refine ldX hO 0 rfl rfl (tA rfl) (tS rfl) ?_ | refine ldC hO 0 rfl rfl (tA rfl) rfl ?_)
        | ((with_reducible refine gStore ?_); first | (refine stX hO 0 rfl rfl rfl rfl rfl (tS rfl) ?_; clear hO; intro ww hO) | (refine stC hO 0 rfl rfl rfl (ltb rfl) rfl (tS rfl) ?_; clear hO; intro ww hO)))
      replace hO : Own wn _ [.blk bx (.cells (Bt.C ⟨p, bb⟩) 25 (0,0)), .sl 4 1 (.slice (some ⟨g9, 0, none⟩) m c9) m (blv (l.map Bt.b))] := hO
      refine wp_region_textS (fun w' => Own wn w' [.blk bx (.cells (Bt.C ⟨p, bb⟩) 25 (0,0)), .sl 4 1 (.slice (some ⟨g9, 0, none⟩) m c9) m (blv (l.map Bt.b))]) (fun op => match op with | .load _ _ => true | _ => false) (by kernel_rfl) (by kernel_rfl) hO.drew ?_
      replace hO := hO.drew
      generalize World.drew _ = wd at hO ⊢
      go_wp2_with (first
        | (((with_reducible refine gIL ?_); first | refine wpI_ldcS (fun w' hS => hS.blk 0 rfl) rfl rfl (tA rfl) rfl ?_); first | (refine wpI_act (by simp only [Act.put, List.setIfInBounds_toArray, List.set_cons_succ, List.set_cons_zero]; rfl) ?_) | skip)
        | ((with_reducible refine gIL ?_); refine wpI_ld1S (fun w' hS => (hS.slCell 1 rfl (by omega)).trans HG.out) rfl rfl (tA rfl) ?_; first | (refine wpI_act (by simp only [Act.put, List.setIfInBounds_toArray, List.set_cons_succ, List.set_cons_zero]; rfl) ?_) | skip)
        | ((with_reducible refine gI ?_); refine wpI_step rfl rfl (by kernel_rfl) ?_; intro K hK; have HK := Lib.hid hK; clear hK) | ((with_reducible refine gI ?_); first | refine wpI_skip rfl ?_ | refine wpI_want rfl ?_) | ((with_reducible refine gOnlyK HK.out ?_ ?_); exact hO; clear HK K; first | (refine wpI_act (by simp only [Act.put, List.setIfInBounds_toArray, List.set_cons_succ, List.set_cons_zero]; rfl) ?_) | skip) | (with_reducible refine wpI_nil ?_))
      go_roundg (m - (k + 1))
      case measure => omega
      case rel => exact ⟨k + 1, rfl, by omega, by go_num, hO.tail⟩
    · obtain rfl : k = m := by omega
      go_wp2
      go_ret
      exact ⟨rfl, hO.below⟩

set_option maxHeartbeats 8000000 in
set_option maxRecDepth 100000 in
theorem back_walk (x : Int) (a : Option Addr) (m c : Nat) (l : List Bt) (a2 : Option Addr) (m2 c2 : Nat) (tl : List (BitVec 8)) (w : World)
    (hR : Rd w 2 a m c (bts l)) (hR2 : Rd w 1 a2 m2 c2 (u8s tl)) :
    Calls Try.prog 6 #[.int .i64 x, .slice a m c, .slice a2 m2 c2] w fun e w' => e = .returned (.bool true) ∧ Below w.heap.size w w' := by
  by_cases h1 : m ≤ 300
  · have d1 : decide ((300 : Int) < (m : Int)) = false := decide_eq_false (by omega)
    by_cases h2 : m2 ≤ 100
    · have d2 : decide ((100 : Int) < (m2 : Int)) = false := decide_eq_false (by omega)
      by_cases h3 : x ≤ 60
      · have d3 : decide ((60 : Int) < x) = false := decide_eq_false (by omega)
        by_cases hE : encE x l = 0
        · obtain ⟨n, rfl, _, _, hl, _, _⟩ := enc_ok hE
          exact back_in n (by omega) a m c l a2 m2 c2 tl w hR hR2 h1 h2 hl
        · have hO := Own.start w
          have hT : encO x l = [] := by unfold encO; rw [if_neg hE]
          obtain ⟨E, hEE⟩ : ∃ E, encE x l = E := ⟨_, rfl⟩
          rw [hEE] at hE
          have HEN := Lib.hid (fun w h => encode_calls x a m c l w h 0 [] E hEE hT rfl)
          have HR := Lib.hid hR
          have d4 : (E == 0) = false := by simp [hE]
          clear hR hR2 hT hEE h1 h2 h3
          generalize hW : w = wn at hO HR ⊢
          clear hW w
          go_enter Try.func6, Try.ntmps6
          go_wp2_with (first
            | ((with_reducible refine gG ?_); refine wpList_want rfl ?_)
            | (go_at_call 9; refine (live_calls _).mono ?_; rintro e ww ⟨rfl, hb⟩; replace hO := hO.call hb; clear hb)
            | (go_at_call 10; refine (HEN.out _ (hO.rd HR.out)).mono ?_; rintro e ww ⟨a5, c5, rfl, hb, hr⟩; replace hO := hO.addRow hb hr; clear hb hr))
          go_ret
          exact ⟨rfl, hO.below⟩
      · have hO := Own.start w
        have d3 : decide ((60 : Int) < x) = true := decide_eq_true (by omega)
        clear hR hR2 h1 h2 h3
        generalize hW : w = wn at hO ⊢
        clear hW w
        go_enter Try.func6, Try.ntmps6
        go_wp2_with (first
          | ((with_reducible refine gG ?_); refine wpList_want rfl ?_)
          | (go_at_call 9; refine (live_calls _).mono ?_; rintro e ww ⟨rfl, hb⟩; replace hO := hO.call hb; clear hb))
        go_ret
        exact ⟨rfl, hO.below⟩
    · have hO := Own.start w
      have d2 : decide ((100 : Int) < (m2 : Int)) = true := decide_eq_true (by omega)
      clear hR hR2 h1 h2
      generalize hW : w = wn at hO ⊢
      clear hW w
      go_enter Try.func6, Try.ntmps6
      go_wp2_with (first
        | ((with_reducible refine gG ?_); refine wpList_want rfl ?_)
        | (go_at_call 9; refine (live_calls _).mono ?_; rintro e ww ⟨rfl, hb⟩; replace hO := hO.call hb; clear hb))
      go_ret
      exact ⟨rfl, hO.below⟩
  · have hO := Own.start w
    have d1 : decide ((300 : Int) < (m : Int)) = true := decide_eq_true (by omega)
    clear hR hR2 h1
    generalize hW : w = wn at hO ⊢
    clear hW w
    go_enter Try.func6, Try.ntmps6
    go_wp2_with (first
      | ((with_reducible refine gG ?_); refine wpList_want rfl ?_)
      | (go_at_call 9; refine (live_calls _).mono ?_; rintro e ww ⟨rfl, hb⟩; replace hO := hO.call hb; clear hb))
    go_ret
    exact ⟨rfl, hO.below⟩
end Go.Proofs.Ytmfeknamdjjbhaa
