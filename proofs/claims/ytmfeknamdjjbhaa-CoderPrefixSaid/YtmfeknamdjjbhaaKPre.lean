/- The walk of CoderPrefix. -/
import Derived.Test.YtmfeknamdjjbhaaKBack
namespace Go.Pb
theorem bts_take : ∀ (l : List Bt) (k : Nat), (bts l).take (k * 2) = bts (l.take k)
  | [], k => by simp [bts]
  | x :: l, 0 => by simp [bts]
  | x :: l, k + 1 => by
    rw [show (k + 1) * 2 = k * 2 + 2 by omega]
    simp only [bts, List.take_succ_cons]
    rw [bts_take l k]
end Go.Pb
namespace Go.Proofs.Ytmfeknamdjjbhaa
open Go.RowKit Go.Own Go.Bv Go.Ord Go.Eq Go.Opn Go.Pb

theorem cut_in (x : Int) (n : Nat) (hn : 0 < n) : ∃ k : Nat, k < n ∧ ((x.tmod n) + n).tmod n = (k : Int) ∧ -(n : Int) < x.tmod n ∧ x.tmod n < n := by
  have h1 : -(n : Int) < x.tmod n := by
    have := Int.lt_tmod_of_pos x (show (0 : Int) < n by omega); omega
  have h2 : x.tmod n < n := Int.tmod_lt_of_pos x (by omega)
  have h3 : 0 ≤ ((x.tmod n) + n).tmod n := Int.tmod_nonneg _ (by omega)
  have h4 : ((x.tmod n) + n).tmod n < n := Int.tmod_lt_of_pos _ (by omega)
  exact ⟨(((x.tmod n) + n).tmod n).toNat, by omega, by omega, h1, h2⟩
/-- the cut, each number an atom -/
theorem pre_cut (m : Nat) (y : Int) (hm : m ≤ 200) : ∃ (S k : Nat) (R Q W : Int), k ≤ m ∧ y.tmod (S : Int) = R ∧ W.tmod (S : Int) = (k : Int) ∧
    wrap64 ((m : Int) + 1) = (S : Int) ∧ wrap64 (R + (m : Int)) = Q ∧ wrap64 (Q + 1) = W ∧
    IntKind.i64.wrap ((m : Int) + 1) = (S : Int) ∧ IntKind.i64.wrap (R + (m : Int)) = Q ∧ IntKind.i64.wrap (Q + 1) = W ∧ ((S : Int) == 0) = false ∧ ¬ S = 0 ∧ ¬ (S : Int) = 0 := by
  obtain ⟨k, hk, hcut, h1, h2⟩ := cut_in y (m + 1) (by omega)
  have hcut2 : (y.tmod ((m + 1 : Nat) : Int) + (m : Int) + 1).tmod ((m + 1 : Nat) : Int) = (k : Int) := by
    rw [← hcut]
    congr 1
    rw [Int.natCast_add, Int.natCast_one, Int.add_assoc]
  clear hcut
  refine ⟨m + 1, k, y.tmod ((m + 1 : Nat) : Int), y.tmod ((m + 1 : Nat) : Int) + (m : Int), y.tmod ((m + 1 : Nat) : Int) + (m : Int) + 1, Nat.le_of_lt_succ hk, rfl, hcut2, ?_⟩
  clear hcut2
  generalize y.tmod ((m + 1 : Nat) : Int) = R at h1 h2
  refine ⟨by unfold wrap64; omega, by unfold wrap64; omega, by unfold wrap64; omega, by rw [IntKind.wrap_i64]; omega, by rw [IntKind.wrap_i64]; omega, by rw [IntKind.wrap_i64]; omega, ?_, by omega, by omega⟩
  exact beq_false_of_ne (by omega)
theorem pre_shorter {n : Nat} {l : List Bt} (hl : l.all (okI (n : Int)) = true) (k : Nat) : (Go.Kc.encT n (Go.Kc.prs (l.take k))).length ≤ (Go.Kc.encT n (Go.Kc.prs l)).length := by
  have hw := within_ok hl
  rw [Go.Kc.encT_length, Go.Kc.encT_length]
  have hwc : Go.Kc.within (Go.Kc.start n).p.length (Go.Kc.prs (l.take k)) := fun x hx => by rw [Go.Kc.start_len]; rw [Go.Kc.prs_take] at hx; exact hw x (List.mem_of_mem_take hx)
  obtain ⟨f1, _, f3, _⟩ := Go.Kc.run_facts (Go.Kc.start_good n) hwc
  have e : Go.Kc.enc n (Go.Kc.prs l) = ((Go.Kc.start n).run (Go.Kc.prs (l.take k))).run ((Go.Kc.prs l).drop k) := by
    rw [← Go.Kc.run_append, Go.Kc.prs_take, List.take_append_drop]; rfl
  have := (Go.Kc.run_facts f1 (l := (Go.Kc.prs l).drop k) fun x hx => by
    rw [f3, Go.Kc.start_len]
    exact hw x (List.mem_of_mem_drop hx)).2.1.k
  rw [← e] at this
  exact Nat.add_le_add_left this 5

set_option maxHeartbeats 8000000 in
set_option maxRecDepth 100000 in
theorem pre_in (n : Nat) (hn : n ≤ 60) (a : Option Addr) (m c : Nat) (l : List Bt) (y : Int) (w : World)
    (hR : Rd w 2 a m c (bts l)) (hm : m ≤ 200) (hl : l.all (okI (n : Int)) = true) :
    Calls Try.prog 8 #[.int .i64 (n : Int), .slice a m c, .int .i64 y] w fun e w' => e = .returned (.bool true) ∧ Below w.heap.size w w' := by
  have hO := Own.start w
  have hlen : l.length = m := by have := hR.len; rw [bts_length] at this; omega
  have d1 : decide ((200 : Int) < (m : Int)) = false := decide_eq_false (by omega)
  have d3 : decide ((60 : Int) < (n : Int)) = false := decide_eq_false (by omega)
  obtain ⟨S, k, R, QQ, WW, hkm, hcuts⟩ := pre_cut m y hm
  have HCUTS := Lib.hid hcuts
  clear hcuts
  have hkc : k ≤ c := Nat.le_trans hkm hR.le
  obtain ⟨T, hT⟩ : ∃ T, Go.Kc.encT n (Go.Kc.prs l) = T := ⟨_, rfl⟩
  obtain ⟨M, hM⟩ : ∃ M, T.length = M := ⟨_, rfl⟩
  obtain ⟨TP, hTP⟩ : ∃ T, Go.Kc.encT n (Go.Kc.prs (l.take k)) = T := ⟨_, rfl⟩
  obtain ⟨P, hP⟩ : ∃ M, TP.length = M := ⟨_, rfl⟩
  have hPM := pre_shorter hl k
  rw [hT, hTP, hM, hP] at hPM
  have hMl : M ≤ 205 := by
    obtain ⟨_, _, _, h4⟩ := Go.Kc.enc_facts (within_ok hl)
    rw [Go.Kc.prs_length, hlen] at h4
    rw [← hM, ← hT, Go.Kc.encT_length]; omega
  have hlk : (l.take k).all (okI (n : Int)) = true := List.all_eq_true.2 fun x hx => List.all_eq_true.1 hl x (List.mem_of_mem_take hx)
  have hRK := hR.take k hkm
  rw [bts_take] at hRK
  have hEN := fun w h => encode_ok n (by omega) a m c l w h (by omega) hl M T hT hM
  have hEN2 := fun w h => encode_ok n (by omega) a k c (l.take k) w h (by omega) hlk P TP hTP hP
  have hbf := back_facts hl (b := T) (by rw [← hT]; have := Go.Kc.begins_app (n := n) (l := Go.Kc.prs l) []; rw [List.append_nil] at this; exact this) k
  obtain ⟨b1, b2, b3, b4⟩ := hbf
  rw [hTP, hP] at b4
  have hDE := fun aX cX aP cP w h1 (h2 : Rd w 1 aP k cP (i64s (ats (l.take k)))) => dec_ok n (by omega) aX M cX T aP k cP ((Go.Kc.prs (l.take k)).map Prod.fst) ((l.take k).map Bt.b) w h1 (by rw [nat_ats hlk]; exact h2) (by omega) (by omega) hM b1 b2 (by rw [List.length_map, List.length_take, hlen]; omega) b3 P b4
  have hPL := fun w h => places_calls a k c (l.take k) w h (by omega)
  have HR := Lib.hid hR
  have HRK := Lib.hid hRK
  have HL := Lib.hid hlen
  have HEN := Lib.hid hEN
  have HEN2 := Lib.hid hEN2
  have HDE := Lib.hid hDE
  have HPL := Lib.hid hPL
  have d4 : ((P : Int) == (P : Int)) = true := by simp
  have d5 : ((k : Int) == (k : Int)) = true := by simp
  have d6 : decide ((M : Int) < (P : Int)) = false := decide_eq_false (by omega)
  have d7 : decide (M < P) = false := decide_eq_false (by omega)
  clear hR hRK hlen hT hM hTP hP hEN hEN2 b1 b2 b3 b4 hDE hPL hl hlk hn hPM hMl
  obtain ⟨hRR, hcut, f1, f2, f3, g1, g2, g3, f4, f7, f8⟩ := HCUTS.out
  clear HCUTS
  generalize hW : w = wn at hO HR HRK ⊢
  clear hW w
  go_enter Try.func8, Try.ntmps8
  go_wp2_with (first
    | ((with_reducible refine gG ?_); refine wpList_want rfl ?_)
    | (go_at_call 9; refine (live_calls _).mono ?_; rintro e ww ⟨rfl, hb⟩; replace hO := hO.call hb; clear hb)
    | (go_at_call 10; (with_reducible refine gCall #[_, .slice _ m _] ?_); refine (HEN.out _ (hO.rd HR.out)).mono ?_; rintro e ww ⟨a5, c5, rfl, hb, hr⟩; replace hO := hO.addRow hb hr; clear hb hr)
    | (go_at_call 10; (with_reducible refine gCall #[_, .slice _ k _] ?_); refine (HEN2.out _ (hO.rd HRK.out)).mono ?_; rintro e ww ⟨a6, c6, rfl, hb, hr⟩; replace hO := hO.addRow hb hr; clear hb hr)
    | (go_at_call 21; refine (HPL.out _ (hO.rd HRK.out)).mono ?_; rintro e ww ⟨a8, c8, rfl, hb, hr⟩; replace hO := hO.addRow hb hr; clear hb hr)
    | (go_at_call 18; refine (HDE.out _ _ _ _ _ (hO.rdAt 2 rfl) (hO.rdAt 0 rfl)).mono ?_; rintro e ww ⟨a9, c9, rfl, hb, hr⟩; replace hO := hO.addRow hb hr; clear hb hr))
  have HLK : Hid ((l.take k).length = k) := by show _ = _; rw [List.length_take, HL.out]; omega
  have hO2 : Own wn ww [.sl 4 1 (.slice a9 k c9) k (blv ((l.take k).map Bt.b))] := hO.sub (List.Sublist.cons_cons _ (List.nil_sublist _))
  clear hO HEN HEN2 HDE HPL hRR hcut f1 f2 f3 g1 g2 g3 f4 f7 f8
  have hO := hO2
  clear hO2
  go_loopg [96] k (fun q s96 wr => ∃ ii : Nat, q = k - ii ∧ ii ≤ k ∧ s96 = .int .i64 (ii : Int) ∧ Own wn wr [.sl 4 1 (.slice a9 k c9) k (blv ((l.take k).map Bt.b))])
  case atStart => exact ⟨0, rfl, by omega, rfl, hO⟩
  case round =>
    obtain ⟨ii, rfl, hk, rfl, hO1⟩ := hrel
    clear hO
    have hO := hO1
    clear hO1
    by_cases hlt : ii < k
    · have hb0 : decide ((ii : Int) < (k : Int)) = true := decide_eq_true (by omega)
      have hkl : ii < (l.take k).length := by rw [HLK.out]; exact hlt
      obtain ⟨ba, off, rfl⟩ := HRK.out.place (by omega)
      obtain ⟨g9, rfl⟩ := hO.slPlace 0 rfl (by omega)
      have hx := List.getElem?_eq_getElem hkl
      have hg := blv_get ((l.take k).map Bt.b) ii (by rw [List.length_map]; exact hkl)
      rw [List.getElem_map] at hg
      generalize (l.take k)[ii] = x at hx hg
      have HX := Lib.hid hx
      have HG := Lib.hid hg
      clear hx hg hkl
      obtain ⟨p, bb⟩ := x
      dsimp only at HG
      have db : (bb == bb) = true := by simp
      go_wp2_with (first
        | ((with_reducible refine gAlloc (T := 25) ?_); refine own_alloc hO _ _ ibtz ?_; clear hO; intro bx ww hO)
        | ((with_reducible refine gLoad (T := 25) ?_); refine ld_bt (hO.rd HRK.out) HX.out rfl (by omega) (tA rfl) (tS rfl) ?_)
        | ((with_reducible refine gLoad ?_); first | refine ldX hO 0 rfl rfl (tA rfl) (tS rfl) ?_ | refine ldC hO 0 rfl rfl (tA rfl) rfl ?_)
        | ((with_reducible refine gStore ?_); first | (refine stX hO 0 rfl rfl rfl rfl rfl (tS rfl) ?_; clear hO; intro ww hO) | (refine stC hO 0 rfl rfl rfl (ltb rfl) rfl (tS rfl) ?_; clear hO; intro ww hO)))
      replace hO : Own wn _ [.blk bx (.cells (Bt.C ⟨p, bb⟩) 25 (0,0)), .sl 4 1 (.slice (some ⟨g9, 0, none⟩) k c9) k (blv ((l.take k).map Bt.b))] := hO
      refine wp_region_textS (fun w' => Own wn w' [.blk bx (.cells (Bt.C ⟨p, bb⟩) 25 (0,0)), .sl 4 1 (.slice (some ⟨g9, 0, none⟩) k c9) k (blv ((l.take k).map Bt.b))]) (fun op => match op with | .load _ _ => true | _ => false) (by kernel_rfl) (by kernel_rfl) hO.drew ?_
      replace hO := hO.drew
      generalize World.drew _ = wd at hO ⊢
      go_wp2_with (first
        | (((with_reducible refine gIL ?_); first | refine wpI_ldcS (fun w' hS => hS.blk 0 rfl) rfl rfl (tA rfl) rfl ?_); first | (refine wpI_act (by simp only [Act.put, List.setIfInBounds_toArray, List.set_cons_succ, List.set_cons_zero]; rfl) ?_) | skip)
        | ((with_reducible refine gIL ?_); refine wpI_ld1S (fun w' hS => (hS.slCell 1 rfl (by omega)).trans HG.out) rfl rfl (tA rfl) ?_; first | (refine wpI_act (by simp only [Act.put, List.setIfInBounds_toArray, List.set_cons_succ, List.set_cons_zero]; rfl) ?_) | skip)
        | ((with_reducible refine gI ?_); refine wpI_step rfl rfl (by kernel_rfl) ?_; intro K hK; have HK := Lib.hid hK; clear hK) | ((with_reducible refine gI ?_); first | refine wpI_skip rfl ?_ | refine wpI_want rfl ?_) | ((with_reducible refine gOnlyK HK.out ?_ ?_); exact hO; clear HK K; first | (refine wpI_act (by simp only [Act.put, List.setIfInBounds_toArray, List.set_cons_succ, List.set_cons_zero]; rfl) ?_) | skip) | (with_reducible refine wpI_nil ?_))
      go_roundg (k - (ii + 1))
      case measure => omega
      case rel => exact ⟨ii + 1, rfl, by omega, by go_num, hO.tail⟩
    · obtain rfl : ii = k := by omega
      go_wp2
      go_ret
      exact ⟨rfl, hO.below⟩

set_option maxHeartbeats 8000000 in
set_option maxRecDepth 100000 in
theorem pre_walk (x : Int) (a : Option Addr) (m c : Nat) (l : List Bt) (y : Int) (w : World) (hR : Rd w 2 a m c (bts l)) :
    Calls Try.prog 8 #[.int .i64 x, .slice a m c, .int .i64 y] w fun e w' => e = .returned (.bool true) ∧ Below w.heap.size w w' := by
  by_cases h1 : m ≤ 200
  · have d1 : decide ((200 : Int) < (m : Int)) = false := decide_eq_false (by omega)
    by_cases h3 : x ≤ 60
    · have d3 : decide ((60 : Int) < x) = false := decide_eq_false (by omega)
      by_cases hE : encE x l = 0
      · obtain ⟨n, rfl, _, _, hl, _, _⟩ := enc_ok hE
        exact pre_in n (by omega) a m c l y w hR h1 hl
      · have hO := Own.start w
        have hT : encO x l = [] := by unfold encO; rw [if_neg hE]
        obtain ⟨E, hEE⟩ : ∃ E, encE x l = E := ⟨_, rfl⟩
        rw [hEE] at hE
        have HEN := Lib.hid (fun w h => encode_calls x a m c l w h 0 [] E hEE hT rfl)
        have HR := Lib.hid hR
        have d4 : (E == 0) = false := by simp [hE]
        obtain ⟨S, k, R, QQ, WW, hkm, hcuts⟩ := pre_cut m y h1
        have hkc : k ≤ c := Nat.le_trans hkm hR.le
        clear hR hT hEE h1 h3
        generalize hW : w = wn at hO HR ⊢
        clear hW w
        obtain ⟨hRR, hcut, f1, f2, f3, g1, g2, g3, f4, f7, f8⟩ := hcuts
        go_enter Try.func8, Try.ntmps8
        go_wp2_with (first
          | ((with_reducible refine gG ?_); refine wpList_want rfl ?_)
          | (go_at_call 9; refine (live_calls _).mono ?_; rintro e ww ⟨rfl, hb⟩; replace hO := hO.call hb; clear hb)
          | (go_at_call 10; refine (HEN.out _ (hO.rd HR.out)).mono ?_; rintro e ww ⟨a5, c5, rfl, hb, hr⟩; replace hO := hO.addRow hb hr; clear hb hr))
        go_ret
        exact ⟨rfl, hO.below⟩
    · have hO := Own.start w
      have d3 : decide ((60 : Int) < x) = true := decide_eq_true (by omega)
      clear hR h1 h3
      generalize hW : w = wn at hO ⊢
      clear hW w
      go_enter Try.func8, Try.ntmps8
      go_wp2_with (first
        | ((with_reducible refine gG ?_); refine wpList_want rfl ?_)
        | (go_at_call 9; refine (live_calls _).mono ?_; rintro e ww ⟨rfl, hb⟩; replace hO := hO.call hb; clear hb))
      go_ret
      exact ⟨rfl, hO.below⟩
  · have hO := Own.start w
    have d1 : decide ((200 : Int) < (m : Int)) = true := decide_eq_true (by omega)
    clear hR h1
    generalize hW : w = wn at hO ⊢
    clear hW w
    go_enter Try.func8, Try.ntmps8
    go_wp2_with (first
      | ((with_reducible refine gG ?_); refine wpList_want rfl ?_)
      | (go_at_call 9; refine (live_calls _).mono ?_; rintro e ww ⟨rfl, hb⟩; replace hO := hO.call hb; clear hb))
    go_ret
    exact ⟨rfl, hO.below⟩
end Go.Proofs.Ytmfeknamdjjbhaa
