/- The walk of CoderApart. -/
import Derived.Test.YtmfeknamdjjbhaaKl
namespace Go.Proofs.Ytmfeknamdjjbhaa
open Go.RowKit Go.Own Go.Bv Go.Ord Go.Eq Go.Opn Go.Pb

instance : DecidableEq Bt := fun x y => decidable_of_iff (x.at_ = y.at_ ∧ x.b = y.b) ⟨fun h => by cases x; cases y; simp only at h; rw [h.1, h.2], fun h => by rw [h]; exact ⟨rfl, rfl⟩⟩
theorem take_eqs {l r : List Bt} {k : Nat} {x y : Bt} (hx : l[k]? = some x) (hy : r[k]? = some y) : (l.take (k + 1) = r.take (k + 1)) ↔ (l.take k = r.take k ∧ x = y) := by
  obtain ⟨h1, e1⟩ := List.getElem?_eq_some_iff.1 hx
  obtain ⟨h2, e2⟩ := List.getElem?_eq_some_iff.1 hy
  rw [List.take_succ_eq_append_getElem h1, List.take_succ_eq_append_getElem h2, e1, e2]
  constructor
  · intro h
    have := List.append_inj' h rfl
    exact ⟨this.1, by simpa using this.2⟩
  · rintro ⟨h, rfl⟩
    rw [h]
theorem take_ats {l r : List Bt} {k : Nat} {x y : Bt} (hx : l[k]? = some x) (hy : r[k]? = some y) (h : (l.take k).map Bt.at_ = (r.take k).map Bt.at_) (e : x.at_ = y.at_) : (l.take (k + 1)).map Bt.at_ = (r.take (k + 1)).map Bt.at_ := by
  obtain ⟨h1, e1⟩ := List.getElem?_eq_some_iff.1 hx
  obtain ⟨h2, e2⟩ := List.getElem?_eq_some_iff.1 hy
  rw [List.take_succ_eq_append_getElem h1, List.take_succ_eq_append_getElem h2, e1, e2, List.map_append, List.map_append, h]
  simp [e]

/-- the law, of what is computed -/
theorem apart_law {x : Int} {l r : List Bt} (h : l.map Bt.at_ = r.map Bt.at_) : encE x l = encE x r ∧ (encE x l = 0 → decide (encO x l = encO x r) = decide (l = r)) := by
  have hlen : l.length = r.length := by have := congrArg List.length h; simpa using this
  have hall : l.all (okI x) = r.all (okI x) := by
    have e : ∀ q : List Bt, q.all (okI x) = (q.map Bt.at_).all (fun p => decide (0 ≤ p) && decide (p < x)) := fun q => by rw [List.all_map]; rfl
    rw [e, e, h]
  have hE : encE x l = encE x r := by unfold encE; rw [hlen, hall]
  refine ⟨hE, fun h0 => ?_⟩
  have h0' := h0
  rw [hE] at h0'
  unfold encO
  rw [if_pos h0, if_pos h0']
  have hx : 0 ≤ x ∧ l.all (okI x) = true := by
    unfold encE at h0
    split at h0
    · rename_i h1
      split at h0
      · split at h0
        · rename_i h2; exact ⟨h1.1, h2⟩
        · cases h0
      · cases h0
    · cases h0
  obtain ⟨n, rfl⟩ : ∃ n : Nat, x = (n : Int) := ⟨x.toNat, by omega⟩
  have hw := within_ok hx.2
  have hf : (Go.Kc.prs l).map Prod.fst = (Go.Kc.prs r).map Prod.fst := by
    have e : ∀ q : List Bt, (Go.Kc.prs q).map Prod.fst = (q.map Bt.at_).map Int.toNat := fun q => by unfold Go.Kc.prs; rw [List.map_map, List.map_map]; rfl
    rw [e, e, h]
  have hi : ∀ {l r : List Bt}, l.map Bt.at_ = r.map Bt.at_ → Go.Kc.prs l = Go.Kc.prs r → l = r := by
    intro l r h1 h2
    apply List.ext_getElem (by have := congrArg List.length h1; simpa using this)
    intro j p q
    have e1 : (l.map Bt.at_)[j]? = (r.map Bt.at_)[j]? := by rw [h1]
    have e2 : (Go.Kc.prs l)[j]? = (Go.Kc.prs r)[j]? := by rw [h2]
    unfold Go.Kc.prs at e2
    simp only [List.getElem?_map, List.getElem?_eq_getElem p, List.getElem?_eq_getElem q, Option.map_some, Option.some.injEq, Prod.mk.injEq] at e1 e2
    cases hx : l[j]; cases hy : r[j]
    rw [hx, hy] at e1 e2
    simp only at e1 e2
    rw [e1, e2.2]
  by_cases he : l = r
  · subst he; simp
  · rw [decide_eq_false he, decide_eq_false]
    intro h2
    rw [Int.toNat_natCast] at h2
    exact he (hi h (Go.Kc.encT_inj hw hf h2))

set_option maxHeartbeats 4000000 in
set_option maxRecDepth 100000 in
theorem apart_in (x : Int) (a : Option Addr) (m c : Nat) (l : List Bt) (a2 : Option Addr) (c2 : Nat) (r : List Bt) (w : World)
    (hR : Rd w 2 a m c (bts l)) (hR2 : Rd w 2 a2 m c2 (bts r)) (hm : m ≤ 200) (hx : x ≤ 60) :
    Calls Try.prog 3 #[.int .i64 x, .slice a m c, .slice a2 m c2] w fun e w' => e = .returned (.bool true) ∧ Below w.heap.size w w' := by
  have hO := Own.start w
  have hl : l.length = m := by have := hR.len; rw [bts_length] at this; omega
  have hl2 : r.length = m := by have := hR2.len; rw [bts_length] at this; omega
  have d1 : decide ((200 : Int) < (m : Int)) = false := decide_eq_false (by omega)
  have d2 : decide ((60 : Int) < x) = false := decide_eq_false (by omega)
  have d3 : ((m : Int) == (m : Int)) = true := by simp
  have HR := Lib.hid hR
  have HR2 := Lib.hid hR2
  have HL := Lib.hid hl
  have HL2 := Lib.hid hl2
  obtain ⟨E1, hE1⟩ : ∃ E, encE x l = E := ⟨_, rfl⟩
  obtain ⟨T1, hT1⟩ : ∃ E, encO x l = E := ⟨_, rfl⟩
  obtain ⟨N1, hN1⟩ : ∃ E, T1.length = E := ⟨_, rfl⟩
  obtain ⟨E2, hE2⟩ : ∃ E, encE x r = E := ⟨_, rfl⟩
  obtain ⟨T2, hT2⟩ : ∃ E, encO x r = E := ⟨_, rfl⟩
  obtain ⟨N2, hN2⟩ : ∃ E, T2.length = E := ⟨_, rfl⟩
  have HC1 := Lib.hid (fun w h => encode_calls x a m c l w h N1 T1 E1 hE1 hT1 hN1)
  have HC2 := Lib.hid (fun w h => encode_calls x a2 m c2 r w h N2 T2 E2 hE2 hT2 hN2)
  have hlaw := fun h => apart_law (x := x) (l := l) (r := r) h
  rw [hE1, hE2, hT1, hT2] at hlaw
  have HLAW := Lib.hid hlaw
  have HS := Lib.hid (fun (b1 b2 : Option Addr) (e1 e2 : Nat) w h h' => same_calls b1 b2 N1 e1 N2 e2 T1 T2 w h h')
  have HM := Lib.hid hm
  clear hR hR2 hl hl2 hx hE1 hT1 hN1 hE2 hT2 hN2 hlaw hm
  generalize hW : w = wn at hO HR HR2 ⊢
  clear hW w
  go_enter Try.func3, Try.ntmps3
  go_wp2_with (first
    | ((with_reducible refine gG ?_); refine wpList_want rfl ?_)
    | (go_at_call 9; refine (live_calls _).mono ?_; rintro e ww ⟨rfl, hb⟩; replace hO := hO.call hb; clear hb))
  go_loopg [8, 32] m (fun q sm s32 wr => ∃ k : Nat, q = m - k ∧ k ≤ m ∧ s32 = .int .i64 (k : Int) ∧ sm = .bool (decide (l.take k = r.take k)) ∧ Hid ((l.take k).map Bt.at_ = (r.take k).map Bt.at_) ∧ Own wn wr [])
  case atStart => exact ⟨0, rfl, by omega, rfl, rfl, rfl, hO⟩
  case round =>
    obtain ⟨k, rfl, hk, rfl, rfl, HA, hO1⟩ := hrel
    clear hO
    have hO := hO1
    clear hO1
    by_cases c1 : k < m
    · have e1 : decide ((k : Int) < (m : Int)) = true := decide_eq_true (by omega)
      have f1 : IntKind.i64.wrap ((k : Int) + 1) = (k : Int) + 1 := by have hm := HM.out; rw [IntKind.wrap_i64]; omega
      have hx := List.getElem?_eq_getElem (l := l) (i := k) (by rw [HL.out]; exact c1)
      have hy := List.getElem?_eq_getElem (l := r) (i := k) (by rw [HL2.out]; exact c1)
      generalize l[k]'(by rw [HL.out]; exact c1) = s at hx
      generalize r[k]'(by rw [HL2.out]; exact c1) = t at hy
      obtain ⟨b1, o1, rfl⟩ := HR.out.place (by omega)
      obtain ⟨b2, o2, rfl⟩ := HR2.out.place (by omega)
      have HX := Lib.hid hx
      have HY := Lib.hid hy
      have HE2 := Lib.hid (take_eqs hx hy)
      have HA2 : Hid (s.at_ = t.at_ → (l.take (k + 1)).map Bt.at_ = (r.take (k + 1)).map Bt.at_) := fun e => take_ats hx hy HA.out e
      clear hx hy
      obtain ⟨p, sb⟩ := s
      obtain ⟨q, tb⟩ := t
      obtain ⟨y1, y2⟩ := bt_cells hO HR.out HX.out
      obtain ⟨z1, z2⟩ := bt_cells hO HR2.out HY.out
      dsimp only at y1 y2 z1 z2
      by_cases c3 : p = q
      · subst c3
        have HA3 := Lib.hid (HA2.out rfl)
        obtain ⟨D, hD⟩ : ∃ D, decide (l.take k = r.take k) = D := ⟨_, rfl⟩
        have HD := Lib.hid hD
        rw [hD]
        have d5 : (p == p) = true := by simp
        clear hD HA2 HA
        cases D
        · have HF : Hid (decide (l.take (k + 1) = r.take (k + 1)) = false) := decide_eq_false fun h => of_decide_eq_false HD.out (HE2.out.1 h).1
          clear HE2 HD
          go_wp2
          go_quiet (fail)
          all_goals go_wp2
          replace hO := hO.drewN nq
          generalize World.drewN wr nq = wd at hO ⊢
          obtain ⟨y1, y2⟩ := bt_cells hO HR.out HX.out
          obtain ⟨z1, z2⟩ := bt_cells hO HR2.out HY.out
          dsimp only at y1 y2 z1 z2
          go_quiet (fail)
          all_goals go_wp2
          go_roundg (m - (k + 1))
          case measure => omega
          case rel => exact ⟨k + 1, rfl, by omega, by go_num, by rw [HF.out], HA3, hO.drewN _⟩
        · have HF : Hid (decide (l.take (k + 1) = r.take (k + 1)) = (sb == tb)) := by
            show decide _ = _
            have hd := of_decide_eq_true HD.out
            by_cases hb : sb = tb
            · rw [decide_eq_true (HE2.out.2 ⟨hd, by rw [hb]⟩)]; simp [hb]
            · rw [decide_eq_false (fun h => hb (by have h3 := (HE2.out.1 h).2; injection h3))]; simp [hb]
          clear HE2 HD
          go_wp2
          go_quiet (fail)
          all_goals go_wp2
          replace hO := hO.drewN nq
          generalize World.drewN wr nq = wd at hO ⊢
          obtain ⟨y1, y2⟩ := bt_cells hO HR.out HX.out
          obtain ⟨z1, z2⟩ := bt_cells hO HR2.out HY.out
          dsimp only at y1 y2 z1 z2
          go_quiet (fail)
          all_goals go_wp2
          go_roundg (m - (k + 1))
          case measure => omega
          case rel => exact ⟨k + 1, rfl, by omega, by go_num, by rw [HF.out], HA3, hO.drewN _⟩
      · have d5 : (p == q) = false := by simp [c3]
        clear HA2 HA HE2
        go_wp2
        go_quiet (fail)
        all_goals go_wp2
        go_ret
        exact ⟨rfl, (hO.drewN _).below⟩
    · obtain rfl : k = m := by omega
      have hall := HA.out
      rw [List.take_of_length_le (by rw [HL.out]; omega), List.take_of_length_le (by rw [HL2.out]; omega)] at hall
      obtain ⟨hEE, hDD⟩ := HLAW.out hall
      rw [List.take_of_length_le (by rw [HL.out]; omega), List.take_of_length_le (by rw [HL2.out]; omega)]
      obtain ⟨D, hD⟩ : ∃ D, decide (l = r) = D := ⟨_, rfl⟩
      rw [hD] at hDD ⊢
      subst hEE
      clear hall HA HLAW hD HL HL2
      have d6 : (E1 == E1) = true := by simp
      have d7 : (D == D) = true := by simp
      have HS := Lib.hid (fun (b1 b2 : Option Addr) (e1 e2 : Nat) w h h' => same_calls b1 b2 N1 e1 N2 e2 T1 T2 w h h')
      by_cases hE0 : E1 = 0
      · have HD := Lib.hid (hDD hE0)
        subst hE0
        clear hDD
        go_wp2_with (first
          | ((with_reducible refine gG ?_); refine wpList_want rfl ?_)
          | (go_at_call 10; (with_reducible refine gCall #[_, .slice a _ _] ?_); refine (HC1.out _ (hO.rd HR.out)).mono ?_; rintro e ww ⟨a5, c5, rfl, hb, hr⟩; replace hO := hO.addRow hb hr; clear hb hr)
          | (go_at_call 10; (with_reducible refine gCall #[_, .slice a2 _ _] ?_); refine (HC2.out _ (hO.rd HR2.out)).mono ?_; rintro e ww ⟨a6, c6, rfl, hb, hr⟩; replace hO := hO.addRow hb hr; clear hb hr)
          | (go_at_call 11; refine (HS.out _ _ _ _ _ (hO.rdAt 1 rfl) (hO.rdAt 0 rfl)).mono ?_; rw [HD.out]; rintro e ww ⟨rfl, rfl⟩))
        go_ret
        exact ⟨rfl, hO.below⟩
      · have d8 : (E1 == 0) = false := by simp [hE0]
        clear hDD
        go_wp2_with (first
          | ((with_reducible refine gG ?_); refine wpList_want rfl ?_)
          | (go_at_call 10; (with_reducible refine gCall #[_, .slice a _ _] ?_); refine (HC1.out _ (hO.rd HR.out)).mono ?_; rintro e ww ⟨a5, c5, rfl, hb, hr⟩; replace hO := hO.addRow hb hr; clear hb hr)
          | (go_at_call 10; (with_reducible refine gCall #[_, .slice a2 _ _] ?_); refine (HC2.out _ (hO.rd HR2.out)).mono ?_; rintro e ww ⟨a6, c6, rfl, hb, hr⟩; replace hO := hO.addRow hb hr; clear hb hr))
        go_ret
        exact ⟨rfl, hO.below⟩

set_option maxHeartbeats 4000000 in
set_option maxRecDepth 100000 in
theorem apart_walk (x : Int) (a : Option Addr) (m c : Nat) (l : List Bt) (a2 : Option Addr) (m2 c2 : Nat) (r : List Bt) (w : World)
    (hR : Rd w 2 a m c (bts l)) (hR2 : Rd w 2 a2 m2 c2 (bts r)) :
    Calls Try.prog 3 #[.int .i64 x, .slice a m c, .slice a2 m2 c2] w fun e w' => e = .returned (.bool true) ∧ Below w.heap.size w w' := by
  by_cases h1 : m ≤ 200
  · by_cases h2 : m = m2
    · by_cases h3 : x ≤ 60
      · subst h2
        exact apart_in x a m c l a2 c2 r w hR hR2 h1 h3
      · have hO := Own.start w
        have d1 : decide ((200 : Int) < (m : Int)) = false := decide_eq_false (by omega)
        have d2 : decide ((60 : Int) < x) = true := decide_eq_true (by omega)
        subst h2
        have d3 : ((m : Int) == (m : Int)) = true := by simp
        clear hR hR2 h3
        generalize hW : w = wn at hO ⊢
        clear hW w
        go_enter Try.func3, Try.ntmps3
        go_wp2_with (first
          | ((with_reducible refine gG ?_); refine wpList_want rfl ?_)
          | (go_at_call 9; refine (live_calls _).mono ?_; rintro e ww ⟨rfl, hb⟩; replace hO := hO.call hb; clear hb))
        go_ret
        exact ⟨rfl, hO.below⟩
    · have hO := Own.start w
      have d1 : decide ((200 : Int) < (m : Int)) = false := decide_eq_false (by omega)
      have d3 : ((m : Int) == (m2 : Int)) = false := by simp; omega
      have d4 : ¬ ((m : Int) = (m2 : Int)) := by omega
      have d5 : decide ((m : Int) = (m2 : Int)) = false := decide_eq_false d4
      clear hR hR2 h1
      generalize hW : w = wn at hO ⊢
      clear hW w
      go_enter Try.func3, Try.ntmps3
      go_wp2_with (first
        | ((with_reducible refine gG ?_); refine wpList_want rfl ?_)
        | (go_at_call 9; refine (live_calls _).mono ?_; rintro e ww ⟨rfl, hb⟩; replace hO := hO.call hb; clear hb))
      go_ret
      exact ⟨rfl, hO.below⟩
  · have hO := Own.start w
    have d1 : decide ((200 : Int) < (m : Int)) = true := decide_eq_true (by omega)
    clear hR hR2 h1
    generalize hW : w = wn at hO ⊢
    clear hW w
    go_enter Try.func3, Try.ntmps3
    go_wp2_with (first
      | ((with_reducible refine gG ?_); refine wpList_want rfl ?_)
      | (go_at_call 9; refine (live_calls _).mono ?_; rintro e ww ⟨rfl, hb⟩; replace hO := hO.call hb; clear hb))
    go_ret
    exact ⟨rfl, hO.below⟩
end Go.Proofs.Ytmfeknamdjjbhaa
