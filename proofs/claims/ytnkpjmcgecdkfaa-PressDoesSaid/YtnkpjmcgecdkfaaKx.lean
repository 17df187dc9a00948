/- Walks: coder.Encode's closure, slices.IndexFunc and ContainsFunc of bits. -/
import Derived.Test.YtnkpjmcgecdkfaaKp
namespace Go.Own
open Go.RowKit Go.Opn
/-- a block of one cell can be read -/
theorem Own.rd1 {w0 w : World} {L : List Res} (hO : Own w0 w L) (i : Nat) {b : Nat} {v : Value} {T : TypeId} (hi : L[i]? = some (.blk b (.cells #[v] T (0,0)))) : Rd w 1 (some ⟨b, 0, none⟩) 1 1 [v] :=
  rd_of_cells rfl (Nat.le_refl _) (by simp [maxLen]) fun j hj => by
    obtain rfl : j = 0 := by omega
    exact cell_of_one (hO.blk i hi)
end Go.Own
namespace Go.Proofs.Ytnkpjmcgecdkfaa
open Go.RowKit Go.Own Go.Bv Go.Ord Go.Eq Go.Opn Go.Pb

def okI (n : Int) (x : Bt) : Bool := decide (0 ≤ x.at_) && decide (x.at_ < n)
set_option maxHeartbeats 1000000 in
set_option maxRecDepth 100000 in
theorem bad_calls (n : Int) (x : Bt) (nb : Nat) (w : World) (hR : Rd w 1 (some ⟨nb, 0, none⟩) 1 1 [.int .i64 n]) :
    Calls Try.prog 39 #[.agg x.C, .pointer (some ⟨nb, 0, none⟩)] w fun e w' => e = .returned (.bool (!okI n x)) ∧ Below w.heap.size w w' := by
  have hO := Own.start w
  obtain ⟨p, b⟩ := x
  have HR := Lib.hid hR
  clear hR
  have hg : ([.int .i64 n] : List Value)[0]? = some (.int .i64 n) := rfl
  have HG := Lib.hid hg
  clear hg
  generalize hW : w = wn at hO HR ⊢
  clear hW w
  by_cases h1 : p < 0
  · have e1 : decide (p < 0) = true := decide_eq_true h1
    have e : okI n ⟨p, b⟩ = false := by unfold okI; rw [decide_eq_false (by dsimp only; omega)]; rfl
    rw [e]
    clear e h1
    go_enter Try.func39, Try.ntmps39
    go_wp2_with (first
      | ((with_reducible refine gBox ?_); first | (refine bxA hO rfl ?_; clear hO; intro xb ww hO) | (refine bx1 hO rfl rfl ?_; clear hO; intro xb ww hO))
      | ((with_reducible refine gG ?_); refine wpList_want rfl ?_)
      | ((with_reducible refine gLoad ?_); first | refine ldX hO 0 rfl rfl (tA rfl) (tS rfl) ?_ | refine ldC hO 0 rfl rfl (tA rfl) rfl ?_))
    go_ret
    exact ⟨rfl, hO.below⟩
  · have e1 : decide (p < 0) = false := decide_eq_false h1
    by_cases h2 : n ≤ p
    · have e2 : decide (n ≤ p) = true := decide_eq_true h2
      have e : okI n ⟨p, b⟩ = false := by unfold okI; rw [decide_eq_false (p := p < n) (by omega), Bool.and_false]
      rw [e]
      clear e h1 h2
      go_enter Try.func39, Try.ntmps39
      go_wp2_with (first
        | ((with_reducible refine gBox ?_); first | (refine bxA hO rfl ?_; clear hO; intro xb ww hO) | (refine bx1 hO rfl rfl ?_; clear hO; intro xb ww hO))
        | ((with_reducible refine gG ?_); refine wpList_want rfl ?_)
        | ((with_reducible refine gLoad ?_); first | refine ldX hO 0 rfl rfl (tA rfl) (tS rfl) ?_ | refine ldC hO 0 rfl rfl (tA rfl) rfl ?_)
        | ((with_reducible refine gLoad ?_); refine ld_rd (hO.rd HR.out) rfl (HG.out) (tA rfl) ?_))
      go_ret
      exact ⟨rfl, hO.below⟩
    · have e2 : decide (n ≤ p) = false := decide_eq_false h2
      have e : okI n ⟨p, b⟩ = true := by unfold okI; rw [decide_eq_true (p := p < n) (by omega), decide_eq_true (p := 0 ≤ p) (by omega)]; rfl
      rw [e]
      clear e h1 h2
      go_enter Try.func39, Try.ntmps39
      go_wp2_with (first
        | ((with_reducible refine gBox ?_); first | (refine bxA hO rfl ?_; clear hO; intro xb ww hO) | (refine bx1 hO rfl rfl ?_; clear hO; intro xb ww hO))
        | ((with_reducible refine gG ?_); refine wpList_want rfl ?_)
        | ((with_reducible refine gLoad ?_); first | refine ldX hO 0 rfl rfl (tA rfl) (tS rfl) ?_ | refine ldC hO 0 rfl rfl (tA rfl) rfl ?_)
        | ((with_reducible refine gLoad ?_); refine ld_rd (hO.rd HR.out) rfl (HG.out) (tA rfl) ?_))
      go_ret
      exact ⟨rfl, hO.below⟩

theorem okI_hit {n : Int} {l : List Bt} {k : Nat} (hk : k < l.length) (h : okI n l[k] = false) : l.all (okI n) = false := by
  cases h2 : l.all (okI n) with
  | false => rfl
  | true =>
    rw [List.all_eq_true] at h2
    have := h2 l[k] (List.getElem_mem hk)
    rw [h] at this
    cases this
theorem okI_next {n : Int} {l : List Bt} {k : Nat} (hk : k < l.length) (h : (l.take k).all (okI n) = true) (h1 : okI n l[k] = true) : (l.take (k + 1)).all (okI n) = true := by
  rw [List.take_succ_eq_append_getElem hk, List.all_append, h]
  simp [h1]

set_option maxHeartbeats 1000000 in
set_option maxRecDepth 100000 in
theorem indexb_calls (a : Option Addr) (m cap : Nat) (l : List Bt) (n : Int) (nb : Nat) (w : World) (hR : Rd w 2 a m cap (bts l)) (hN : Rd w 1 (some ⟨nb, 0, none⟩) 1 1 [.int .i64 n]) :
    Calls Try.prog 60 #[.slice a m cap, .func (.func 39) #[] #[.pointer (some ⟨nb, 0, none⟩)]] w fun e w' => (∃ r : Int, e = .returned (.int .i64 r) ∧ decide (0 ≤ r) = !(l.all (okI n))) ∧ Below w.heap.size w w' := by
  have hO := Own.start w
  have hlen : l.length = m := by have := hR.len; rw [bts_length] at this; omega
  have hmax : m ≤ maxLen := Nat.le_trans hR.le hR.max
  unfold maxLen at hmax
  have HR := Lib.hid hR
  have HN0 := Lib.hid hN
  have HL := Lib.hid hlen
  clear hR hlen hN
  generalize hW : w = wn at hO HR HN0 ⊢
  clear hW w
  go_enter Try.func60, Try.ntmps60
  go_wp2
  go_loopg [8] m (fun r c wr => ∃ k : Nat, r = m - k ∧ k ≤ m ∧ c = .int .i64 k ∧ Hid ((l.take k).all (okI n) = true) ∧ Own wn wr [])
  case atStart => exact ⟨0, rfl, by omega, rfl, rfl, hO⟩
  case round =>
    obtain ⟨k, rfl, hk, rfl, HA, hO1⟩ := hrel
    clear hO
    have hO := hO1
    clear hO1
    by_cases hlt : k < m
    · have hb0 : decide ((k : Int) < (m : Int)) = true := by simp; omega
      have hkl : k < l.length := by rw [HL.out]; exact hlt
      obtain ⟨ba, off, rfl⟩ := HR.out.place (by omega)
      have HX := Lib.hid (List.getElem?_eq_getElem hkl)
      have HN : Hid (okI n l[k] = true → (l.take (k + 1)).all (okI n) = true) := fun h => okI_next hkl HA.out h
      have HB : Hid (okI n l[k] = false → l.all (okI n) = false) := fun h => okI_hit hkl h
      generalize l[k] = p at *
      cases hm : okI n p
      all_goals
        have HM := Lib.hid hm
        clear hm
        go_wp2_with (first
          | ((with_reducible refine gLoad (T := 32) ?_); refine ld_bt (hO.rd HR.out) HX.out rfl (by omega) (tA rfl) (tS rfl) ?_)
          | (go_at_call 39; refine (bad_calls n p nb _ (hO.rd HN0.out)).mono ?_; rw [HM.out]; rintro e w1 ⟨rfl, hb⟩; replace hO := hO.call hb; clear hb))
      · go_ret
        refine ⟨⟨_, rfl, ?_⟩, hO.below⟩
        rw [HB.out HM.out]
        simp
      · go_roundg (m - (k + 1))
        case measure => omega
        case rel => exact ⟨k + 1, rfl, by omega, by go_num, HN.out HM.out, hO⟩
    · obtain rfl : k = m := by omega
      go_wp2
      go_ret
      refine ⟨⟨_, rfl, ?_⟩, hO.below⟩
      have := HA.out
      rw [List.take_of_length_le (by rw [HL.out]; omega)] at this
      rw [this]
      rfl

set_option maxHeartbeats 1000000 in
theorem containsb_calls (a : Option Addr) (m cap : Nat) (l : List Bt) (n : Int) (nb : Nat) (w : World) (hR : Rd w 2 a m cap (bts l)) (hN : Rd w 1 (some ⟨nb, 0, none⟩) 1 1 [.int .i64 n]) :
    Calls Try.prog 40 #[.slice a m cap, .func (.func 39) #[] #[.pointer (some ⟨nb, 0, none⟩)]] w fun e w' => e = .returned (.bool (!(l.all (okI n)))) ∧ Below w.heap.size w w' := by
  have HR := Lib.hid hR
  have HN0 := Lib.hid hN
  clear hR hN
  go_enter Try.func40, Try.ntmps40
  go_wp2_with (go_at_call 60; refine (indexb_calls _ _ _ l n nb _ HR.out HN0.out).mono ?_; rintro e w1 ⟨⟨r, rfl, hr⟩, hb⟩; have HX := Lib.hid hr; have HBB := Lib.hid hb; clear hr hb)
  go_ret
  exact ⟨by rw [← HX.out]; rfl, HBB.out⟩
end Go.Proofs.Ytnkpjmcgecdkfaa
