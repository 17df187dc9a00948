/- Walk: the document's Encode, whatever it is given. -/
import Derived.Test.YtnkpjmcgecdkfaaKc
namespace Go.Proofs.Ytnkpjmcgecdkfaa
open Go.RowKit Go.Own Go.Bv Go.Ord Go.Eq Go.Opn Go.Pb

set_option maxHeartbeats 4000000 in
set_option maxRecDepth 100000 in
theorem rencode_calls (x : Int) (a : Option Addr) (m cap : Nat) (l : List Bt) (w : World) (hR : Rd w 2 a m cap (bts l)) (M : Nat) (T : List (BitVec 8)) (E : Int) (hE : encE x l = E) (hT : encO x l = T) (hM : T.length = M) :
    Calls Try.prog 28 #[.int .i64 x, .slice a m cap] w fun e w' => ∃ a' c', e = .returned (.tuple #[.slice a' M c', .int .i64 E]) ∧ Below w.heap.size w w' ∧ w'.ownsRow w.heap.size 5 1 (.slice a' M c') M (u8s T) := by
  have hlen : l.length = m := by have := hR.len; rw [bts_length] at this; omega
  by_cases hx : 0 ≤ x ∧ x ≤ 1024
  · obtain ⟨n, rfl⟩ : ∃ n : Nat, x = (n : Int) := ⟨x.toNat, by omega⟩
    have hnT : newT (n : Int) = List.replicate n 1024 := by unfold newT; rw [if_pos (by omega), Int.toNat_natCast]
    have hnE : newE (n : Int) = 0 := by unfold newE; rw [if_pos (by omega)]
    have HNEW := Lib.hid (fun w => rNew_calls (n : Int) w n (List.replicate n 1024) 0 (by rw [hnT, List.length_replicate]) hnT hnE)
    by_cases hm : m ≤ 1048576
    · cases hl : l.all (okI (n : Int))
      · have e1 : E = 4 := by rw [← hE]; unfold encE; rw [if_pos hx, if_pos (by omega), hl]; rfl
        have e2 : T = [] := by rw [← hT]; unfold encO; rw [hE, e1]; rfl
        have e3 : M = 0 := by rw [← hM, e2]; rfl
        subst e1 e2 e3
        have hO := Own.start w
        have HALL := Lib.hid hl
        have HR := Lib.hid hR
        have HLN := Lib.hid hlen
        have dmx : decide ((1048576 : Int) < (m : Int)) = false := decide_eq_false (by omega)
        clear hE hT hM hnT hnE hl hR hx hlen
        generalize hWW : w = wn at hO HR ⊢
        clear hWW w
        go_enter Try.func28, Try.ntmps28
        go_wp2_with (first
          | (go_at_call 46; refine (HNEW.out _).mono ?_; rintro e ww ⟨a1, c1, rfl, hb, hr⟩; replace hO := hO.addRow hb hr; clear hb hr))
        clear dmx
        go_loopg [30] m (fun q c wr => ∃ k : Nat, q = m - k ∧ k ≤ m ∧ c = .int .i64 (k : Int) ∧ Hid ((l.take k).all (okI (n : Int)) = true) ∧ Own wn wr [.sl 3 1 (.slice a1 n c1) n (i64s (List.replicate n 1024))])
        case atStart => exact ⟨0, rfl, by omega, rfl, rfl, hO⟩
        case round =>
          obtain ⟨k, rfl, hk, rfl, HA, hO1⟩ := hrel
          clear hO
          have hO := hO1
          clear hO1
          by_cases hlt : k < m
          · have hb0 : decide ((k : Int) < (m : Int)) = true := decide_eq_true (by omega)
            have hkl : k < l.length := by rw [HLN.out]; exact hlt
            obtain ⟨ba, off, rfl⟩ := HR.out.place (by omega)
            have hx := List.getElem?_eq_getElem hkl
            have hnx : okI (n : Int) l[k] = true → (l.take (k + 1)).all (okI (n : Int)) = true := okI_next hkl HA.out
            generalize l[k] = x at hx hnx
            obtain ⟨pos, b⟩ := x
            have HX := Lib.hid hx
            have HNX := Lib.hid hnx
            clear hx hnx hkl
            by_cases h1 : pos < 0
            · have i1 : decide (pos < 0) = true := decide_eq_true (by omega)
              go_wp2_with (first
                | ((with_reducible refine gG ?_); refine wpList_want rfl ?_)
                | ((with_reducible refine gAlloc (T := 32) ?_); refine own_alloc hO _ _ ibtz ?_; clear hO; intro bx ww hO)
                | ((with_reducible refine gLoad (T := 32) ?_); refine ld_bt (hO.rd HR.out) HX.out rfl (by omega) (tA rfl) (tS rfl) ?_)
                | ((with_reducible refine gLoad ?_); first | refine ldX hO 0 rfl rfl (tA rfl) (tS rfl) ?_ | refine ldC hO 0 rfl rfl (tA rfl) rfl ?_)
                | ((with_reducible refine gStore ?_); first | (refine stX hO 0 rfl rfl rfl rfl rfl (tS rfl) ?_; clear hO; intro ww hO) | (refine stC hO 0 rfl rfl rfl (ltb rfl) rfl (tS rfl) ?_; clear hO; intro ww hO)))
              go_ret2
              exact ⟨none, 0, rfl, hO.below, World.ownsRow_nil _ _ _ _⟩
            · have i1 : decide (pos < 0) = false := decide_eq_false (by omega)
              by_cases h2 : (n : Int) ≤ pos
              · have i2 : decide ((n : Int) ≤ pos) = true := decide_eq_true (by omega)
                go_wp2_with (first
                  | ((with_reducible refine gG ?_); refine wpList_want rfl ?_)
                  | ((with_reducible refine gAlloc (T := 32) ?_); refine own_alloc hO _ _ ibtz ?_; clear hO; intro bx ww hO)
                  | ((with_reducible refine gLoad (T := 32) ?_); refine ld_bt (hO.rd HR.out) HX.out rfl (by omega) (tA rfl) (tS rfl) ?_)
                  | ((with_reducible refine gLoad ?_); first | refine ldX hO 0 rfl rfl (tA rfl) (tS rfl) ?_ | refine ldC hO 0 rfl rfl (tA rfl) rfl ?_)
                  | ((with_reducible refine gStore ?_); first | (refine stX hO 0 rfl rfl rfl rfl rfl (tS rfl) ?_; clear hO; intro ww hO) | (refine stC hO 0 rfl rfl rfl (ltb rfl) rfl (tS rfl) ?_; clear hO; intro ww hO)))
                go_ret2
                exact ⟨none, 0, rfl, hO.below, World.ownsRow_nil _ _ _ _⟩
              · have i2 : decide ((n : Int) ≤ pos) = false := decide_eq_false (by omega)
                have HN1 : Hid ((l.take (k + 1)).all (okI (n : Int)) = true) := HNX.out (by simp only [okI, Bool.and_eq_true, decide_eq_true_eq]; omega)
                go_wp2_with (first
                  | ((with_reducible refine gG ?_); refine wpList_want rfl ?_)
                  | ((with_reducible refine gAlloc (T := 32) ?_); refine own_alloc hO _ _ ibtz ?_; clear hO; intro bx ww hO)
                  | ((with_reducible refine gLoad (T := 32) ?_); refine ld_bt (hO.rd HR.out) HX.out rfl (by omega) (tA rfl) (tS rfl) ?_)
                  | ((with_reducible refine gLoad ?_); first | refine ldX hO 0 rfl rfl (tA rfl) (tS rfl) ?_ | refine ldC hO 0 rfl rfl (tA rfl) rfl ?_)
                  | ((with_reducible refine gStore ?_); first | (refine stX hO 0 rfl rfl rfl rfl rfl (tS rfl) ?_; clear hO; intro ww hO) | (refine stC hO 0 rfl rfl rfl (ltb rfl) rfl (tS rfl) ?_; clear hO; intro ww hO)))
                go_roundg (m - (k + 1))
                case measure => omega
                case rel => exact ⟨k + 1, rfl, by omega, by go_num, HN1.out, hO.tail⟩
          · obtain rfl : k = m := by omega
            exfalso
            have h := HA.out
            rw [List.take_of_length_le (by rw [HLN.out]; omega), HALL.out] at h
            cases h
      · have e1 : E = 0 := by rw [← hE]; unfold encE; rw [if_pos hx, if_pos (by omega), hl]; rfl
        have e2 : Go.Kc.encT n (Go.Kc.prs l) = T := by rw [← hT]; unfold encO; rw [hE, e1, Int.toNat_natCast]; rfl
        subst e1
        exact rencode_ok n (by omega) a m cap l w hR hm hl M T e2 hM
    · have e1 : E = 3 := by rw [← hE]; unfold encE; rw [if_pos hx, if_neg (by omega)]
      have e2 : T = [] := by rw [← hT]; unfold encO; rw [hE, e1]; rfl
      have e3 : M = 0 := by rw [← hM, e2]; rfl
      subst e1 e2 e3
      have hO := Own.start w
      have dmx : decide ((1048576 : Int) < (m : Int)) = true := decide_eq_true (by omega)
      clear hE hT hM hnT hnE hR hx hlen hm
      generalize hWW : w = wn at hO ⊢
      clear hWW w
      go_enter Try.func28, Try.ntmps28
      go_wp2_with (first
        | (go_at_call 46; refine (HNEW.out _).mono ?_; rintro e ww ⟨a1, c1, rfl, hb, hr⟩; replace hO := hO.addRow hb hr; clear hb hr))
      go_ret2
      exact ⟨none, 0, rfl, hO.below, World.ownsRow_nil _ _ _ _⟩
  · have e1 : E = 1 := by rw [← hE]; unfold encE; rw [if_neg hx]
    have e2 : T = [] := by rw [← hT]; unfold encO; rw [hE, e1]; rfl
    have e3 : M = 0 := by rw [← hM, e2]; rfl
    subst e1 e2 e3
    have hnT : newT x = [] := by unfold newT; rw [if_neg hx]
    have hnE : newE x = 1 := by unfold newE; rw [if_neg hx]
    have HNEW := Lib.hid (fun w => rNew_calls x w 0 [] 1 (by rw [hnT]; rfl) hnT hnE)
    have hO := Own.start w
    clear hE hT hM hnT hnE hR hx hlen
    generalize hWW : w = wn at hO ⊢
    clear hWW w
    go_enter Try.func28, Try.ntmps28
    go_wp2_with (first
      | (go_at_call 46; refine (HNEW.out _).mono ?_; rintro e ww ⟨a1, c1, rfl, hb, hr⟩; replace hO := hO.addRow hb hr; clear hb hr))
    go_ret2
    exact ⟨none, 0, rfl, hO.below, World.ownsRow_nil _ _ _ _⟩
end Go.Proofs.Ytnkpjmcgecdkfaa
