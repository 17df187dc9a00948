/- Walk: coder.Encode, whatever it is given; live. -/
import Derived.Test.YtnkpjmcgecdkfaaKn
namespace Go.Proofs.Ytnkpjmcgecdkfaa
open Go.RowKit Go.Own Go.Bv Go.Ord Go.Eq Go.Opn Go.Pb

def encE (x : Int) (l : List Bt) : Int := if 0 ≤ x ∧ x ≤ 1024 then (if l.length ≤ 1048576 then (if l.all (okI x) then 0 else 4) else 3) else 1
def encO (x : Int) (l : List Bt) : List (BitVec 8) := if encE x l = 0 then Go.Kc.encT x.toNat (Go.Kc.prs l) else []

set_option maxHeartbeats 4000000 in
set_option maxRecDepth 100000 in
theorem encode_calls (x : Int) (a : Option Addr) (m cap : Nat) (l : List Bt) (w : World) (hR : Rd w 2 a m cap (bts l)) (M : Nat) (T : List (BitVec 8)) (E : Int) (hE : encE x l = E) (hT : encO x l = T) (hM : T.length = M) :
    Calls Try.prog 24 #[.int .i64 x, .slice a m cap] w fun e w' => ∃ a' c', e = .returned (.tuple #[.slice a' M c', .int .i64 E]) ∧ Below w.heap.size w w' ∧ w'.ownsRow w.heap.size 5 1 (.slice a' M c') M (u8s T) := by
  have hlen : l.length = m := by have := hR.len; rw [bts_length] at this; omega
  by_cases hx : 0 ≤ x ∧ x ≤ 1024
  · obtain ⟨n, rfl⟩ : ∃ n : Nat, x = (n : Int) := ⟨x.toNat, by omega⟩
    have hnT : newT (n : Int) = List.replicate n 1024 := by unfold newT; rw [if_pos (by omega), Int.toNat_natCast]
    have hnE : newE (n : Int) = 0 := by unfold newE; rw [if_pos (by omega)]
    have HNEW := Lib.hid (fun w => new_calls (n : Int) w n (List.replicate n 1024) 0 (by rw [hnT, List.length_replicate]) hnT hnE)
    by_cases hm : m ≤ 1048576
    · cases hl : l.all (okI (n : Int))
      · have e1 : E = 4 := by rw [← hE]; unfold encE; rw [if_pos hx, if_pos (by omega), hl]; rfl
        have e2 : T = [] := by rw [← hT]; unfold encO; rw [hE, e1]; rfl
        have e3 : M = 0 := by rw [← hM, e2]; rfl
        subst e1 e2 e3
        have hO := Own.start w
        have HALL := Lib.hid hl
        have HR := Lib.hid hR
        have dmx : decide ((1048576 : Int) < (m : Int)) = false := decide_eq_false (by omega)
        clear hE hT hM hnT hnE hl hR hx hlen hm
        generalize hWW : w = wn at hO HR ⊢
        clear hWW w
        go_enter Try.func24, Try.ntmps24
        go_wp2_with (first
          | ((with_reducible refine gBox ?_); first | (refine bxA hO rfl ?_; clear hO; intro xb ww hO) | (refine bx1 hO rfl rfl ?_; clear hO; intro xb ww hO))
          | ((with_reducible refine gLoad ?_); first | refine ldX hO 0 rfl rfl (tA rfl) (tS rfl) ?_ | refine ldC hO 0 rfl rfl (tA rfl) rfl ?_)
          | (go_at_call 38; refine (HNEW.out _).mono ?_; rintro e ww ⟨a1, c1, rfl, hb, hr⟩; replace hO := hO.addRow hb hr; clear hb hr)
          | (go_at_call 40; refine (containsb_calls _ _ _ l (n : Int) xb _ (hO.rd HR.out) (hO.rd1 1 rfl)).mono ?_; rw [HALL.out]; rintro e ww ⟨rfl, hb⟩; replace hO := hO.call hb; clear hb))
        go_ret2
        exact ⟨none, 0, rfl, hO.below, World.ownsRow_nil _ _ _ _⟩
      · have e1 : E = 0 := by rw [← hE]; unfold encE; rw [if_pos hx, if_pos (by omega), hl]; rfl
        have e2 : Go.Kc.encT n (Go.Kc.prs l) = T := by rw [← hT]; unfold encO; rw [hE, e1, Int.toNat_natCast]; rfl
        subst e1
        exact encode_ok n (by omega) a m cap l w hR hm hl M T e2 hM
    · have e1 : E = 3 := by rw [← hE]; unfold encE; rw [if_pos hx, if_neg (by omega)]
      have e2 : T = [] := by rw [← hT]; unfold encO; rw [hE, e1]; rfl
      have e3 : M = 0 := by rw [← hM, e2]; rfl
      subst e1 e2 e3
      have hO := Own.start w
      have dmx : decide ((1048576 : Int) < (m : Int)) = true := decide_eq_true (by omega)
      clear hE hT hM hnT hnE hR hx hlen hm
      generalize hWW : w = wn at hO ⊢
      clear hWW w
      go_enter Try.func24, Try.ntmps24
      go_wp2_with (first
        | ((with_reducible refine gBox ?_); first | (refine bxA hO rfl ?_; clear hO; intro xb ww hO) | (refine bx1 hO rfl rfl ?_; clear hO; intro xb ww hO))
        | ((with_reducible refine gLoad ?_); first | refine ldX hO 0 rfl rfl (tA rfl) (tS rfl) ?_ | refine ldC hO 0 rfl rfl (tA rfl) rfl ?_)
        | (go_at_call 38; refine (HNEW.out _).mono ?_; rintro e ww ⟨a1, c1, rfl, hb, hr⟩; replace hO := hO.addRow hb hr; clear hb hr))
      go_ret2
      exact ⟨none, 0, rfl, hO.below, World.ownsRow_nil _ _ _ _⟩
  · have e1 : E = 1 := by rw [← hE]; unfold encE; rw [if_neg hx]
    have e2 : T = [] := by rw [← hT]; unfold encO; rw [hE, e1]; rfl
    have e3 : M = 0 := by rw [← hM, e2]; rfl
    subst e1 e2 e3
    have hnT : newT x = [] := by unfold newT; rw [if_neg hx]
    have hnE : newE x = 1 := by unfold newE; rw [if_neg hx]
    have HNEW := Lib.hid (fun w => new_calls x w 0 [] 1 (by rw [hnT]; rfl) hnT hnE)
    have hO := Own.start w
    clear hE hT hM hnT hnE hR hx hlen
    generalize hWW : w = wn at hO ⊢
    clear hWW w
    go_enter Try.func24, Try.ntmps24
    go_wp2_with (first
      | ((with_reducible refine gBox ?_); first | (refine bxA hO rfl ?_; clear hO; intro xb ww hO) | (refine bx1 hO rfl rfl ?_; clear hO; intro xb ww hO))
      | ((with_reducible refine gLoad ?_); first | refine ldX hO 0 rfl rfl (tA rfl) (tS rfl) ?_ | refine ldC hO 0 rfl rfl (tA rfl) rfl ?_)
      | (go_at_call 38; refine (HNEW.out _).mono ?_; rintro e ww ⟨a1, c1, rfl, hb, hr⟩; replace hO := hO.addRow hb hr; clear hb hr))
    go_ret2
    exact ⟨none, 0, rfl, hO.below, World.ownsRow_nil _ _ _ _⟩
end Go.Proofs.Ytnkpjmcgecdkfaa
