/- Walk: NewReader, whatever it is given; Next of what may not be; Used. -/
import Derived.Test.YtnkpjmcgecdkfaaKa
import Derived.Test.YtnkpjmcgecdkfaaKs
import Derived.Test.YtnkpjmcgecdkfaaKu
namespace Go.Proofs.Ytnkpjmcgecdkfaa
open Go.RowKit Go.Own Go.Bv Go.Ord Go.Eq Go.Opn Go.Pb

set_option maxHeartbeats 4000000 in
set_option maxRecDepth 100000 in
theorem newR_bad (x : Int) (a : Option Addr) (m cap : Nat) (b : List (BitVec 8)) (w : World) (hR : Rd w 1 a m cap (u8s b)) (hm : m ≤ 10000000) (E : Int) (hE : Go.Kc.opE x b = E) (h0 : E ≠ 0) :
    Calls Try.prog 29 #[.int .i64 x, .slice a m cap] w fun e w' => e = .returned (.tuple #[.pointer none, .int .i64 E]) ∧ Below w.heap.size w w' := by
  have hb : b.length = m := by have := hR.len; rw [u8s_length] at this; omega
  have hO := Own.start w
  by_cases hx : 0 ≤ x ∧ x ≤ 1024
  · obtain ⟨n, rfl⟩ : ∃ n : Nat, x = (n : Int) := ⟨x.toNat, by omega⟩
    have hnT : newT (n : Int) = List.replicate n 1024 := by unfold newT; rw [if_pos (by omega), Int.toNat_natCast]
    have hnE : newE (n : Int) = 0 := by unfold newE; rw [if_pos (by omega)]
    have HNEW := Lib.hid (fun w => new_calls (n : Int) w n (List.replicate n 1024) 0 (by rw [hnT, List.length_replicate]) hnT hnE)
    have hmo : ¬ Go.Kc.mayOpen b := by
      intro h
      unfold Go.Kc.opE at hE
      rw [if_pos hx, if_pos h] at hE
      exact h0 hE.symm
    have e1 : E = 2 := by rw [← hE]; unfold Go.Kc.opE; rw [if_pos hx, if_neg hmo]
    subst e1
    by_cases h5 : m < 5
    · have d1 : decide ((m : Int) < 5) = true := decide_eq_true (by omega)
      clear hE hnT hnE hR hx hb hmo h0
      generalize hWW : w = wn at hO ⊢
      clear hWW w
      go_enter Try.func29, Try.ntmps29
      go_wp2_with (first
        | ((with_reducible refine gG ?_); refine wpList_want rfl ?_)
        | (go_at_call 38; refine (HNEW.out _).mono ?_; rintro e ww ⟨a1, c1, rfl, hb, hr⟩; replace hO := hO.addRow hb hr; clear hb hr))
      go_ret2
      exact ⟨rfl, hO.below⟩
    · by_cases hz : b.getD 0 0 = 0#8
      · have hV : Go.Kc.val ((b.drop 1).take 4) = 4294967295 := by
          apply Classical.byContradiction
          intro hne
          exact hmo ⟨by omega, hz, hne⟩
        refine (newR_ok n (by omega) a m cap b w hR hm hb (by omega) hz _ rfl).mono ?_
        rintro e w' h
        unfold newPost at h
        rw [if_pos hV] at h
        exact h
      · have d1 : decide ((m : Int) < 5) = false := decide_eq_false (by omega)
        have h0b : 0 < b.length := by omega
        have hg0 : (u8s b)[0]? = some (.int .u8 ((b.getD 0 0).toNat : Int)) := by
          rw [u8s_get b 0 h0b]; simp [h0b]
        have hzz : ((b.getD 0 0).toNat : Int) ≠ 0 := by
          intro h; exact hz (BitVec.eq_of_toNat_eq (by simpa using h))
        generalize b.getD 0 0 = c0 at hg0 hzz
        have dz : ((c0.toNat : Int) == 0) = false := by simpa using hzz
        have HG0 := Lib.hid hg0
        have HR := Lib.hid hR
        obtain ⟨ba, off, rfl⟩ := hR.place (by omega)
        have hm5 : 0 < m := by omega
        clear hE hnT hnE hR hx hb hmo h0 hz h0b hg0 hzz
        generalize hWW : w = wn at hO HR ⊢
        clear hWW w
        go_enter Try.func29, Try.ntmps29
        go_wp2_with (first
          | ((with_reducible refine gG ?_); refine wpList_want rfl ?_)
          | (go_at_call 38; refine (HNEW.out _).mono ?_; rintro e ww ⟨a1, c1, rfl, hb, hr⟩; replace hO := hO.addRow hb hr; clear hb hr)
          | ((with_reducible refine gLoad (T := 5) ?_); refine ld_rd (hO.rd HR.out) rfl HG0.out (tA rfl) ?_))
        go_ret2
        exact ⟨rfl, hO.below⟩
  · have e1 : E = 1 := by rw [← hE]; unfold Go.Kc.opE; rw [if_neg hx]
    subst e1
    have hnT : newT x = [] := by unfold newT; rw [if_neg hx]
    have hnE : newE x = 1 := by unfold newE; rw [if_neg hx]
    have HNEW := Lib.hid (fun w => new_calls x w 0 [] 1 (by rw [hnT]; rfl) hnT hnE)
    clear hE hnT hnE hR hx hb h0
    generalize hWW : w = wn at hO ⊢
    clear hWW w
    go_enter Try.func29, Try.ntmps29
    go_wp2_with (first
      | ((with_reducible refine gG ?_); refine wpList_want rfl ?_)
      | (go_at_call 38; refine (HNEW.out _).mono ?_; rintro e ww ⟨a1, c1, rfl, hb, hr⟩; replace hO := hO.addRow hb hr; clear hb hr))
    go_ret2
    exact ⟨rfl, hO.below⟩

set_option maxHeartbeats 1000000 in
theorem next_nil (x : Int) (w : World) :
    Calls Try.prog 64 #[.pointer none, .int .i64 x] w fun e w' => e = .returned (.tuple #[.bool false, .int .i64 1]) ∧ w = w' := by
  go_enter Try.func64, Try.ntmps64
  go_wp2_with (first
    | ((with_reducible refine gG ?_); refine wpList_want rfl ?_))
  go_ret2
  exact ⟨rfl, rfl⟩

set_option maxHeartbeats 2000000 in
set_option maxRecDepth 100000 in
theorem next_bad {w0 w : World} {L : List Res} {rb : Nat} {aP : Option Addr} {n cP : Nat} {bS : Value} {used span code : Nat} (x : Int) (hx : x < 0 ∨ (n : Int) ≤ x)
    (aB : Option Addr) (m cB : Nat) (hB : bS = .slice aB m cB)
    (hO : Own w0 w (.blk rb (.cells (rC (.slice aP n cP) bS used span code) 91 (0,0)) :: L)) :
    Calls Try.prog 64 #[.pointer (some ⟨rb, 0, none⟩), .int .i64 x] w fun e w' => e = .returned (.tuple #[.bool false, .int .i64 4]) ∧ Own w0 w' (.blk rb (.cells (rC (.slice aP n cP) bS used span code) 91 (0,0)) :: L) := by
  subst hB
  by_cases h1 : x < 0
  · have i1 : decide (x < 0) = true := decide_eq_true h1
    clear hx h1
    go_enter Try.func64, Try.ntmps64
    go_wp2_with (first
      | ((with_reducible refine gG ?_); refine wpList_want rfl ?_)
      | ((with_reducible refine gLoad ?_); first | refine ldX hO 0 rfl rfl (tA rfl) (tS rfl) ?_ | refine ldC hO 0 rfl rfl (tA rfl) rfl ?_))
    go_ret2
    exact ⟨rfl, hO⟩
  · have i1 : decide (x < 0) = false := decide_eq_false h1
    have i2 : decide ((n : Int) ≤ x) = true := decide_eq_true (by omega)
    clear hx h1
    go_enter Try.func64, Try.ntmps64
    go_wp2_with (first
      | ((with_reducible refine gG ?_); refine wpList_want rfl ?_)
      | ((with_reducible refine gLoad ?_); first | refine ldX hO 0 rfl rfl (tA rfl) (tS rfl) ?_ | refine ldC hO 0 rfl rfl (tA rfl) rfl ?_))
    go_ret2
    exact ⟨rfl, hO⟩

set_option maxHeartbeats 1000000 in
theorem used_nil (w : World) :
    Calls Try.prog 31 #[.pointer none] w fun e w' => e = .returned (.int .i64 0) ∧ w = w' := by
  go_enter Try.func31, Try.ntmps31
  go_wp2
  go_ret
  exact ⟨rfl, rfl⟩
set_option maxHeartbeats 1000000 in
theorem used_calls {w0 w : World} {L : List Res} {rb : Nat} {pS bS : Value} {used span code : Nat}
    (hO : Own w0 w (.blk rb (.cells (rC pS bS used span code) 91 (0,0)) :: L)) :
    Calls Try.prog 31 #[.pointer (some ⟨rb, 0, none⟩)] w fun e w' => e = .returned (.int .i64 (used : Int)) ∧ w = w' := by
  go_enter Try.func31, Try.ntmps31
  go_wp2_with (first
    | ((with_reducible refine gLoad ?_); first | refine ldX hO 0 rfl rfl (tA rfl) (tS rfl) ?_ | refine ldC hO 0 rfl rfl (tA rfl) rfl ?_))
  go_ret
  exact ⟨rfl, rfl⟩
end Go.Proofs.Ytnkpjmcgecdkfaa
