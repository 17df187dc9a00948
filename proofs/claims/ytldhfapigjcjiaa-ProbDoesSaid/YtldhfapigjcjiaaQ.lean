/- Walks: prob.may, learn, Learn, Check, the law's live. -/
import Derived.Test.YtldhfapigjcjiaaRows
import Derived.Test.YtldhfapigjcjiaaQm
namespace Go.Proofs.Ytldhfapigjcjiaa
open Go.RowKit Go.Own Go.Bv Go.Ord Go.Eq Go.Opn

theorem ei64 : Elem Try.prog 26 3 (.int .i64 0) 1 8 := ⟨Try.underlying26, by kernel_rfl, rfl, by decide⟩

set_option maxHeartbeats 400000 in
theorem may_calls (p : Int) (w : World) :
    Calls Try.prog 22 #[.int .i64 p] w fun e w' => e = .returned (.bool (mayB p)) ∧ w = w' := by
  by_cases h1 : 31 ≤ p
  · have e : mayB p = decide (p ≤ 2017) := by simp [mayB, h1]
    rw [e]
    go_enter Try.func22, Try.ntmps22
    go_wp2
    go_ret
    exact ⟨rfl, rfl⟩
  · have e : mayB p = false := by simp [mayB, h1]
    rw [e]
    go_enter Try.func22, Try.ntmps22
    go_wp2
    go_ret
    exact ⟨rfl, rfl⟩

set_option maxHeartbeats 400000 in
theorem not_calls (p : Int) (w : World) :
    Calls Try.prog 21 #[.int .i64 p] w fun e w' => e = .returned (.bool (!mayB p)) ∧ w = w' := by
  go_enter Try.func21, Try.ntmps21
  go_wp2_with (go_at_call 22; refine (may_calls _ _).mono ?_; rintro e w1 ⟨rfl, rfl⟩)
  go_ret
  exact ⟨rfl, rfl⟩

set_option maxHeartbeats 400000 in
theorem learn_calls (p : Int) (b : Bool) (w : World) (h : mayB p = true) :
    Calls Try.prog 23 #[.int .i64 p, .bool b] w fun e w' => e = .returned (.int .i64 (learnI p b)) ∧ w = w' := by
  rw [mayB_iff] at h
  obtain ⟨h1, h2⟩ := h
  cases b
  all_goals
    go_enter Try.func23, Try.ntmps23
    go_wp2
    go_ret
    exact ⟨rfl, rfl⟩

set_option maxHeartbeats 400000 in
theorem Learn_calls (p : Int) (b : Bool) (w : World) :
    Calls Try.prog 10 #[.int .i64 p, .bool b] w fun e w' => e = .returned (.tuple #[.int .i64 (if mayB p then learnI p b else 0), .int .i64 (if mayB p then 0 else 1)]) ∧ w = w' := by
  cases h : mayB p
  all_goals
    have HM := Lib.hid h
    clear h
    go_enter Try.func10, Try.ntmps10
    go_wp2_with (first
      | (go_at_call 22; refine (may_calls _ _).mono ?_; rw [HM.out]; rintro e w1 ⟨rfl, rfl⟩)
      | (go_at_call 23; refine (learn_calls _ _ _ HM.out).mono ?_; rintro e w1 ⟨rfl, rfl⟩))
    go_ret2
    exact ⟨rfl, rfl⟩

theorem all_hit {l : List Int} {k : Nat} (hk : k < l.length) (h : mayB l[k] = false) : l.all mayB = false := by
  cases h2 : l.all mayB with
  | false => rfl
  | true =>
    rw [List.all_eq_true] at h2
    have := h2 l[k] (List.getElem_mem hk)
    rw [h] at this
    cases this
theorem all_next {l : List Int} {k : Nat} (hk : k < l.length) (h : (l.take k).all mayB = true) (h1 : mayB l[k] = true) : (l.take (k + 1)).all mayB = true := by
  rw [List.take_succ_eq_append_getElem hk, List.all_append, h]
  simp [h1]

set_option maxHeartbeats 1000000 in
set_option maxRecDepth 100000 in
theorem index_calls (a : Option Addr) (n cap : Nat) (l : List Int) (w : World) (hR : Rd w 1 a n cap (i64s l)) :
    Calls Try.prog 27 #[.slice a n cap, .func (.func 21) #[] #[]] w fun e w' => (∃ r : Int, e = .returned (.int .i64 r) ∧ decide (0 ≤ r) = !(l.all mayB)) ∧ w = w' := by
  have hlen : l.length = n := by have := hR.len; rw [i64s_length] at this; omega
  have hmax : n ≤ maxLen := Nat.le_trans hR.le hR.max
  unfold maxLen at hmax
  have HR := Lib.hid hR
  have HL := Lib.hid hlen
  clear hR hlen
  go_enter Try.func27, Try.ntmps27
  go_wp2
  go_loopg [8] n (fun m c wr => ∃ k : Nat, m = n - k ∧ k ≤ n ∧ c = .int .i64 k ∧ Hid ((l.take k).all mayB = true) ∧ wr = w)
  case atStart => exact ⟨0, rfl, by omega, rfl, rfl, rfl⟩
  case round =>
    obtain ⟨k, rfl, hk, rfl, HA, rfl⟩ := hrel
    by_cases hlt : k < n
    · have hb0 : decide ((k : Int) < (n : Int)) = true := by simp; omega
      have hkl : k < l.length := by rw [HL.out]; exact hlt
      obtain ⟨ba, off, ea, _, fa⟩ := HR.out.at' (by omega)
      subst ea
      have hcell := (fa k (by omega)).trans (i64s_get l k hkl)
      clear fa
      have HN : Hid (mayB l[k] = true → (l.take (k + 1)).all mayB = true) := fun h => all_next hkl HA.out h
      have HB : Hid (mayB l[k] = false → l.all mayB = false) := fun h => all_hit hkl h
      generalize l[k] = p at *
      cases hm : mayB p
      all_goals
        have HM := Lib.hid hm
        clear hm
        go_wp2_with (go_at_call 21; refine (not_calls _ _).mono ?_; rw [HM.out]; rintro e w1 ⟨rfl, rfl⟩)
      · go_ret
        refine ⟨⟨_, rfl, ?_⟩, rfl⟩
        rw [HB.out HM.out]
        simp
      · go_roundg (n - (k + 1))
        case measure => omega
        case rel => exact ⟨k + 1, rfl, by omega, by go_num, HN.out HM.out, rfl⟩
    · obtain rfl : k = n := by omega
      go_wp2
      go_ret
      refine ⟨⟨_, rfl, ?_⟩, rfl⟩
      have := HA.out
      rw [List.take_of_length_le (by rw [HL.out]; omega)] at this
      rw [this]
      rfl

set_option maxHeartbeats 1000000 in
theorem contains_calls (a : Option Addr) (n cap : Nat) (l : List Int) (w : World) (hR : Rd w 1 a n cap (i64s l)) :
    Calls Try.prog 20 #[.slice a n cap, .func (.func 21) #[] #[]] w fun e w' => e = .returned (.bool (!(l.all mayB))) ∧ w = w' := by
  have HR := Lib.hid hR
  clear hR
  go_enter Try.func20, Try.ntmps20
  go_wp2_with (go_at_call 27; refine (index_calls _ _ _ l _ HR.out).mono ?_; rintro e w1 ⟨⟨r, rfl, hr⟩, rfl⟩; have HX := Lib.hid hr; clear hr)
  go_ret
  exact ⟨by rw [← HX.out]; rfl, rfl⟩

set_option maxHeartbeats 1000000 in
theorem check_calls (a : Option Addr) (n cap : Nat) (l : List Int) (w : World) (hR : Rd w 1 a n cap (i64s l)) :
    Calls Try.prog 9 #[.slice a n cap] w fun e w' => e = .returned (.int .i64 (checkE l)) ∧ w = w' := by
  have hlen : l.length = n := by have := hR.len; rw [i64s_length] at this; omega
  have HR := Lib.hid hR
  clear hR
  by_cases h1 : n ≤ 1024
  · obtain ⟨B, hB⟩ : ∃ B, l.all mayB = B := ⟨_, rfl⟩
    have e1 : checkE l = if B then 0 else 1 := by simp [checkE, hlen, h1, hB]
    rw [e1]
    have HB := Lib.hid hB
    clear e1 hB hlen
    cases B
    all_goals
      simp only [Bool.false_eq_true, if_true, if_false]
      go_enter Try.func9, Try.ntmps9
      go_wp2_with (go_at_call 20; refine (contains_calls _ _ _ l _ HR.out).mono ?_; rw [HB.out]; rintro e w1 ⟨rfl, rfl⟩)
      go_ret
      exact ⟨rfl, rfl⟩
  · have e1 : checkE l = 1 := by simp [checkE, hlen, h1]
    rw [e1]
    clear e1 hlen
    go_enter Try.func9, Try.ntmps9
    go_wp2
    go_ret
    exact ⟨rfl, rfl⟩

theorem check_one (p : Int) : checkE [p] = if mayB p then 0 else 1 := by simp [checkE]

set_option maxHeartbeats 1000000 in
theorem live_calls (w : World) :
    Calls Try.prog 8 #[] w fun e w' => e = .returned (.bool true) ∧ w = w' := by
  have h1 : mayB 1024 = true := rfl
  have h2 : learnI 1024 true = 992 := rfl
  have h3 := Lib.hid (Learn_calls 1024 true w)
  rw [h1, h2] at h3
  clear h1 h2
  go_enter Try.func8, Try.ntmps8
  go_wp2_with (go_at_call 10; refine h3.out.mono ?_; rintro e w1 ⟨rfl, rfl⟩)
  go_ret
  exact ⟨rfl, rfl⟩
end Go.Proofs.Ytldhfapigjcjiaa
