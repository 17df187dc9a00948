/- Walks: prob.may, learn, Learn, Check, the law's live. -/
import Derived.Test.YtnkpjmcgecdkfaaRows
import Derived.Test.YtnkpjmcgecdkfaaQm
namespace Go.Proofs.Ytnkpjmcgecdkfaa
open Go.RowKit Go.Own Go.Bv Go.Ord Go.Eq Go.Opn

theorem ei64 : Elem Try.prog 59 3 (.int .i64 0) 1 8 := ⟨Try.underlying59, by kernel_rfl, rfl, by decide⟩

set_option maxHeartbeats 400000 in
theorem may_calls (p : Int) (w : World) :
    Calls Try.prog 66 #[.int .i64 p] w fun e w' => e = .returned (.bool (mayB p)) ∧ w = w' := by
  by_cases h1 : 31 ≤ p
  · have e : mayB p = decide (p ≤ 2017) := by simp [mayB, h1]
    rw [e]
    go_enter Try.func66, Try.ntmps66
    go_wp2
    go_ret
    exact ⟨rfl, rfl⟩
  · have e : mayB p = false := by simp [mayB, h1]
    rw [e]
    go_enter Try.func66, Try.ntmps66
    go_wp2
    go_ret
    exact ⟨rfl, rfl⟩


set_option maxHeartbeats 400000 in
theorem learn_calls (p : Int) (b : Bool) (w : World) (h : mayB p = true) :
    Calls Try.prog 67 #[.int .i64 p, .bool b] w fun e w' => e = .returned (.int .i64 (learnI p b)) ∧ w = w' := by
  rw [mayB_iff] at h
  obtain ⟨h1, h2⟩ := h
  cases b
  all_goals
    go_enter Try.func67, Try.ntmps67
    go_wp2
    go_ret
    exact ⟨rfl, rfl⟩

set_option maxHeartbeats 400000 in
theorem Learn_calls (p : Int) (b : Bool) (w : World) :
    Calls Try.prog 62 #[.int .i64 p, .bool b] w fun e w' => e = .returned (.tuple #[.int .i64 (if mayB p then learnI p b else 0), .int .i64 (if mayB p then 0 else 1)]) ∧ w = w' := by
  cases h : mayB p
  all_goals
    have HM := Lib.hid h
    clear h
    go_enter Try.func62, Try.ntmps62
    go_wp2_with (first
      | (go_at_call 66; refine (may_calls _ _).mono ?_; rw [HM.out]; rintro e w1 ⟨rfl, rfl⟩)
      | (go_at_call 67; refine (learn_calls _ _ _ HM.out).mono ?_; rintro e w1 ⟨rfl, rfl⟩))
    go_ret2
    exact ⟨rfl, rfl⟩

theorem all_hit {l : List Int} {k : Nat} (hk : k < l.length) (h : mayB l[k] = false) : l.all mayB = false := by
  cases h2 : l.all mayB with
  | false => rfl
  | true =>
    rw [List.all_eq_true] at h2
    have := h2 l[k] (List.getElem_mem hk)
    rw [h] at this
    cases this
theorem all_next {l : List Int} {k : Nat} (hk : k < l.length) (h : (l.take k).all mayB = true) (h1 : mayB l[k] = true) : (l.take (k + 1)).all mayB = true := by
  rw [List.take_succ_eq_append_getElem hk, List.all_append, h]
  simp [h1]




theorem check_one (p : Int) : checkE [p] = if mayB p then 0 else 1 := by simp [checkE]


end Go.Proofs.Ytnkpjmcgecdkfaa
