/- The walk of prob.Split, and of ProbSplits. -/
import Derived.Test.YtnkpjmcgecdkfaaQ
namespace Go.Proofs.Ytnkpjmcgecdkfaa
open Go.RowKit Go.Own Go.Bv Go.Ord Go.Eq Go.Opn

def splitOk (s : Int) (p : Int) : Bool := decide (16777216 ≤ s) && mayB p
def splitI (s p : Int) : Int := s / 2048 * p

theorem split_bounds {s p : Int} (h0 : s < 4294967296) (h1 : 16777216 ≤ s) (h2 : mayB p = true) : 253952 ≤ splitI s p ∧ splitI s p + 253952 ≤ s ∧ splitI s p < 4294967296 := by
  obtain ⟨a, b⟩ := (mayB_iff p).1 h2
  unfold splitI
  have hq : 8192 ≤ s / 2048 := by omega
  have hq2 : s / 2048 * 2048 ≤ s := by omega
  generalize s / 2048 = q at *
  have l1 : 8192 * 31 ≤ q * p := by
    have := Int.mul_le_mul hq a (by omega) (by omega)
    simpa using this
  have l2 : q * p ≤ q * 2017 := Int.mul_le_mul_of_nonneg_left b (by omega)
  refine ⟨by omega, by omega, by omega⟩

set_option maxHeartbeats 1000000 in
theorem split_calls (s p : Int) (w : World) (h0 : 0 ≤ s) (h1 : s < 4294967296) :
    Calls Try.prog 61 #[.int .u32 s, .int .i64 p] w fun e w' => e = .returned (.tuple #[.int .u32 (if splitOk s p then splitI s p else 0), .int .i64 (if splitOk s p then 0 else 1)]) ∧ w = w' := by
  by_cases h2 : 16777216 ≤ s
  · cases hm : mayB p
    · have e : splitOk s p = false := by simp [splitOk, hm]
      rw [e]
      have HM := Lib.hid hm
      clear hm e
      have hb : decide (s < 16777216) = false := by simp; omega
      simp only [Bool.false_eq_true, if_false]
      go_enter Try.func61, Try.ntmps61
      go_wp2_with (go_at_call 66; refine (may_calls _ _).mono ?_; rw [HM.out]; rintro e w1 ⟨rfl, rfl⟩)
      go_ret2
      exact ⟨rfl, rfl⟩
    · have e : splitOk s p = true := by simp [splitOk, hm, h2]
      rw [e]
      obtain ⟨b1, b2, b3⟩ := split_bounds h1 h2 hm
      obtain ⟨pa, pb⟩ := (mayB_iff p).1 hm
      have HM := Lib.hid hm
      clear hm e
      have hb : decide (s < 16777216) = false := by simp; omega
      simp only [if_true]
      have hmul : (s / 2048 * p) % 4294967296 = splitI s p := by
        show _ = s / 2048 * p
        exact Int.emod_eq_of_lt (by have : splitI s p = s / 2048 * p := rfl; omega) b3
      generalize splitI s p = m at *
      go_enter Try.func61, Try.ntmps61
      go_wp2_with (go_at_call 66; refine (may_calls _ _).mono ?_; rw [HM.out]; rintro e w1 ⟨rfl, rfl⟩)
      go_ret2
      exact ⟨by rw [← hmul]; rfl, rfl⟩
  · have e : splitOk s p = false := by simp [splitOk, h2]
    rw [e]
    have hb : decide (s < 16777216) = true := by simp; omega
    simp only [Bool.false_eq_true, if_false]
    go_enter Try.func61, Try.ntmps61
    go_wp2
    go_ret2
    exact ⟨rfl, rfl⟩


end Go.Proofs.Ytnkpjmcgecdkfaa
