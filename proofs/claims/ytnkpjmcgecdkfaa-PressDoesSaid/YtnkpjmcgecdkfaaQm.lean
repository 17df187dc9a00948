/- Chances: what they learn. No program in sight. -/
import Derived.Test.YtnkpjmcgecdkfaaI
import Derived.Test.YtnkpjmcgecdkfaaA
namespace Go.Proofs.Ytnkpjmcgecdkfaa
open Go.RowKit Go.Own Go.Bv Go.Eq Go.Opn

def mayB (p : Int) : Bool := decide (31 ≤ p) && decide (p ≤ 2017)
theorem mayB_iff (p : Int) : mayB p = true ↔ 31 ≤ p ∧ p ≤ 2017 := by simp [mayB]
def learnI (p : Int) (b : Bool) : Int := if b then p - p / 32 else p + (2048 - p) / 32
def checkE (l : List Int) : Int := if l.length ≤ 1024 ∧ l.all mayB then 0 else 1

theorem may_learn {p : Int} (b : Bool) (h : mayB p = true) : mayB (learnI p b) = true := by
  rw [mayB_iff] at *
  unfold learnI
  cases b <;> simp <;> omega
theorem learn_up {p : Int} (h : mayB p = true) : p ≤ learnI p false := by
  rw [mayB_iff] at *
  unfold learnI
  simp; omega
theorem learn_down {p : Int} (h : mayB p = true) : learnI p true ≤ p := by
  rw [mayB_iff] at *
  unfold learnI
  simp; omega

def iter (b : Bool) : Nat → Int → Int
  | 0, p => p
  | k + 1, p => learnI (iter b k p) b
theorem iter_may {p : Int} (b : Bool) (k : Nat) (h : mayB p = true) : mayB (iter b k p) = true := by
  induction k with
  | zero => exact h
  | succ k ih => exact may_learn b ih
theorem learn_mono {p q : Int} (b : Bool) (h : p ≤ q) : learnI p b ≤ learnI q b := by
  unfold learnI
  cases b <;> simp <;> omega
theorem iter_mono {p q : Int} (b : Bool) (k : Nat) (h : p ≤ q) : iter b k p ≤ iter b k q := by
  induction k with
  | zero => exact h
  | succ k ih => exact learn_mono b ih
theorem iter_low : iter true 400 2017 = 31 := by decide +kernel
theorem iter_high : iter false 400 31 = 2017 := by decide +kernel
theorem iter_end {p : Int} (b : Bool) (h : mayB p = true) : iter b 400 p = if b then 31 else 2017 := by
  have h1 := (mayB_iff _).1 (iter_may b 400 h)
  have h2 := (mayB_iff _).1 h
  cases b
  · have := iter_mono false 400 h2.1
    rw [iter_high] at this
    simp only [Bool.false_eq_true, if_false]
    omega
  · have := iter_mono true 400 h2.2
    rw [iter_low] at this
    simp only [if_true]
    omega

def steps (p : Int) (bs : List Bool) : Int := bs.foldl learnI p
theorem steps_may {p : Int} (h : mayB p = true) (bs : List Bool) : mayB (steps p bs) = true := by
  unfold steps
  induction bs generalizing p with
  | nil => exact h
  | cons b r ih => exact ih (may_learn b h)
theorem steps_take (p : Int) (bs : List Bool) (k : Nat) (h : k < bs.length) : steps p (bs.take (k + 1)) = learnI (steps p (bs.take k)) bs[k] := by
  unfold steps
  rw [List.take_succ_eq_append_getElem h, List.foldl_append]
  rfl
end Go.Proofs.Ytnkpjmcgecdkfaa
