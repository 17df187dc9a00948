/- The types' sizes: one closed fact over a table. -/
import Derived.Test.YtnkpjmcgecdkfaaRows
import Derived.Test.YtnkpjmcgecdkfaaO
namespace Go.Proofs.Ytnkpjmcgecdkfaa
open Go.RowKit Go.Own Go.Ord

def tyTab : List (Nat × (Bool × Nat)) := [(2, false, 1), (3, false, 1), (4, false, 1), (5, false, 1), (9, false, 1), (12, false, 1), (21, false, 1), (22, false, 1), (24, false, 1), (25, false, 1), (30, true, 3), (32, true, 2), (34, false, 1), (51, false, 1), (54, false, 1), (56, true, 2), (59, false, 1), (60, false, 1), (62, true, 4), (68, false, 1), (77, false, 1), (78, false, 1), (80, true, 6), (91, true, 5), (107, false, 1)]
theorem tyTab_ok : (tyTab.all fun x => aggT Try.prog x.1 == some x.2.1 && (Try.prog.info? x.1).map (·.size) == some x.2.2) = true := by kernel_rfl
theorem mem_of_lookup {β : Type} : ∀ {l : List (Nat × β)} {k : Nat} {v : β}, l.lookup k = some v → (k, v) ∈ l
  | [], _, _, h => by simp at h
  | (k', v') :: r, k, v, h => by
    simp only [List.lookup] at h
    split at h
    · rename_i he
      simp only [Option.some.injEq] at h
      have := eq_of_beq he
      subst this h
      exact List.mem_cons_self
    · exact List.mem_cons_of_mem _ (mem_of_lookup h)
theorem ty_both {t n : Nat} {b : Bool} (h : tyTab.lookup t = some (b, n)) : aggT Try.prog t = some b ∧ (Try.prog.info? t).map (·.size) = some n := by
  have := List.all_eq_true.1 tyTab_ok _ (mem_of_lookup h)
  simpa using this
theorem tA {t n : Nat} {b : Bool} (h : tyTab.lookup t = some (b, n)) : aggT Try.prog t = some b := (ty_both h).1
theorem tS {t n : Nat} {b : Bool} (h : tyTab.lookup t = some (b, n)) : (Try.prog.info? t).map (·.size) = some n := (ty_both h).2
end Go.Proofs.Ytnkpjmcgecdkfaa
