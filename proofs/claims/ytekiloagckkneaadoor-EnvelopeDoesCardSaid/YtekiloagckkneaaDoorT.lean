/- The types' sizes: one closed fact over a table. -/
import Derived.Test.YtekiloagckkneaaDoorRows
import Derived.Test.YtekiloagckkneaaDoorO
namespace Go.Proofs.YtekiloagckkneaaDoor
open Go.RowKit Go.Own Go.Ord

def tyTab : List (Nat × (Bool × Nat)) := [(2, false, 1), (3, false, 1), (4, false, 1), (5, false, 1), (9, false, 1), (12, false, 1), (21, false, 1), (22, false, 1), (23, true, 4), (24, true, 4), (25, false, 1), (27, true, 5), (28, false, 1), (31, true, 6), (32, false, 1), (41, false, 1), (67, false, 1), (68, true, 4), (71, false, 1)]
theorem tyTab_ok : (tyTab.all fun x => aggT Tryd.prog x.1 == some x.2.1 && (Tryd.prog.info? x.1).map (·.size) == some x.2.2) = true := by kernel_rfl
theorem mem_of_lookup {β : Type} : ∀ {l : List (Nat × β)} {k : Nat} {v : β}, l.lookup k = some v → (k, v) ∈ l
  | [], _, _, h => by simp at h
  | (k', v') :: r, k, v, h => by
    simp only [List.lookup] at h
    split at h
    · rename_i he
      simp only [Option.some.injEq] at h
      have := eq_of_beq he
      subst this h
      exact List.mem_cons_self
    · exact List.mem_cons_of_mem _ (mem_of_lookup h)
theorem ty_both {t n : Nat} {b : Bool} (h : tyTab.lookup t = some (b, n)) : aggT Tryd.prog t = some b ∧ (Tryd.prog.info? t).map (·.size) = some n := by
  have := List.all_eq_true.1 tyTab_ok _ (mem_of_lookup h)
  simpa using this
theorem tA {t n : Nat} {b : Bool} (h : tyTab.lookup t = some (b, n)) : aggT Tryd.prog t = some b := (ty_both h).1
theorem tS {t n : Nat} {b : Bool} (h : tyTab.lookup t = some (b, n)) : (Tryd.prog.info? t).map (·.size) = some n := (ty_both h).2
end Go.Proofs.YtekiloagckkneaaDoor
