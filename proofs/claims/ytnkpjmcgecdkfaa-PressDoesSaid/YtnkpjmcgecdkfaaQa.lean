/- Walks: SameInts, slices.Clone of integers, prob.All. -/
import Derived.Test.YtnkpjmcgecdkfaaQ
import Derived.Test.YtnkpjmcgecdkfaaQb
import Derived.Lib.AppendZeros
import Derived.Lib.LazyBuf
namespace Go.Proofs.Ytnkpjmcgecdkfaa
open Go.RowKit Go.Own Go.Bv Go.Ord Go.Eq Go.Opn Go.Pb

theorem ii64s : (Try.prog.info? 3).map (·.size) = some 1 := by kernel_rfl
theorem ibtz : (Try.prog.info? 32).bind (·.zero) = some (.agg zB.C) := by kernel_rfl
theorem i64s_one (l : List Int) : ∀ u ∈ i64s l, u.oneCell' = true := by
  intro u hu
  simp only [i64s, List.mem_map] at hu
  obtain ⟨x, _, rfl⟩ := hu
  rfl
theorem i64s_inj {a b : List Int} (h : i64s a = i64s b) : a = b := by
  refine (List.map_inj_right fun x y hxy => ?_).1 h
  simpa using hxy
theorem take_same {l r : List Int} {k : Nat} (h : l.take k = r.take k) {s : Int} (h1 : l[k]? = some s) (h2 : r[k]? = some s) : l.take (k + 1) = r.take (k + 1) := by
  rw [List.take_add_one, List.take_add_one, h, h1, h2]




end Go.Proofs.Ytnkpjmcgecdkfaa
