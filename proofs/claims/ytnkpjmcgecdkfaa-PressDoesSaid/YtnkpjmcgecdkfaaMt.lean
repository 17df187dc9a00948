/- Tokens as they lie: their cells, a row of them; '==' of two. -/
import Derived.Test.YtnkpjmcgecdkfaaRows
import Derived.Test.YtnkpjmcgecdkfaaMm
import Derived.Test.YtnkpjmcgecdkfaaT
import Derived.Test.YtnkpjmcgecdkfaaHs
import Derived.Test.YtnkpjmcgecdkfaaA
import Derived.Test.YtnkpjmcgecdkfaaI
import Derived.Laws.StructEq
namespace Go.Mt
open Go.RowKit

def Tok.C (t : Tok) : Array Value := #[.int .u8 (t.lit.toNat : Int), .int .i64 t.len, .int .i64 t.dist]
def tks : List Tok → List Value
  | [] => []
  | t :: r => .int .u8 (t.lit.toNat : Int) :: .int .i64 t.len :: .int .i64 t.dist :: tks r
theorem tks_length : ∀ l : List Tok, (tks l).length = l.length * 3
  | [] => rfl
  | t :: r => by simp only [tks, List.length_cons, tks_length r]; omega
theorem tks_append : ∀ l r : List Tok, tks (l ++ r) = tks l ++ tks r
  | [], r => rfl
  | t :: l, r => by simp only [tks, List.cons_append, tks_append l r]
theorem tks_one' (t : Tok) : tks [t] = t.C.toList := rfl
theorem tks_cons (t : Tok) (r : List Tok) : tks (t :: r) = t.C.toList ++ tks r := rfl
theorem tks_get : ∀ (l : List Tok) (k : Nat) (h : k < l.length) (j : Nat) (v : Value), l[k].C.toList[j]? = some v → (tks l)[k * 3 + j]? = some v
  | t :: r, 0, _, j, v, hv => by
    have hj : j < 3 := (List.getElem?_eq_some_iff.1 hv).1
    rw [tks_cons, Nat.zero_mul, Nat.zero_add, List.getElem?_append_left (by exact hj)]
    exact hv
  | t :: r, k + 1, h, j, v, hv => by
    rw [tks_cons, List.getElem?_append_right (by show 3 ≤ _; omega)]
    have := tks_get r k (by simpa using h) j v (by simpa using hv)
    rw [← this]
    congr 1
    show (k + 1) * 3 + j - 3 = _
    omega
theorem tks_take : ∀ (l : List Tok) (k : Nat), (tks l).take (k * 3) = tks (l.take k)
  | [], k => by simp [tks]
  | t :: r, 0 => by simp [tks]
  | t :: r, k + 1 => by
    rw [List.take_succ_cons, tks_cons, tks_cons, show (k + 1) * 3 = t.C.toList.length + k * 3 by show _ = 3 + _; omega, List.take_length_add_append, tks_take r k]
theorem tks_one (l : List Tok) : ∀ u ∈ tks l, u.oneCell' = true := by
  induction l with
  | nil => simp [tks]
  | cons t r ih =>
    intro u hu
    simp only [tks, List.mem_cons] at hu
    rcases hu with rfl | rfl | rfl | hu
    · rfl
    · rfl
    · rfl
    · exact ih u hu
theorem Tok.C_inj {s t : Tok} (h : s.C = t.C) : s = t := by
  cases s; cases t
  simp only [Tok.C, Array.mk.injEq, List.cons.injEq, Value.int.injEq, true_and, and_true] at h
  obtain ⟨h1, h2, h3⟩ := h
  have h1 := BitVec.eq_of_toNat_eq (Int.ofNat.inj h1)
  simp_all
theorem tks_inj : ∀ {l r : List Tok}, tks l = tks r → l = r
  | [], [], _ => rfl
  | [], t :: r, h => by simp [tks] at h
  | t :: l, [], h => by simp [tks] at h
  | s :: l, t :: r, h => by
    rw [tks_cons, tks_cons] at h
    have h' := List.append_inj h rfl
    have := Tok.C_inj (s := s) (t := t) (by apply Array.toList_inj.1; exact h'.1)
    rw [this, tks_inj h'.2]
def zT : Tok := ⟨0, 0, 0⟩
end Go.Mt
namespace Go.Proofs.Ytnkpjmcgecdkfaa
open Go.RowKit Go.Own Go.Bv Go.Ord Go.Eq Go.Mt

theorem eu8m : Elem Try.prog 34 5 (.int .u8 0) 1 1 := ⟨Try.underlying34, by kernel_rfl, rfl, by decide⟩
theorem iu8s : (Try.prog.info? 5).map (·.size) = some 1 := by kernel_rfl
theorem itz : (Try.prog.info? 30).bind (·.zero) = some (.agg zT.C) := by kernel_rfl
theorem its : (Try.prog.info? 30).map (·.size) = some 3 := by kernel_rfl
theorem its' (t : Tok) : (Try.prog.info? 30).map (·.size) = some t.C.size := its
theorem etk : Elem Try.prog 22 30 (.agg zT.C) 3 24 := ⟨Try.underlying22, by kernel_rfl, rfl, by decide⟩
theorem t_egT : Try.prog.eqGuardType Try.prog.depth 30 = false := by kernel_rfl
theorem t_flT : flat Try.prog 30 = false := by kernel_rfl
theorem eqTok (s t : Tok) (w : World) : (binOp .eql 30 (.agg s.C) (.agg t.C)).run Try.prog w = .ok (.bool (decide (s = t))) w := by
  have u3 := Try.underlying3
  have u5 := Try.underlying5
  have hS : Try.prog.underlying 30 = some (.struct (Try.prog.fieldsOf 30)) := by kernel_rfl
  have hp : Try.prog.stoodInHeld 30 = false := by kernel_rfl
  rw [run_eql_struct, show (10000 : Nat) = 9999 + 1 from rfl, run_equalIn_agg w 9999 30 _ _ hS hp]
  have hd : decide (s = t) = ((s.lit.toNat : Int) == (t.lit.toNat : Int) && s.len == t.len && s.dist == t.dist) := by
    rw [Bool.eq_iff_iff]
    simp only [decide_eq_true_eq, Bool.and_eq_true, beq_iff_eq]
    constructor
    · rintro rfl; exact ⟨⟨rfl, rfl⟩, rfl⟩
    · rintro ⟨⟨h1, h2⟩, h3⟩
      exact Tok.C_inj (by simp only [Tok.C, h1, h2, h3])
  rw [hd]
  simp only [Program.fieldsOf, Try.underlying30, Tok.C]
  go_simp
  by_cases h1 : (s.lit.toNat : Int) = t.lit.toNat <;> by_cases h2 : s.len = t.len <;> by_cases h3 : s.dist = t.dist <;> simp [h1, h2, h3]
theorem neTok (s t : Tok) (w : World) : (binOp .neq 30 (.agg s.C) (.agg t.C)).run Try.prog w = .ok (.bool (!decide (s = t))) w := by
  have h := eqTok s t w
  rw [run_eql_struct] at h
  rw [run_neq_struct]
  revert h
  generalize (Op.equalIn 10000 30 (.agg s.C) (.agg t.C)).run Try.prog w = r
  cases r with
  | ok b w2 => simp +contextual [Result.andThen]
  | halt x w2 => simp [Result.andThen]
end Go.Proofs.Ytnkpjmcgecdkfaa
