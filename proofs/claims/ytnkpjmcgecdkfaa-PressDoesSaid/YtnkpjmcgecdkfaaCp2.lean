/- 'copy' into a row of the call's own. -/
import Derived.Test.YtnkpjmcgecdkfaaHs
import Derived.Laws.CopyRow
namespace Go.Own
open Go.RowKit Go.Ord
section
variable {P : Program} {ops : Array Oper} {Q : Exit → Act → World → Prop} {a : Act} {w w0 : World} {L : List Res} {rest : List Oper}
variable {d : Option Tmp} {ty : TypeId} {pos : String} {aft : Array Edge}
theorem gCopy {args : Array Operand} {ats : Array TypeId} (h : wpList P ops Q ({ dst := d, op := .call { callee := .builtin .copy, args := args, argTypes := ats }, type := ty, pos := pos, after := aft, guard := none } :: rest) a w) :
    wpList P ops Q ({ dst := d, op := .call { callee := .builtin .copy, args := args, argTypes := ats }, type := ty, pos := pos, after := aft, guard := none } :: rest) a w := h
/-- 'copy(s[o:], x)', s of the call's own: m cells come in -/
theorem own_copy (hO : Own w0 w L) (i : Nat) (s x : Operand) (t t2 : TypeId) {e : TypeId} {z : Value} {bytes : Nat} (hE : Elem P t e z 1 bytes) {g o n cap dLen dCap sLen sCap : Nat} {sa : Addr} {xs ys : List Value}
    (hi : L[i]? = some (.sl e 1 (.slice (some ⟨g, 0, none⟩) n cap) n xs)) (hs : a.eval s = .slice (some ⟨g, o, none⟩) dLen dCap) (hx : a.eval x = .slice (some sa) sLen sCap) (m : Nat) (hm : Nat.min sLen dLen = m) (hfit : o + dLen ≤ n)
    (hy : ys.length = m) (hsrc : ∀ j v, ys[j]? = some v → w.cell? (sa.add j) = some v) (h1 : ∀ v ∈ ys, v.oneCell' = true) (zs : List Value) (hz : xs.take o ++ ys ++ xs.drop (o + m) = zs)
    (h : ∀ w', Own w0 w' (L.set i (.sl e 1 (.slice (some ⟨g, 0, none⟩) n cap) n zs)) → wpList P ops Q rest (a.put d (.int .i64 (m : Int))) w') :
    wpList P ops Q ({ dst := d, op := .call { callee := .builtin .copy, args := #[s, x], argTypes := #[t, t2] }, type := ty, pos := pos, after := aft, guard := none } :: rest) a w := by
  refine wpList_plain rfl fun K hK => ?_
  subst hz
  obtain ⟨inf, hinf, hzz, hsz, hby⟩ := info_parts hE.info
  obtain ⟨hlen, h2⟩ := hO.row i hi
  rcases h2 with ⟨hb, _⟩ | ⟨g', cap', cur, he, hb, hg, hnc, hcm, hcs, htake⟩
  · simp at hb
  simp only [Value.slice.injEq, Option.some.injEq, Addr.mk.injEq, and_true, true_and] at he
  obtain ⟨rfl, rfl⟩ := he
  rw [Nat.mul_one] at htake hlen hcs
  have hml : m ≤ dLen := by rw [← hm]; exact Nat.min_le_right _ _
  have hrun := run_copy_row (P := P) w t t2 ty e g o dLen dCap sa sLen sCap cur e ys hE.slice (by rw [hinf]; simpa using hsz) hg (by rw [hy, hm]) hsrc (by rw [hy]; omega) h1
  have hxs : xs = cur.toList.take n := htake.symm
  have hnew : (cur.toList.take o ++ ys ++ cur.toList.drop (o + ys.length)).take n = xs.take o ++ ys ++ xs.drop (o + m) := by
    rw [hy, hxs, List.take_take, Nat.min_eq_left (by omega), List.drop_take]
    have hl1 : (cur.toList.take o ++ ys).length = o + m := by rw [List.length_append, List.length_take, Array.length_toList, hy]; omega
    rw [show n = (cur.toList.take o ++ ys).length + (n - (o + m)) by rw [hl1]; omega, List.take_length_add_append, hl1]
    congr 2
    omega
  have hsize : (cur.toList.take o ++ ys ++ cur.toList.drop (o + ys.length)).toArray.size = cap := by
    simp only [List.size_toArray, List.length_append, List.length_take, List.length_drop, Array.length_toList, hy]; omega
  have hrow : (w.setRow g (cur.toList.take o ++ ys ++ cur.toList.drop (o + ys.length)).toArray).ownsRow w0.heap.size e 1 (.slice (some ⟨g, 0, none⟩) n cap) n (xs.take o ++ ys ++ xs.drop (o + m)) :=
    ⟨by rw [← hnew, List.length_take, ← List.size_toArray, hsize]; omega, .inr ⟨g, cap, _, rfl, hb, setRow_heap w g cur _ e _ hg, hnc, hcm, by rw [hsize, Nat.mul_one], by rw [Nat.mul_one]; exact hnew⟩⟩
  have hO' : Own w0 (w.setRow g (cur.toList.take o ++ ys ++ cur.toList.drop (o + ys.length)).toArray) (L.set i (.sl e 1 (.slice (some ⟨g, 0, none⟩) n cap) n (xs.take o ++ ys ++ xs.drop (o + m)))) :=
    hO.set i hi rfl rfl rfl (by simp) (fun k _ hk => setRow_other _ _ _ _ (fun h => hk (by simp [Res.foot, Value.ownBlock, h]))) hrow (fun k hk => .inl hk)
  unfold Oper.wp execOp
  simp only [resolve, invoke, builtin, Sem.run_bind, Sem.run_pure, Result.andThen_ok, List.map_toArray, List.map_cons, List.map_nil, hs, hx, hrun]
  rw [show goInt (ys.length : Int) = .int .i64 (m : Int) by rw [hy]; rfl]
  exact hK _ _ (h _ hO')
end
end Go.Own
