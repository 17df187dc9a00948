/- What comes in, opened: slices of tokens. -/
import Derived.Test.YtnkpjmcgecdkfaaMt
import Derived.Deep.Slices
import Derived.Deep.Fields
import Derived.ChangeSame
namespace Go.Opn
open Go.ChangeShapes Go.WideShapes Go.ChangeAt Go.RowKit Go.Own Go.Mt Go.Deep

section
variable {H : Type} {enc : TypeId × Value → H} {P : Program} {w : World} {base : Nat} {spare : Nat → Bool} {held : Bool}
theorem open_slice_fields {t e : TypeId} {fs : Array Field} {fuel : Nat} {cs : List Value} {x : DataW H × List MemPlace} (ht : P.underlying t = some (.slice e)) (he : P.underlying e = some (.struct fs))
    (hone : oneCellFields P fs = true) (hC : P.cellsOf e = fs.size) (h : DataW.trod enc P w base spare held fuel t cs = some x) :
    (cs = [.slice none 0 0] ∧ x = (.nil, [])) ∨
    ∃ (a : Addr) (len cap m : Nat) (D : Nat → DataW H) (Pl : Nat → List MemPlace), cs = [.slice (some a) len cap] ∧ base ≤ a.block ∧ len ≤ cap ∧ cap ≤ maxLen ∧ m = (if spare a.block then cap else len) ∧
      x = (.slice ((List.range len).map D) ((List.range (m - len)).map fun j => D (len + j)), MemPlace.row a (m * fs.size) ++ (List.range m).flatMap Pl) ∧
      ∀ i, i < m → ∃ (ys : List (DataW H × List MemPlace)) (n : Nat), D i = .agg (ys.map (·.1)) ∧ Pl i = ys.flatMap (·.2) ∧ ys.length = fs.size ∧
        ∀ (j : Nat) (f : Field), fs[j]? = some f → ∃ (v : Value) (y : DataW H × List MemPlace), w.cell? (a.add (i * fs.size + j)) = some v ∧ ys[j]? = some y ∧ DataW.trod enc P w base spare held n f.type [v] = some y := by
  rcases open_slice ht h with h0 | ⟨a, len, cap, m, n, D, Pl, hcs, hb, hl, hm, hmm, hx, hi⟩
  · exact .inl h0
  · refine .inr ⟨a, len, cap, m, D, Pl, hcs, hb, hl, hm, hmm, by rw [hC] at hx; exact hx, fun i him => ?_⟩
    obtain ⟨cs', hc, ht'⟩ := hi i him
    rw [hC] at hc
    obtain ⟨ys, n', hn', hy, hlen, hyl, hf⟩ := DataW.trod_struct he ht'
    obtain ⟨_, hcl, hat⟩ := World.cells?_some hc
    simp only [Prod.mk.injEq] at hy
    refine ⟨ys, n', hy.1, hy.2, hyl, fun j f hj => ?_⟩
    obtain ⟨ho, hk⟩ := hone_of hone j f hj
    have hjl : j < fs.size := (Array.getElem?_eq_some_iff.1 hj).1
    have hcell := hat j hjl
    have hv : cs'[j]? = some (cs'[j]'(by omega)) := List.getElem?_eq_getElem (by omega)
    have h1 := hf j f hj
    rw [ho, hk] at h1
    have hone' : (cs'.drop j).take 1 = [cs'[j]'(by omega)] := by
      rw [List.drop_eq_getElem_cons (by omega)]
      rfl
    rw [hone'] at h1
    have hys : ys[j]? = some (ys[j]'(by omega)) := List.getElem?_eq_getElem (by omega)
    refine ⟨_, _, ?_, hys, h1.trans hys⟩
    rw [← Go.Deep.add_add, hcell, hv]
end

/-- WHAT THE WALK IS TOLD OF A SLICE OF TOKENS THAT CAME IN -/
def IsToks (w : World) (a : Option Addr) (len cap : Nat) (l : List Tok) : Prop := Rd w 3 a len cap (tks l)
instance : Inhabited Tok := ⟨zT⟩
theorem open_toks {H : Type} {enc : TypeId × Value → H} {P : Program} {w : World} {base : Nat} {held : Bool} {t e : TypeId} {f0 f1 f2 : Field} {a : Option Addr} {len cap : Nat} {d : DataW H} {ps : List MemPlace}
    (ht : P.underlying t = some (.slice e)) (he : P.underlying e = some (.struct #[f0, f1, f2])) (hone : oneCellFields P #[f0, f1, f2] = true) (hC : P.cellsOf e = 3)
    (h0 : P.underlying f0.type = some (.int .u8)) (h1 : P.underlying f1.type = some (.int .i64)) (h2 : P.underlying f2.type = some (.int .i64))
    (hd : DataW.Trod enc P w base (fun _ => true) held t (.slice a len cap) d ps) : ∃ l, IsToks w a len cap l := by
  obtain ⟨fuel, hf⟩ := hd
  rcases open_slice_fields ht he hone hC hf with ⟨hcs, _⟩ | ⟨x, l, c, m, D, Pl, hcs, _, hl, hm, hmm, _, hi⟩
  · simp [Value.cells] at hcs
    obtain ⟨rfl, rfl, rfl⟩ := hcs
    exact ⟨[], rfl, Nat.le_refl _, by simp [maxLen], fun _ => ⟨rfl, rfl⟩, fun h => absurd rfl h⟩
  · simp [Value.cells] at hcs
    obtain ⟨rfl, rfl, rfl⟩ := hcs
    simp only [if_true] at hmm
    have each : ∀ i, i < len → ∃ t : Tok, ∀ j v, t.C.toList[j]? = some v → w.cell? (x.add (i * 3 + j)) = some v := fun i hil => by
      obtain ⟨ys, n, _, _, _, hg⟩ := hi i (by omega)
      obtain ⟨v0, y0, c0, _, t0⟩ := hg 0 f0 rfl
      obtain ⟨v1, y1, c1, _, t1⟩ := hg 1 f1 rfl
      obtain ⟨v2, y2, c2, _, t2⟩ := hg 2 f2 rfl
      obtain ⟨z0, e0, _, w0⟩ := DataW.trod_int h0 t0
      obtain ⟨z1, e1, _, _⟩ := DataW.trod_int h1 t1
      obtain ⟨z2, e2, _, _⟩ := DataW.trod_int h2 t2
      simp only [List.cons.injEq, and_true] at e0 e1 e2
      subst e0 e1 e2
      obtain ⟨b, rfl⟩ := Go.Bv.bv8_of_wf w0
      refine ⟨⟨b, z1, z2⟩, fun j v hj => ?_⟩
      match j, hj with
      | 0, hj => simp only [Tok.C, List.getElem?_cons_zero, Option.some.injEq] at hj; subst hj; exact c0
      | 1, hj => simp only [Tok.C, List.getElem?_cons_succ, List.getElem?_cons_zero, Option.some.injEq] at hj; subst hj; exact c1
      | 2, hj => simp only [Tok.C, List.getElem?_cons_succ, List.getElem?_cons_zero, Option.some.injEq] at hj; subst hj; exact c2
      | j + 3, hj => simp [Tok.C] at hj
    obtain ⟨f, hfi⟩ := choose_lt each
    have hll : ((List.range len).map f).length = len := by simp
    have hcell : ∀ j, j < len * 3 → w.cell? (x.add j) = (tks ((List.range len).map f))[j]? := fun j hj => by
      have hi3 : j / 3 < len := by omega
      have hget : ((List.range len).map f)[j / 3]'(by rw [hll]; exact hi3) = f (j / 3) := by simp
      have hr : j % 3 < (f (j / 3)).C.toList.length := by show _ < 3; omega
      have h1 := hfi (j / 3) hi3 (j % 3) _ (List.getElem?_eq_getElem hr)
      have h2 := tks_get ((List.range len).map f) (j / 3) (by rw [hll]; exact hi3) (j % 3) _ (by rw [hget]; exact List.getElem?_eq_getElem hr)
      rw [show j / 3 * 3 + j % 3 = j by omega] at h1 h2
      rw [h1, h2]
    refine ⟨(List.range len).map f, by rw [tks_length, hll], hl, hm, fun h => by simp at h, fun hne => ?_⟩
    have h0 := hcell 0 (by omega)
    rw [Addr.add_zero', List.getElem?_eq_getElem (by rw [tks_length, hll]; omega)] at h0
    have hlt := World.block_lt_of_cell? w x h0
    have hspot : x.spot = none := by
      cases hs : x.spot with
      | none => rfl
      | some s =>
        exfalso
        simp only [World.cell?, hs] at h0
        split at h0 <;> simp at h0
    obtain ⟨b, off, sp⟩ := x
    dsimp only at hspot hlt
    subst hspot
    refine ⟨b, off, rfl, hlt, fun j hj => ?_⟩
    have hcj := hcell j hj
    rw [Addr.add_lit] at hcj
    exact hcj
end Go.Opn
