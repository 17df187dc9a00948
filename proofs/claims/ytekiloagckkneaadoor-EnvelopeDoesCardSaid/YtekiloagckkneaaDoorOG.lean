/- A region that draws its order and has several operations that float (two variables next to a call, a row and a variable ..): a plan says, step by step, which operations may come first; one walk for each branch of the plan. -/
import Derived.Test.YtekiloagckkneaaDoorOF
namespace Go.Ord
open Go.RowKit

section
variable {P : Program} {ops : Array Oper} {Q : Exit → Act → World → Prop} {S : World → Prop} {st : Op → Bool}

/-- some that may come first, everything else apart from all of them -/
theorem any_firstN (C : List Nat) (hC0 : C ≠ []) (hsel : ∀ (j : Nat) (o : Oper) cs b, ops[j]? = some o → o.op ≠ .select cs b) (D : List Nat)
    (hD : ∀ j ∈ D, ∀ oj, ops[j]? = some oj → ∃ e ∈ oj.after, Region.binds .any e = true ∧ (e.on ∈ C ∨ e.on ∈ D))
    (hlast : lastB ops = true → ∀ j, j + 1 = ops.size → j ∉ C → j ∈ D) :
    ∀ (fuel : Nat) (listed : Array Bool) (a : Act) (w : World), S w →
      (∀ j oj, ops[j]? = some oj → j ∉ C → listed.getD j true = false → j ∉ D → (∀ c ∈ C, ∀ oc, ops[c]? = some oc → oc.apart ops oj = true ∧ compat (kindS P st oc.op) (kindS P st oj.op) = true) ∧ quietK (kindS P st oj.op) = true) →
      (∀ j ∈ D, listed.getD j false = false) →
      (∀ c ∈ C, c ∈ Region.ready .any ops listed ∧ ∃ oc, ops[c]? = some oc ∧ opI P ops S st Q oc (wpAnyI P ops S st Q fuel (listed.setIfInBounds c true)) a w) → wpAnyI P ops S st Q (fuel + 1) listed a w := by
  obtain ⟨c0, hc0⟩ : ∃ c, c ∈ C := List.exists_mem_of_ne_nil C hC0
  intro fuel
  induction fuel with
  | zero =>
    intro listed a w hS _ _ H
    refine ⟨fun h => (by have := (H c0 hc0).1; rw [h] at this; cases this), fun j hj => ?_⟩
    by_cases hjC : j ∈ C
    · obtain ⟨_, oc, hoc, h⟩ := H j hjC
      exact ⟨oc, hoc, .inl h⟩
    · obtain ⟨_, oc, hoc, h⟩ := H c0 hc0
      have h0 := ready_mono hj (fun e => hjC (e ▸ hc0) : j ≠ c0)
      obtain ⟨_, _, _, _, hK⟩ := opI_some hS h
      rw [hK.1] at h0
      cases h0
  | succ fuel ih =>
    intro listed a w hS hfree hDl H
    refine ⟨fun h => (by have := (H c0 hc0).1; rw [h] at this; cases this), fun j hj => ?_⟩
    by_cases hjC : j ∈ C
    · obtain ⟨_, oc, hoc, h⟩ := H j hjC
      exact ⟨oc, hoc, .inl h⟩
    obtain ⟨hjun, oj, hoj, hall⟩ := mem_ready.1 hj
    have hun : ∀ {k}, k ∈ Region.ready .any ops listed → listed.getD k false = true → False := fun {k} hk h1 => by
      have h0 := (mem_ready.1 hk).1
      rcases Nat.lt_or_ge k listed.size with h' | h'
      · simp [h'] at h0 h1; rw [h0] at h1; cases h1
      · simp [Array.getElem?_eq_none h'] at h1
    have hjD : j ∉ D := fun hm => by
      obtain ⟨e, he, hb, h⟩ := hD j hm oj hoj
      have h1 := hall e he hb
      rcases h with h | h
      · exact hun (H _ h).1 h1
      · rw [hDl _ h] at h1; cases h1
    obtain ⟨hap, hq⟩ := hfree j oj hoj hjC hjun hjD
    have step : ∀ c ∈ C, ∃ oc v, ops[c]? = some oc ∧ Gives P ops S oj v a ∧ opI P ops S st Q oc (wpAnyI P ops S st Q fuel ((listed.setIfInBounds j true).setIfInBounds c true)) (a.put oj.dst v) w := by
      intro c hc
      obtain ⟨hr, oc, hoc, Hk⟩ := H c hc
      have hjc : j ≠ c := fun e => hjC (e ▸ hc)
      obtain ⟨h1, h2⟩ := hap c hc oc hoc
      have hstep : opI P ops S st Q oc (opI P ops S st Q oj (wpAnyI P ops S st Q fuel ((listed.setIfInBounds c true).setIfInBounds j true))) a w := by
        refine opI_mono hS (fun a' w' _ hk' => ?_) Hk
        obtain ⟨oj', hoj', h⟩ := hk'.2 j (ready_mono hj hjc)
        rw [hoj] at hoj'
        obtain rfl := Option.some.inj hoj'
        rcases h with h | ⟨hjs, hlb, _, _⟩
        · exact h
        · exact (hjD (hlast hlb j hjs hjC)).elim
      have h3 := swap h1 (fun cs b => hsel c oc cs b hoc) (fun cs b => hsel j oj cs b hoj) h2 hS hstep
      rw [Array.setIfInBounds_comm _ _ (Ne.symm hjc)] at h3
      obtain ⟨v, hg, k1⟩ := gives_of (quietK_spec hq) h3
      exact ⟨oc, v, hoc, hg, k1⟩
    obtain ⟨_, v, _, hg, _⟩ := step c0 hc0
    refine ⟨oj, hoj, .inl (hg.opI hS ?_)⟩
    refine ih (listed.setIfInBounds j true) _ w hS ?_ ?_ ?_
    · intro k ok hk' hkC hun' hkD
      refine hfree k ok hk' hkC ?_ hkD
      by_cases hjk : j = k
      · subst hjk; exact hjun
      · rw [getD_set_ne true hjk] at hun'; exact hun'
    · intro k hk'
      have hjk : j ≠ k := fun h => hjD (h ▸ hk')
      rw [getD_set_ne false hjk]; exact hDl k hk'
    · intro c hc
      have hjc : j ≠ c := fun e => hjC (e ▸ hc)
      obtain ⟨oc, v', hoc, hg', k1⟩ := step c hc
      obtain rfl := hg.unique hS hg'
      exact ⟨ready_mono (H c hc).1 (Ne.symm hjc), oc, hoc, k1⟩

inductive Plan where
  | done
  | one (i : Nat) (r : Plan)
  | br (i : Nat) (p q : Plan)
def Plan.cands : Plan → List Nat
  | .done => []
  | .one i _ => [i]
  | .br i _ q => i :: q.cands

def waitsC (ops : Array Oper) (j : Nat) (C acc : List Nat) : Bool := ((ops[j]?).map fun o => o.after.toList.any fun e => Region.binds .any e && (C.contains e.on || acc.contains e.on)).getD false
def depsC (ops : Array Oper) (C U : List Nat) : List Nat := U.foldl (fun acc j => if !C.contains j && waitsC ops j C acc then acc ++ [j] else acc) []
def nodeB (P : Program) (st : Op → Bool) (ops : Array Oper) (U C : List Nat) : Bool :=
  let D := depsC ops C U
  !C.isEmpty && (C.all fun c => U.contains c && mayB ops c (U.erase c)) && (D.all fun j => U.contains j && !C.contains j && waitsC ops j C D) &&
  (U.all fun j => C.contains j || D.contains j || C.all fun c => (match ops[c]?, ops[j]? with | some oi, some oj => oi.apart ops oj && compat (kindS P st oi.op) (kindS P st oj.op) && (quietK (kindS P st oj.op) || C.length == 1) | _, _ => false)) &&
  (!lastB ops || C.contains (ops.size - 1) || D.contains (ops.size - 1))
def okN (P : Program) (st : Op → Bool) (ops : Array Oper) (U : List Nat) (top : Bool) : Plan → Bool
  | .done => top && U.isEmpty
  | .one i r => U.contains i && (!top || nodeB P st ops U [i]) && okN P st ops (U.erase i) true r
  | .br i p q => U.contains i && (!top || nodeB P st ops U (i :: q.cands)) && okN P st ops (U.erase i) true p && okN P st ops U false q
def wpP (P : Program) (ops : Array Oper) (S : World → Prop) (st : Op → Bool) (Q : Exit → Act → World → Prop) : Plan → Act → World → Prop
  | .done => fun a w => Q .normal a w
  | .one i r => fun a w => ∃ o, ops[i]? = some o ∧ opI P ops S st Q o (wpP P ops S st Q r) a w
  | .br i p q => fun a w => (∃ o, ops[i]? = some o ∧ opI P ops S st Q o (wpP P ops S st Q p) a w) ∧ wpP P ops S st Q q a w

theorem Left.erase {listed : Array Bool} {U : List Nat} (h : Left ops listed U) {i : Nat} (hi : i ∈ U) : Left ops (listed.setIfInBounds i true) (U.erase i) :=
  (h.perm (List.perm_cons_erase hi)).done
theorem node_ok {U C : List Nat} {listed : Array Bool} {a : Act} {w : World} (hsel : ∀ (j : Nat) (o : Oper) cs b, ops[j]? = some o → o.op ≠ .select cs b) (hn : nodeB P st ops U C = true) (hS : S w) (hL : Left ops listed U)
    (h : ∀ c ∈ C, ∃ oc, ops[c]? = some oc ∧ opI P ops S st Q oc (wpAnyI P ops S st Q (U.length - 1) (listed.setIfInBounds c true)) a w) : wpAnyI P ops S st Q U.length listed a w := by
  unfold nodeB at hn
  simp only [Bool.and_eq_true, Bool.or_eq_true, Bool.not_eq_true'] at hn
  obtain ⟨⟨⟨⟨n0, n1⟩, n2⟩, n3⟩, n4⟩ := hn
  have hC0 : C ≠ [] := by intro e; subst e; simp at n0
  obtain ⟨c0, hc0⟩ : ∃ c, c ∈ C := List.exists_mem_of_ne_nil C hC0
  have hcU : ∀ c ∈ C, c ∈ U ∧ mayB ops c (U.erase c) = true := fun c hc => by
    have := List.all_eq_true.1 n1 c hc
    simpa using this
  have hDU : ∀ j ∈ depsC ops C U, j ∈ U ∧ j ∉ C ∧ waitsC ops j C (depsC ops C U) = true := fun j hj => by
    have := List.all_eq_true.1 n2 j hj
    simp only [Bool.and_eq_true, Bool.not_eq_true', List.contains_iff_mem] at this
    refine ⟨this.1.1, fun hc => ?_, this.2⟩
    have h2 := this.1.2
    rw [List.contains_eq_mem] at h2
    simp [hc] at h2
  have hpos : 0 < U.length := List.length_pos_of_mem (hcU c0 hc0).1
  have hready : ∀ c ∈ C, c ∈ Region.ready .any ops listed := fun c hc => (hL.perm (List.perm_cons_erase (hcU c hc).1)).ready (hcU c hc).2
  have hD : ∀ j ∈ depsC ops C U, ∀ oj, ops[j]? = some oj → ∃ e ∈ oj.after, Region.binds .any e = true ∧ (e.on ∈ C ∨ e.on ∈ depsC ops C U) := fun j hj oj hoj => by
    have := (hDU j hj).2.2
    simp only [waitsC, hoj, Option.map_some, Option.getD_some, List.any_eq_true, Bool.and_eq_true, Bool.or_eq_true, List.contains_iff_mem] at this
    obtain ⟨e, he1, he2, he3⟩ := this
    exact ⟨e, by simpa using he1, he2, he3⟩
  have hlast : lastB ops = true → ∀ j, j + 1 = ops.size → j ∉ C → j ∈ depsC ops C U := fun hl j hj hjC => by
    have hjj : ops.size - 1 = j := by omega
    rw [hjj] at n4
    rcases n4 with (h | h) | h
    · rw [hl] at h; cases h
    · exact absurd (by simpa using h) hjC
    · simpa using h
  have hDl : ∀ j ∈ depsC ops C U, listed.getD j false = false := fun j hj => by
    rw [hL.get false (hL.lt j (hDU j hj).1)]
    simp [(hDU j hj).1]
  have hfree : ∀ j oj, ops[j]? = some oj → j ∉ C → listed.getD j true = false → j ∉ depsC ops C U → (∀ c ∈ C, ∀ oc, ops[c]? = some oc → oc.apart ops oj = true ∧ compat (kindS P st oc.op) (kindS P st oj.op) = true) ∧ (quietK (kindS P st oj.op) = true ∨ C.length = 1) := by
    intro j oj hoj hjC hun hjD
    have hjlt : j < ops.size := (Array.getElem?_eq_some_iff.1 hoj).1
    rw [hL.get true hjlt] at hun
    have hjU : j ∈ U := Decidable.not_not.1 (of_decide_eq_false hun)
    have h3 := List.all_eq_true.1 n3 j hjU
    simp only [Bool.or_eq_true, List.contains_iff_mem] at h3
    rcases h3 with (h3 | h3) | h3
    · exact absurd h3 hjC
    · exact absurd h3 hjD
    · refine ⟨fun c hc oc hoc => ?_, ?_⟩
      · have := List.all_eq_true.1 h3 c hc
        rw [hoc, hoj] at this
        simp only [Bool.and_eq_true] at this
        exact this.1
      · have hcs : ∃ oc, ops[c0]? = some oc := by obtain ⟨oc, hoc, _⟩ := h c0 hc0; exact ⟨oc, hoc⟩
        obtain ⟨oc, hoc⟩ := hcs
        have := List.all_eq_true.1 h3 c0 hc0
        rw [hoc, hoj] at this
        simp only [Bool.and_eq_true, Bool.or_eq_true, beq_iff_eq] at this
        exact this.2
  obtain ⟨m, hm⟩ : ∃ m, U.length = m + 1 := ⟨U.length - 1, by omega⟩
  rw [hm] at h ⊢
  rw [Nat.add_sub_cancel] at h
  by_cases h1 : C.length = 1
  · obtain ⟨c, rfl⟩ : ∃ c, C = [c] := List.length_eq_one_iff.1 h1
    obtain ⟨oc, hoc, hk⟩ := h c (by simp)
    refine any_first hoc hsel (depsC ops [c] U) ?_ ?_ m listed a w hS ?_ hDl (hready c (by simp)) hk
    · intro j hj oj hoj
      obtain ⟨e, he, hb, h⟩ := hD j hj oj hoj
      exact ⟨e, he, hb, by simpa using h⟩
    · intro hl j hj hjc
      exact hlast hl j hj (by simpa using hjc)
    · intro j oj hoj hjc hun hjD
      exact (hfree j oj hoj (by simpa using hjc) hun hjD).1 c (by simp) oc hoc
  · refine any_firstN C hC0 hsel (depsC ops C U) hD hlast m listed a w hS ?_ hDl (fun c hc => ⟨hready c hc, h c hc⟩)
    intro j oj hoj hjC hun hjD
    obtain ⟨f1, f2⟩ := hfree j oj hoj hjC hun hjD
    exact ⟨f1, f2.resolve_right h1⟩

theorem plan_sound (hsel : ∀ (j : Nat) (o : Oper) cs b, ops[j]? = some o → o.op ≠ .select cs b) : ∀ (p : Plan) (U : List Nat) (listed : Array Bool) (a : Act) (w : World), S w → Left ops listed U → wpP P ops S st Q p a w →
    (okN P st ops U true p = true → wpAnyI P ops S st Q U.length listed a w) ∧
    (okN P st ops U false p = true → ∀ c ∈ p.cands, ∃ oc, ops[c]? = some oc ∧ opI P ops S st Q oc (wpAnyI P ops S st Q (U.length - 1) (listed.setIfInBounds c true)) a w) := by
  intro p
  induction p with
  | done =>
    intro U listed a w hS hL h
    refine ⟨fun hok => ?_, fun hok => by simp [okN] at hok⟩
    simp only [okN, Bool.true_and, List.isEmpty_iff] at hok
    subst hok
    refine ⟨?_, h⟩
    rw [List.eq_nil_iff_forall_not_mem]
    intro j hj
    have := hL.mem hj
    cases this
  | one i r ih =>
    intro U listed a w hS hL h
    obtain ⟨o, ho, h⟩ := h
    have key : okN P st ops U false (.one i r) = true → ∀ c ∈ Plan.cands (.one i r), ∃ oc, ops[c]? = some oc ∧ opI P ops S st Q oc (wpAnyI P ops S st Q (U.length - 1) (listed.setIfInBounds c true)) a w := fun hok c hc => by
      simp only [Plan.cands, List.mem_singleton] at hc
      subst hc
      simp only [okN, Bool.and_eq_true, List.contains_iff_mem] at hok
      obtain ⟨⟨hi, _⟩, hr⟩ := hok
      refine ⟨o, ho, opI_mono hS (fun a' w' hS' hk' => ?_) h⟩
      have := (ih (U.erase c) _ a' w' hS' (hL.erase hi) hk').1 hr
      rwa [List.length_erase_of_mem hi] at this
    refine ⟨fun hok => ?_, key⟩
    have hok2 := hok
    simp only [okN, Bool.and_eq_true, Bool.not_true, Bool.false_or] at hok
    refine node_ok (C := [i]) hsel hok.1.2 hS hL (key ?_)
    simp only [okN, Bool.and_eq_true, Bool.not_false, Bool.true_or, and_true]
    exact ⟨hok.1.1, hok.2⟩
  | br i p q ihp ihq =>
    intro U listed a w hS hL h
    obtain ⟨⟨o, ho, hp⟩, hq⟩ := h
    have key : okN P st ops U false (.br i p q) = true → ∀ c ∈ Plan.cands (.br i p q), ∃ oc, ops[c]? = some oc ∧ opI P ops S st Q oc (wpAnyI P ops S st Q (U.length - 1) (listed.setIfInBounds c true)) a w := fun hok c hc => by
      simp only [okN, Bool.and_eq_true, List.contains_iff_mem] at hok
      obtain ⟨⟨⟨hi, _⟩, hkp⟩, hkq⟩ := hok
      simp only [Plan.cands, List.mem_cons] at hc
      rcases hc with rfl | hc
      · refine ⟨o, ho, opI_mono hS (fun a' w' hS' hk' => ?_) hp⟩
        have := (ihp (U.erase c) _ a' w' hS' (hL.erase hi) hk').1 hkp
        rwa [List.length_erase_of_mem hi] at this
      · exact (ihq U listed a w hS hL hq).2 hkq c hc
    refine ⟨fun hok => ?_, key⟩
    simp only [okN, Bool.and_eq_true, Bool.not_true, Bool.false_or] at hok
    refine node_ok (C := i :: q.cands) hsel hok.1.1.2 hS hL (key ?_)
    simp only [okN, Bool.and_eq_true, Bool.not_false, Bool.true_or, and_true]
    exact ⟨⟨hok.1.1.1, hok.1.2⟩, hok.2⟩

/-! ### with the operations in it -/
inductive PlanO where
  | done
  | one (o : Oper) (r : PlanO)
  | br (o : Oper) (p q : PlanO)
def planAt : List Oper → Nat → Oper
  | o :: _, 0 => o
  | _ :: l, n + 1 => planAt l n
  | [], _ => { dst := none, op := .move (.tmp 0), type := 0, pos := "", after := #[], guard := none }
def Plan.withOps (l : List Oper) : Plan → PlanO
  | .done => .done
  | .one i r => .one (planAt l i) (r.withOps l)
  | .br i p q => .br (planAt l i) (p.withOps l) (q.withOps l)
def wpO (P : Program) (ops : Array Oper) (S : World → Prop) (st : Op → Bool) (Q : Exit → Act → World → Prop) : PlanO → Act → World → Prop
  | .done => fun a w => Q .normal a w
  | .one o r => opI P ops S st Q o (wpO P ops S st Q r)
  | .br o p q => fun a w => opI P ops S st Q o (wpO P ops S st Q p) a w ∧ wpO P ops S st Q q a w
theorem planAt_get : ∀ {l : List Oper} {i : Nat}, i < l.length → l[i]? = some (planAt l i)
  | _ :: _, 0, _ => rfl
  | _ :: l, i + 1, h => by simpa [planAt] using planAt_get (l := l) (i := i) (by simpa using h)
theorem wpP_of_O {l : List Oper} : ∀ (p : Plan) (U : List Nat) (top : Bool) (a : Act) (w : World), S w → (∀ j ∈ U, j < l.length) → okN P st l.toArray U top p = true → wpO P l.toArray S st Q (p.withOps l) a w → wpP P l.toArray S st Q p a w := by
  intro p
  induction p with
  | done => intro U top a w _ _ _ h; exact h
  | one i r ih =>
    intro U top a w hS hU hok h
    simp only [okN, Bool.and_eq_true, List.contains_iff_mem] at hok
    refine ⟨planAt l i, by simpa using planAt_get (hU i hok.1.1), ?_⟩
    exact opI_mono hS (fun a' w' hS' hk => ih (U.erase i) true a' w' hS' (fun j hj => hU j (List.mem_of_mem_erase hj)) hok.2 hk) h
  | br i p q ihp ihq =>
    intro U top a w hS hU hok h
    simp only [okN, Bool.and_eq_true, List.contains_iff_mem] at hok
    obtain ⟨h1, h2⟩ := h
    refine ⟨⟨planAt l i, by simpa using planAt_get (hU i hok.1.1.1), ?_⟩, ihq U false a w hS hU hok.2 h2⟩
    exact opI_mono hS (fun a' w' hS' hk => ihp (U.erase i) true a' w' hS' (fun j hj => hU j (List.mem_of_mem_erase hj)) hok.1.2 hk) h1

/-- **A REGION THAT DRAWS ITS ORDER, BY A PLAN.** -/
theorem wp_region_plan (S : World → Prop) (st : Op → Bool) (p : Plan) {id : Nat} {a : Act} {w : World} {l : List Oper} (hm : P.follows .mixedOrders = true) (hB : (Region.noSelect l.toArray && okN P st l.toArray (List.range l.length) true p) = true) (hS : S w.drew)
    (h : wpO P l.toArray S st Q (p.withOps l) a w.drew) : (Code.region id l.toArray true).wp P Q a w := by
  simp only [Bool.and_eq_true] at hB
  obtain ⟨hsel, hok⟩ := hB
  refine wp_region_any hm (wpAny_of_I (S := S) (st := st) _ _ _ _ hS ?_)
  have hP := wpP_of_O p (List.range l.length) true a w.drew hS (fun j hj => List.mem_range.1 hj) hok h
  have := (plan_sound (Region.noSelect_spec hsel) p (List.range l.length) (Array.replicate l.toArray.size false) a w.drew hS ⟨by simp, fun j hj => by
    have hj' : j < l.length := by simpa using hj
    simp [hj'], List.nodup_range, fun j hj => by simpa using hj⟩ hP).1 hok
  simpa using this

/-! ### its steps -/
theorem wpO_one {o : Oper} {r : PlanO} {a : Act} {w : World} (hS : S w) (h : wpI P ops S st (fun _ a w => S w ∧ wpO P ops S st Q r a w) [o] a w) : wpO P ops S st Q (.one o r) a w := opI_one h hS
theorem wpO_br {o : Oper} {p q : PlanO} {a : Act} {w : World} (hS : S w) (h : wpI P ops S st (fun _ a w => S w ∧ wpO P ops S st Q p a w) [o] a w) (h2 : wpO P ops S st Q q a w) : wpO P ops S st Q (.br o p q) a w := ⟨opI_one h hS, h2⟩
theorem wpO_done {a : Act} {w : World} (h : Q .normal a w) : wpO P ops S st Q .done a w := h
/-- a plan, found -/
def findC (P : Program) (st : Op → Bool) (ops : Array Oper) (U : List Nat) : Nat → List Nat → List Nat
  | 0, C => C
  | f + 1, C =>
    let D := depsC ops C U
    let bad := U.filter fun j => !(C.contains j || D.contains j || C.all fun c => (match ops[c]?, ops[j]? with | some oi, some oj => oi.apart ops oj && compat (kindS P st oi.op) (kindS P st oj.op) && (quietK (kindS P st oj.op) || C.length == 1) | _, _ => false))
    match bad.filter fun j => mayB ops j (U.erase j) with
    | j :: _ => findC P st ops U f (C ++ [j])
    | [] => match bad with
      | [] => C
      | _ => match U.filter fun j => !C.contains j && mayB ops j (U.erase j) with
        | j :: _ => findC P st ops U f (C ++ [j])
        | [] => C
def autoP (P : Program) (st : Op → Bool) (ops : Array Oper) : Nat → List Nat → Plan
  | 0, _ => .done
  | f + 1, U =>
    match U.filter fun j => mayB ops j (U.erase j) with
    | [] => .done
    | i :: _ =>
      let C := findC P st ops U U.length [i]
      match C.reverse with
      | [] => .done
      | c :: cs => cs.foldl (fun q j => .br j (autoP P st ops f (U.erase j)) q) (.one c (autoP P st ops f (U.erase c)))
end
end Go.Ord
