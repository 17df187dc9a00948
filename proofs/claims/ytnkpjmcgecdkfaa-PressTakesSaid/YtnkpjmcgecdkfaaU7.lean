/- Of several texts of this claim, one behind the other: OF Kd Zy. -/
import Derived.Test.YtnkpjmcgecdkfaaU6

/- A region that draws its order and makes one variable anywhere in it ('alloc', next to calls): one walk in the order of the text, but that at each marked operation the variable is made now, or later. -/
namespace Go.Ord
open Go.RowKit

section
variable {P : Program} {ops : Array Oper} {Q : Exit → Act → World → Prop} {S : World → Prop} {st : Op → Bool}

/-! ### any order of the rest that the checks let -/
def waitsB (ops : Array Oper) (j i : Nat) (acc : List Nat) : Bool := ((ops[j]?).map fun o => o.after.toList.any fun e => Region.binds .any e && (e.on == i || acc.contains e.on)).getD false
def depsIn (ops : Array Oper) (i : Nat) (U : List Nat) : List Nat := U.foldl (fun acc j => if waitsB ops j i acc then acc ++ [j] else acc) []
/-- those of U behind i: each waits for i or for one of them; the others are apart -/
def freeB (P : Program) (st : Op → Bool) (ops : Array Oper) (i : Nat) (U : List Nat) (x : Option Nat) : Bool :=
  let D := depsIn ops i U
  (D.all fun j => U.contains j && waitsB ops j i D) &&
  (U.all fun j => D.contains j || x == some j || (match ops[i]?, ops[j]? with | some oi, some oj => oi.apart ops oj && compat (kindS P st oi.op) (kindS P st oj.op) | _, _ => false)) &&
  (!lastB ops || i + 1 == ops.size || D.contains (ops.size - 1))
/-- i may come, where U and i are what is left -/
def mayB (ops : Array Oper) (i : Nat) (U : List Nat) : Bool :=
  match ops[i]? with
  | some oi => oi.after.toList.all fun e => !Region.binds .any e || (decide (e.on < ops.size) && !(e.on == i) && !(U.contains e.on))
  | none => false

structure Left (ops : Array Oper) (listed : Array Bool) (U : List Nat) : Prop where
  size : listed.size = ops.size
  at' : ∀ j, j < ops.size → listed[j]? = some (decide (j ∉ U))
  nodup : U.Nodup
  lt : ∀ j ∈ U, j < ops.size
theorem Left.get {listed : Array Bool} {U : List Nat} (h : Left ops listed U) {j : Nat} (d : Bool) (hj : j < ops.size) : listed.getD j d = decide (j ∉ U) := by
  simp [Array.getD_eq_getD_getElem?, h.at' j hj]
theorem Left.perm {listed : Array Bool} {U V : List Nat} (h : Left ops listed U) (hp : U.Perm V) : Left ops listed V :=
  ⟨h.size, fun j hj => by rw [h.at' j hj]; congr 1; exact decide_eq_decide.2 (not_congr hp.mem_iff), hp.nodup_iff.1 h.nodup, fun j hj => h.lt j (hp.mem_iff.2 hj)⟩
theorem Left.done {listed : Array Bool} {i : Nat} {U : List Nat} (h : Left ops listed (i :: U)) : Left ops (listed.setIfInBounds i true) U := by
  have hi : i < ops.size := h.lt i List.mem_cons_self
  refine ⟨by simpa using h.size, fun j hj => ?_, (List.nodup_cons.1 h.nodup).2, fun j hj => h.lt j (List.mem_cons_of_mem _ hj)⟩
  rw [Array.getElem?_setIfInBounds]
  by_cases hij : i = j
  · subst hij
    rw [if_pos rfl, if_pos (by rw [h.size]; exact hi)]
    have := (List.nodup_cons.1 h.nodup).1
    simp [this]
  · rw [if_neg hij, h.at' j hj]
    congr 1
    apply decide_eq_decide.2
    simp [List.mem_cons, Ne.symm hij]
theorem Left.ready {listed : Array Bool} {i : Nat} {U : List Nat} (h : Left ops listed (i :: U)) (hm : mayB ops i U = true) : i ∈ Region.ready .any ops listed := by
  have hi : i < ops.size := h.lt i List.mem_cons_self
  unfold mayB at hm
  have ho : ops[i]? = some ops[i] := Array.getElem?_eq_getElem hi
  rw [ho] at hm
  rw [mem_ready]
  refine ⟨by rw [h.get true hi]; simp, ops[i], ho, fun e hem hb => ?_⟩
  have := List.all_eq_true.1 hm e (by simpa using hem)
  simp only [hb, Bool.not_true, Bool.false_or, Bool.and_eq_true, decide_eq_true_eq, Bool.not_eq_true', beq_eq_false_iff_ne, ne_eq, List.contains_eq_mem] at this
  obtain ⟨⟨h1, h2⟩, h3⟩ := this
  rw [h.get false h1]
  have h4 : e.on ∉ U := by simpa using h3
  simp [List.mem_cons, h2, h4]
theorem Left.mem {listed : Array Bool} {U : List Nat} (h : Left ops listed U) {j : Nat} (hj : j ∈ Region.ready .any ops listed) : j ∈ U := by
  obtain ⟨h0, o, ho, _⟩ := mem_ready.1 hj
  have hlt : j < ops.size := (Array.getElem?_eq_some_iff.1 ho).1
  rw [h.get true hlt] at h0
  simpa using h0
theorem freeB_D {i : Nat} {U : List Nat} {x : Option Nat} (hf : freeB P st ops i U x = true) :
    (∀ j ∈ depsIn ops i U, ∀ oj, ops[j]? = some oj → ∃ e ∈ oj.after, Region.binds .any e = true ∧ (e.on = i ∨ e.on ∈ depsIn ops i U)) ∧ (∀ j ∈ depsIn ops i U, j ∈ U) ∧ (lastB ops = true → ∀ j, j + 1 = ops.size → j ≠ i → j ∈ depsIn ops i U) ∧
    ∀ j ∈ U, j ∉ depsIn ops i U → x ≠ some j → ∀ oi oj, ops[i]? = some oi → ops[j]? = some oj → oi.apart ops oj = true ∧ compat (kindS P st oi.op) (kindS P st oj.op) = true := by
  unfold freeB at hf
  simp only [Bool.and_eq_true] at hf
  obtain ⟨⟨h1, h2⟩, h3⟩ := hf
  refine ⟨fun j hj oj hoj => ?_, fun j hj => ?_, fun hl j hjs hji => ?_, fun j hj hjD hx oi oj hoi hoj => ?_⟩
  · have := List.all_eq_true.1 h1 j hj
    simp only [Bool.and_eq_true, waitsB, hoj, Option.map_some, Option.getD_some, List.any_eq_true, Bool.or_eq_true, beq_iff_eq, List.contains_iff_mem] at this
    obtain ⟨_, e, he1, he2, he3⟩ := this
    exact ⟨e, by simpa using he1, he2, he3⟩
  · have := List.all_eq_true.1 h1 j hj
    simp only [Bool.and_eq_true, List.contains_iff_mem] at this
    exact this.1
  · simp only [hl, Bool.not_true, Bool.false_or, Bool.or_eq_true, beq_iff_eq, List.contains_iff_mem] at h3
    rcases h3 with h | h
    · omega
    · rwa [show j = ops.size - 1 by omega]
  · have := List.all_eq_true.1 h2 j hj
    simp only [Bool.or_eq_true, List.contains_iff_mem, beq_iff_eq, hoi, hoj, Bool.and_eq_true] at this
    rcases this with (h | h) | h
    · exact absurd h hjD
    · exact absurd h hx
    · exact h

def okL (P : Program) (st : Op → Bool) (ops : Array Oper) : List Nat → Bool
  | [] => true
  | i :: r => mayB ops i r && freeB P st ops i r none && (!(r.isEmpty) || !lastB ops || i + 1 == ops.size) && okL P st ops r

theorem any_plan (hsel : ∀ (j : Nat) (o : Oper) cs b, ops[j]? = some o → o.op ≠ .select cs b) : ∀ (L : List Nat) (l : List Oper) (listed : Array Bool) (a : Act) (w : World), okL P st ops L = true → S w → L.map (fun i => ops[i]?) = l.map some → Left ops listed L →
    wpI P ops S st Q l a w → wpAnyI P ops S st Q L.length listed a w
  | [], l, listed, a, w, _, _, hl, hL, h => by
    have : l = [] := by cases l with | nil => rfl | cons _ _ => simp at hl
    subst this
    refine ⟨?_, h⟩
    rw [List.eq_nil_iff_forall_not_mem]
    intro j hj
    have := hL.mem hj
    cases this
  | i :: r, l, listed, a, w, hok, hS, hl, hL, h => by
    obtain ⟨o, l', rfl⟩ : ∃ o l', l = o :: l' := by cases l with | nil => simp at hl | cons o l' => exact ⟨o, l', rfl⟩
    simp only [List.map_cons, List.cons.injEq] at hl
    obtain ⟨h0, hl⟩ := hl
    unfold okL at hok
    simp only [Bool.and_eq_true] at hok
    obtain ⟨⟨⟨hm, hf⟩, hlast⟩, hr⟩ := hok
    have hready := hL.ready hm
    rcases h with h | ⟨hnil, hlb, _, h⟩
    case inr =>
      have hrn : r = [] := by cases r with | nil => rfl | cons _ _ => rw [hnil] at hl; simp at hl
      subst hrn
      simp only [List.isEmpty_nil, Bool.not_true, Bool.false_or, hlb, beq_iff_eq] at hlast
      refine ⟨fun hr => (by rw [hr] at hready; cases hready), fun j hj => ?_⟩
      have := hL.mem hj
      simp only [List.mem_singleton] at this
      subst this
      refine ⟨o, h0, .inr ⟨hlast, hlb, ?_, h⟩⟩
      rw [List.eq_nil_iff_forall_not_mem]
      intro k hk
      have := hL.done.mem hk
      cases this
    obtain ⟨d1, d2, d3, d4⟩ := freeB_D hf
    refine any_first h0 hsel (depsIn ops i r) d1 d3 r.length listed a w hS ?_ ?_ hready ?_
    · intro j oj hoj hji hun hjD
      have hjlt : j < ops.size := (Array.getElem?_eq_some_iff.1 hoj).1
      rw [hL.get true hjlt] at hun
      have hjU : j ∈ i :: r := Decidable.not_not.1 (of_decide_eq_false hun)
      rcases List.mem_cons.1 hjU with e | hjr
      · exact absurd e hji
      · exact d4 j hjr hjD (by simp) o oj h0 hoj
    · intro j hj
      have hjr := d2 j hj
      rw [hL.get false (hL.lt j (List.mem_cons_of_mem _ hjr))]
      simp [hjr]
    · exact opI_mono hS (fun a' w' hS' hk' => any_plan hsel r l' _ a' w' hr hS' hl hL.done hk') h

/-- two that may come first, everything else apart from both -/
theorem any_first2 {i z : Nat} {oi oz : Oper} (hi : ops[i]? = some oi) (hz : ops[z]? = some oz) (hsel : ∀ (j : Nat) (o : Oper) cs b, ops[j]? = some o → o.op ≠ .select cs b) (D : List Nat)
    (hD : ∀ j ∈ D, ∀ oj, ops[j]? = some oj → ∃ e ∈ oj.after, Region.binds .any e = true ∧ (e.on = i ∨ e.on = z ∨ e.on ∈ D))
    (hlast : lastB ops = true → ∀ j, j + 1 = ops.size → j ≠ i → j ≠ z → j ∈ D) :
    ∀ (fuel : Nat) (listed : Array Bool) (a : Act) (w : World), S w →
      (∀ j oj, ops[j]? = some oj → j ≠ i → j ≠ z → listed.getD j true = false → j ∉ D → (oi.apart ops oj = true ∧ compat (kindS P st oi.op) (kindS P st oj.op) = true) ∧ (oz.apart ops oj = true ∧ compat (kindS P st oz.op) (kindS P st oj.op) = true) ∧ quietK (kindS P st oj.op) = true) →
      (∀ j ∈ D, listed.getD j false = false) →
      i ∈ Region.ready .any ops listed → z ∈ Region.ready .any ops listed →
      opI P ops S st Q oi (wpAnyI P ops S st Q fuel (listed.setIfInBounds i true)) a w → opI P ops S st Q oz (wpAnyI P ops S st Q fuel (listed.setIfInBounds z true)) a w → wpAnyI P ops S st Q (fuel + 1) listed a w := by
  intro fuel
  induction fuel with
  | zero =>
    intro listed a w hS _ _ hr hrz H Hz
    refine ⟨fun h => (by rw [h] at hr; cases hr), fun j hj => ?_⟩
    by_cases hji : j = i
    · subst hji; exact ⟨oi, hi, .inl H⟩
    · have h0 := ready_mono hj hji
      obtain ⟨_, _, _, _, hK⟩ := opI_some hS H
      rw [hK.1] at h0
      cases h0
  | succ fuel ih =>
    intro listed a w hS hfree hDl hr hrz H Hz
    refine ⟨fun h => (by rw [h] at hr; cases hr), fun j hj => ?_⟩
    by_cases hji : j = i
    · subst hji; exact ⟨oi, hi, .inl H⟩
    by_cases hjz : j = z
    · subst hjz; exact ⟨oz, hz, .inl Hz⟩
    obtain ⟨hjun, oj, hoj, hall⟩ := mem_ready.1 hj
    have hun : ∀ {k}, k ∈ Region.ready .any ops listed → listed.getD k false = true → False := fun {k} hk h1 => by
      have h0 := (mem_ready.1 hk).1
      rcases Nat.lt_or_ge k listed.size with h' | h'
      · simp [h'] at h0 h1; rw [h0] at h1; cases h1
      · simp [Array.getElem?_eq_none h'] at h1
    have hjD : j ∉ D := fun hm => by
      obtain ⟨e, he, hb, h⟩ := hD j hm oj hoj
      have h1 := hall e he hb
      rcases h with h | h | h
      · rw [h] at h1; exact hun hr h1
      · rw [h] at h1; exact hun hrz h1
      · rw [hDl _ h] at h1; cases h1
    obtain ⟨⟨hap, hco⟩, ⟨hapz, hcoz⟩, hq⟩ := hfree j oj hoj hji hjz hjun hjD
    have step : ∀ {k : Nat} {ok : Oper}, ops[k]? = some ok → j ≠ k → ok.apart ops oj = true → compat (kindS P st ok.op) (kindS P st oj.op) = true → opI P ops S st Q ok (wpAnyI P ops S st Q (fuel + 1) (listed.setIfInBounds k true)) a w →
        opI P ops S st Q oj (opI P ops S st Q ok (wpAnyI P ops S st Q fuel ((listed.setIfInBounds j true).setIfInBounds k true))) a w := by
      intro k ok hk hjk hap hco Hk
      have hstep : opI P ops S st Q ok (opI P ops S st Q oj (wpAnyI P ops S st Q fuel ((listed.setIfInBounds k true).setIfInBounds j true))) a w := by
        refine opI_mono hS (fun a' w' _ hk' => ?_) Hk
        obtain ⟨oj', hoj', h⟩ := hk'.2 j (ready_mono hj hjk)
        rw [hoj] at hoj'
        obtain rfl := Option.some.inj hoj'
        rcases h with h | ⟨hjs, hlb, _, _⟩
        · exact h
        · exact (hjD (hlast hlb j hjs hji hjz)).elim
      have := swap hap (fun cs b => hsel k ok cs b hk) (fun cs b => hsel j oj cs b hoj) hco hS hstep
      rwa [Array.setIfInBounds_comm _ _ (Ne.symm hjk)] at this
    obtain ⟨v, hg, k1⟩ := gives_of (quietK_spec hq) (step hi hji hap hco H)
    obtain ⟨v', hg', k2⟩ := gives_of (quietK_spec hq) (step hz hjz hapz hcoz Hz)
    obtain rfl := hg.unique hS hg'
    refine ⟨oj, hoj, .inl (hg.opI hS ?_)⟩
    refine ih (listed.setIfInBounds j true) _ w hS ?_ ?_ (ready_mono hr (Ne.symm hji)) (ready_mono hrz (Ne.symm hjz)) k1 k2
    · intro k ok hk' hki hkz hun' hkD
      refine hfree k ok hk' hki hkz ?_ hkD
      by_cases hjk : j = k
      · subst hjk; exact hjun
      · rw [getD_set_ne true hjk] at hun'; exact hun'
    · intro k hk'
      have hjk : j ≠ k := fun h => hjD (h ▸ hk')
      rw [getD_set_ne false hjk]; exact hDl k hk'

/-! ### the walk with one that may come early -/
inductive Fl where
  | n | b | m | z
/-- 'n': ahead of it the variable is not made; 'b': it is made now, or later; 'm': it is made now -/
def wpF (P : Program) (ops : Array Oper) (S : World → Prop) (st : Op → Bool) (Q : Exit → Act → World → Prop) (oz : Oper) : List (Fl × Oper) → Act → World → Prop
  | [], a, w => wpI P ops S st Q [oz] a w
  | (.n, o) :: r, a, w => opI P ops S st Q o (wpF P ops S st Q oz r) a w
  | (.b, o) :: r, a, w => opI P ops S st Q oz (wpI P ops S st Q (o :: r.map Prod.snd)) a w ∧ opI P ops S st Q o (wpF P ops S st Q oz r) a w
  | (_, o) :: r, a, w => opI P ops S st Q oz (wpI P ops S st Q (o :: r.map Prod.snd)) a w

def okF (P : Program) (st : Op → Bool) (ops : Array Oper) (z : Nat) : List (Fl × Nat) → Bool
  | [] => okL P st ops [z]
  | (f, i) :: r =>
    let R := r.map Prod.snd
    match f with
    | .n => mayB ops i (z :: R) && freeB P st ops i (z :: R) none && okF P st ops z r
    | .b => mayB ops i (z :: R) && mayB ops z (i :: R) && okL P st ops (i :: R) && okF P st ops z r &&
        (let D := depsIn ops i R ++ depsIn ops z R
         (D.all fun j => R.contains j) && ((depsIn ops i R).all fun j => waitsB ops j i (depsIn ops i R)) && ((depsIn ops z R).all fun j => waitsB ops j z (depsIn ops z R)) &&
         (!lastB ops || i + 1 == ops.size || z + 1 == ops.size || D.contains (ops.size - 1)) &&
         R.all fun j => D.contains j || match ops[i]?, ops[z]?, ops[j]? with
           | some oi, some oz, some oj => oi.apart ops oj && compat (kindS P st oi.op) (kindS P st oj.op) && oz.apart ops oj && compat (kindS P st oz.op) (kindS P st oj.op) && quietK (kindS P st oj.op)
           | _, _, _ => false)
    | _ => okL P st ops (z :: i :: R)

theorem float_lex (hsel : ∀ (j : Nat) (o : Oper) cs b, ops[j]? = some o → o.op ≠ .select cs b) {z : Nat} {oz : Oper} (hz : ops[z]? = some oz) : ∀ (F : List (Fl × Nat)) (fl : List (Fl × Oper)) (listed : Array Bool) (a : Act) (w : World), okF P st ops z F = true → S w →
    F.map (fun x => (x.1, ops[x.2]?)) = fl.map (fun x => (x.1, some x.2)) → Left ops listed (z :: F.map Prod.snd) → wpF P ops S st Q oz fl a w → wpAnyI P ops S st Q (F.length + 1) listed a w
  | [], fl, listed, a, w, hok, hS, hl, hL, h => by
    have : fl = [] := by cases fl with | nil => rfl | cons _ _ => simp at hl
    subst this
    exact any_plan hsel [z] [oz] listed a w hok hS (by simp [hz]) hL h
  | (f, i) :: r, fl, listed, a, w, hok, hS, hl, hL, h => by
    obtain ⟨⟨f', o⟩, fl', rfl⟩ : ∃ o l', fl = o :: l' := by cases fl with | nil => simp at hl | cons o l' => exact ⟨o, l', rfl⟩
    simp only [List.map_cons, List.cons.injEq, Prod.mk.injEq] at hl
    obtain ⟨⟨rfl, h0⟩, hl⟩ := hl
    have hlm : (r.map Prod.snd).map (fun i => ops[i]?) = (fl'.map Prod.snd).map some := by
      have := congrArg (List.map Prod.snd) hl
      simpa [List.map_map, Function.comp_def] using this
    have hLp : Left ops listed (i :: z :: r.map Prod.snd) := hL.perm (List.Perm.swap _ _ _)
    have hlen : (z :: i :: r.map Prod.snd).length = ((f, i) :: r).length + 1 := by simp
    have must : okL P st ops (z :: i :: r.map Prod.snd) = true → opI P ops S st Q oz (wpI P ops S st Q (o :: fl'.map Prod.snd)) a w → wpAnyI P ops S st Q (((f, i) :: r).length + 1) listed a w := fun hok h => by
      rw [← hlen]
      exact any_plan hsel (z :: i :: r.map Prod.snd) (oz :: o :: fl'.map Prod.snd) listed a w hok hS (by simp only [List.map_cons, hz, h0, hlm]) hL (.inl h)
    cases f with
    | n =>
      simp only [okF, Bool.and_eq_true] at hok
      obtain ⟨⟨hm, hf⟩, hr⟩ := hok
      have h : opI P ops S st Q o (wpF P ops S st Q oz fl') a w := h
      obtain ⟨d1, d2, d3, d4⟩ := freeB_D hf
      refine any_first h0 hsel (depsIn ops i (z :: r.map Prod.snd)) d1 d3 (r.length + 1) listed a w hS ?_ ?_ (hLp.ready hm) ?_
      · intro j oj hoj hji hun hjD
        have hjlt : j < ops.size := (Array.getElem?_eq_some_iff.1 hoj).1
        rw [hLp.get true hjlt] at hun
        have hjU : j ∈ i :: z :: r.map Prod.snd := Decidable.not_not.1 (of_decide_eq_false hun)
        rcases List.mem_cons.1 hjU with e | hjr
        · exact absurd e hji
        · exact d4 j hjr hjD (by simp) o oj h0 hoj
      · intro j hj
        have hjr := d2 j hj
        rw [hLp.get false (hLp.lt j (List.mem_cons_of_mem _ hjr))]
        have : j ∈ i :: z :: r.map Prod.snd := List.mem_cons_of_mem _ hjr
        simp only [this, not_true_eq_false, decide_false]
      · exact opI_mono hS (fun a' w' hS' hk' => float_lex hsel hz r fl' _ a' w' hr hS' hl hLp.done hk') h
    | b =>
      simp only [okF, Bool.and_eq_true] at hok
      obtain ⟨⟨⟨⟨hm, hmz⟩, hkl⟩, hr⟩, ⟨⟨⟨⟨c1, c2⟩, c3⟩, c4⟩, c5⟩⟩ := hok
      obtain ⟨ha, hb⟩ : opI P ops S st Q oz (wpI P ops S st Q (o :: fl'.map Prod.snd)) a w ∧ opI P ops S st Q o (wpF P ops S st Q oz fl') a w := h
      have hDin : ∀ j ∈ depsIn ops i (r.map Prod.snd) ++ depsIn ops z (r.map Prod.snd), j ∈ r.map Prod.snd := fun j hj => by
        have := List.all_eq_true.1 c1 j hj
        simpa using this
      refine any_first2 h0 hz hsel (depsIn ops i (r.map Prod.snd) ++ depsIn ops z (r.map Prod.snd)) ?_ ?_ (r.length + 1) listed a w hS ?_ ?_ (hLp.ready hm) (hL.ready hmz) ?_ ?_
      · intro j hj oj hoj
        rcases List.mem_append.1 hj with hj | hj
        · have := List.all_eq_true.1 c2 j hj
          simp only [waitsB, hoj, Option.map_some, Option.getD_some, List.any_eq_true, Bool.and_eq_true, Bool.or_eq_true, beq_iff_eq, List.contains_iff_mem] at this
          obtain ⟨e, he1, he2, he3⟩ := this
          exact ⟨e, by simpa using he1, he2, he3.elim .inl fun h => .inr (.inr (List.mem_append_left _ h))⟩
        · have := List.all_eq_true.1 c3 j hj
          simp only [waitsB, hoj, Option.map_some, Option.getD_some, List.any_eq_true, Bool.and_eq_true, Bool.or_eq_true, beq_iff_eq, List.contains_iff_mem] at this
          obtain ⟨e, he1, he2, he3⟩ := this
          exact ⟨e, by simpa using he1, he2, he3.elim (fun h => .inr (.inl h)) fun h => .inr (.inr (List.mem_append_right _ h))⟩
      · intro hlb j hjs hji hjz
        simp only [hlb, Bool.not_true, Bool.false_or, Bool.or_eq_true, beq_iff_eq, List.contains_iff_mem] at c4
        rcases c4 with (h | h) | h
        · omega
        · omega
        · rwa [show j = ops.size - 1 by omega]
      · intro j oj hoj hji hjz hun hjD
        have hjlt : j < ops.size := (Array.getElem?_eq_some_iff.1 hoj).1
        rw [hLp.get true hjlt] at hun
        have hjU : j ∈ i :: z :: r.map Prod.snd := Decidable.not_not.1 (of_decide_eq_false hun)
        have hjr : j ∈ r.map Prod.snd := by
          rcases List.mem_cons.1 hjU with e | hjr
          · exact absurd e hji
          · rcases List.mem_cons.1 hjr with e | hjr
            · exact absurd e hjz
            · exact hjr
        have := List.all_eq_true.1 c5 j hjr
        simp only [Bool.or_eq_true, List.contains_iff_mem, h0, hz, hoj, Bool.and_eq_true] at this
        rcases this with h | h
        · exact absurd h hjD
        · exact ⟨⟨h.1.1.1.1, h.1.1.1.2⟩, ⟨h.1.1.2, h.1.2⟩, h.2⟩
      · intro j hj
        have hjr := hDin j hj
        rw [hLp.get false (hLp.lt j (List.mem_cons_of_mem _ (List.mem_cons_of_mem _ hjr)))]
        have : j ∈ i :: z :: r.map Prod.snd := List.mem_cons_of_mem _ (List.mem_cons_of_mem _ hjr)
        simp only [this, not_true_eq_false, decide_false]
      · exact opI_mono hS (fun a' w' hS' hk' => float_lex hsel hz r fl' _ a' w' hr hS' hl hLp.done hk') hb
      · have hlen2 : (i :: r.map Prod.snd).length = r.length + 1 := by simp
        rw [← hlen2]
        exact opI_mono hS (fun a' w' hS' hk' => any_plan hsel (i :: r.map Prod.snd) (o :: fl'.map Prod.snd) _ a' w' hkl hS' (by simp only [List.map_cons, h0, hlm]) hL.done hk') ha
    | m => exact must hok h
    | z => exact must hok h

/-! ### from the text -/
def zipF : List Fl → List Oper → List (Fl × Oper)
  | .z :: fs, _ :: os => zipF fs os
  | .n :: fs, o :: os => (.n, o) :: zipF fs os
  | .b :: fs, o :: os => (.b, o) :: zipF fs os
  | .m :: fs, o :: os => (.m, o) :: zipF fs os
  | [], _ => []
  | _ :: _, [] => []
def idxF : Nat → List Fl → List (Fl × Nat)
  | k, .z :: fs => idxF (k + 1) fs
  | k, .n :: fs => (.n, k) :: idxF (k + 1) fs
  | k, .b :: fs => (.b, k) :: idxF (k + 1) fs
  | k, .m :: fs => (.m, k) :: idxF (k + 1) fs
  | _, [] => []
def zAt : Nat → List Fl → Nat
  | k, .z :: _ => k
  | k, _ :: fs => zAt (k + 1) fs
  | k, [] => k
def zOf : List Fl → List Oper → Oper
  | .z :: _, o :: _ => o
  | .n :: fs, _ :: os => zOf fs os
  | .b :: fs, _ :: os => zOf fs os
  | .m :: fs, _ :: os => zOf fs os
  | _, _ => { dst := none, op := .move (.tmp 0), type := 0, pos := "", after := #[], guard := none }
def okFl (P : Program) (st : Op → Bool) (ops : Array Oper) (fs : List Fl) : Bool :=
  Region.noSelect ops && okF P st ops (zAt 0 fs) (idxF 0 fs) && decide (zAt 0 fs < ops.size) && decide (fs.length = ops.size) && (decide ((zAt 0 fs :: (idxF 0 fs).map Prod.snd).Nodup)) &&
  ((List.range ops.size).all fun j => (zAt 0 fs :: (idxF 0 fs).map Prod.snd).contains j) && decide ((idxF 0 fs).length + 1 = ops.size) && ((zAt 0 fs :: (idxF 0 fs).map Prod.snd).all fun j => decide (j < ops.size))

theorem idx_zip : ∀ (k : Nat) (fs : List Fl) (os : List Oper) (ops : Array Oper), fs.length = os.length → (∀ j, os[j]? = ops[k + j]?) → (idxF k fs).map (fun x => (x.1, ops[x.2]?)) = (zipF fs os).map (fun x => (x.1, some x.2))
  | _, [], _, _, _, _ => rfl
  | k, f :: fs, [], _, h, _ => by simp at h
  | k, f :: fs, o :: os, ops, h, hl => by
    have ih := idx_zip (k + 1) fs os ops (by simpa using h) (fun j => by have := hl (j + 1); simpa [Nat.add_assoc, Nat.add_comm 1 j] using this)
    have h0 : ops[k]? = some o := by simpa using (hl 0).symm
    cases f with
    | z => exact ih
    | n => simp only [idxF, zipF, List.map_cons, h0, ih]
    | b => simp only [idxF, zipF, List.map_cons, h0, ih]
    | m => simp only [idxF, zipF, List.map_cons, h0, ih]
theorem zAt_zOf : ∀ (k : Nat) (fs : List Fl) (os : List Oper) (ops : Array Oper), fs.length = os.length → (∀ j, os[j]? = ops[k + j]?) → zAt k fs < k + fs.length → ops[zAt k fs]? = some (zOf fs os)
  | k, [], os, ops, _, _, h => by simp [zAt] at h
  | k, f :: fs, [], _, h, _, _ => by simp at h
  | k, f :: fs, o :: os, ops, h, hl, hz => by
    have ih := fun hz => zAt_zOf (k + 1) fs os ops (by simpa using h) (fun j => by have := hl (j + 1); simpa [Nat.add_assoc, Nat.add_comm 1 j] using this) hz
    have h0 : ops[k]? = some o := by simpa using (hl 0).symm
    cases f with
    | z => exact h0
    | n => exact ih (by simp only [zAt, List.length_cons] at hz; omega)
    | b => exact ih (by simp only [zAt, List.length_cons] at hz; omega)
    | m => exact ih (by simp only [zAt, List.length_cons] at hz; omega)

/-- **A REGION THAT DRAWS ITS ORDER, AND MAKES ONE VARIABLE ANYWHERE.** fs: a mark for each operation of the text ('z' marks the one that makes the variable). -/
theorem wp_region_float (S : World → Prop) (st : Op → Bool) (fs : List Fl) {id : Nat} {a : Act} {w : World} {l : List Oper} (hm : P.follows .mixedOrders = true) (hB : okFl P st l.toArray fs = true) (hS : S w.drew)
    (h : wpF P l.toArray S st Q (zOf fs l) (zipF fs l) a w.drew) : (Code.region id l.toArray true).wp P Q a w := by
  unfold okFl at hB
  simp only [Bool.and_eq_true, decide_eq_true_eq] at hB
  obtain ⟨⟨⟨⟨⟨⟨⟨hsel, hok⟩, hzl⟩, hfl⟩, hnd⟩, hall⟩, hlen⟩, hlt⟩ := hB
  have hl0 : ∀ j, l[j]? = l.toArray[0 + j]? := fun j => by simp
  have hfl' : fs.length = l.length := by simpa using hfl
  refine wp_region_any hm (wpAny_of_I (S := S) (st := st) _ _ _ _ hS ?_)
  have := float_lex (Q := Q) (S := S) (Region.noSelect_spec hsel) (zAt_zOf 0 fs l l.toArray hfl' hl0 (by rw [Nat.zero_add, hfl']; simpa using hzl)) (idxF 0 fs) (zipF fs l) (Array.replicate l.toArray.size false) a w.drew hok hS (idx_zip 0 fs l _ hfl' hl0)
    ⟨by simp, fun j hj => by
      have hc := List.all_eq_true.1 hall j (List.mem_range.2 hj)
      have hj' : j < l.length := by simpa using hj
      rw [List.contains_iff_mem] at hc
      simp only [hc, not_true_eq_false, decide_false]
      simp [hj'], hnd, fun j hj => by have := List.all_eq_true.1 hlt j hj; simpa using this⟩ h
  rw [hlen] at this
  simpa using this

/-! ### its steps: a single operation by the laws of 'wpI', what follows behind it -/
theorem upon_Q {Q' : Exit → Act → World → Prop} {o : Oper} {a : Act} {next : Act → World → Prop} {r : Result Next} (h : o.upon P a next (OnlyN Q) r) : o.upon P a next (OnlyN Q') r := by
  cases r with
  | halt e w' =>
    cases e <;> simp only [Oper.upon] at h ⊢
    exact h.elim
  | ok n w' =>
    cases n <;> simp only [Oper.upon] at h ⊢ <;> exact h
theorem opI_Q {Q' : Exit → Act → World → Prop} {o : Oper} {a : Act} {w : World} {K : Act → World → Prop} (h : opI P ops S st Q o K a w) : opI P ops S st Q' o K a w := by
  unfold opI at *
  split
  · rename_i hw
    rw [if_pos hw] at h
    refine ⟨h.1, ?_⟩
    have h2 := h.2
    split
    · rename_i hs
      rw [if_pos hs] at h2
      exact h2
    · rename_i hs
      rw [if_neg hs] at h2
      exact upon_Q h2
  · rename_i hw
    rw [if_neg hw] at h
    exact h
theorem opI_one {o : Oper} {R : Act → World → Prop} {a : Act} {w : World} (h : wpI P ops S st (fun _ a w => S w ∧ R a w) [o] a w) (hS : S w) : opI P ops S st Q o R a w := by
  rcases h with h | ⟨_, _, hs, h⟩
  · exact opI_mono hS (fun a w _ hk => hk.2) (opI_Q h)
  · unfold opI at *
    split
    · rename_i hw
      rw [if_pos hw] at h
      refine ⟨h.1, ?_⟩
      have h2 := h.2
      rw [if_neg (show ¬ noSt o.op = true from Bool.false_ne_true)] at h2
      rw [if_neg (by rw [hs]; exact Bool.false_ne_true)]
      exact upon_state rfl (upon_Q h2) fun D u w' hk => hk.2
    · rename_i hw
      rw [if_neg hw] at h
      exact h.2
theorem wpF_n {oz o : Oper} {r : List (Fl × Oper)} {a : Act} {w : World} (hS : S w) (h : wpI P ops S st (fun _ a w => S w ∧ wpF P ops S st Q oz r a w) [o] a w) : wpF P ops S st Q oz ((.n, o) :: r) a w := opI_one h hS
theorem wpF_b {oz o : Oper} {r : List (Fl × Oper)} {a : Act} {w : World} (hS : S w) (h1 : wpI P ops S st Q (oz :: o :: r.map Prod.snd) a w) (h : wpI P ops S st (fun _ a w => S w ∧ wpF P ops S st Q oz r a w) [o] a w) : wpF P ops S st Q oz ((.b, o) :: r) a w := by
  refine ⟨?_, opI_one h hS⟩
  rcases h1 with h1 | ⟨h1, _⟩
  · exact h1
  · cases h1
theorem wpF_m {oz o : Oper} {r : List (Fl × Oper)} {a : Act} {w : World} (h1 : wpI P ops S st Q (oz :: o :: r.map Prod.snd) a w) : wpF P ops S st Q oz ((.m, o) :: r) a w := by
  rcases h1 with h1 | ⟨h1, _⟩
  · exact h1
  · cases h1
theorem wpI_nilS {R : Act → World → Prop} {a : Act} {w : World} (hS : S w) (h : R a w) : wpI P ops S st (fun _ a w => S w ∧ R a w) [] a w := ⟨hS, h⟩
theorem wpF_act {oz : Oper} {r : List (Fl × Oper)} {a a' : Act} {w : World} (h : a = a') (k : wpF P ops S st Q oz r a' w) : wpF P ops S st Q oz r a w := h ▸ k
end
end Go.Ord

/- Walk: the document's Next. -/
namespace Go.Proofs.Ytnkpjmcgecdkfaa
open Go.RowKit Go.Own Go.Bv Go.Ord Go.Eq Go.Opn Go.Pb

set_option maxHeartbeats 2000000 in
set_option maxRecDepth 100000 in
theorem rnext_bad (x : Int) (n : Nat) (hx : x < 0 ∨ (n : Int) ≤ x) (aP : Option Addr) (cP span code used : Nat) (bS : Value) (w : World) :
    Calls Try.prog 54 #[.agg (rgC (.slice aP n cP) span code used), bS, .int .i64 x] w fun e w' => e = .returned (.tuple #[.bool false, .agg (rgC (.slice aP n cP) span code used), .int .i64 4]) ∧ Below w.heap.size w w' := by
  have hO := Own.start w
  generalize hWW : w = wn at hO ⊢
  clear hWW w
  by_cases h1 : x < 0
  · have i1 : decide (x < 0) = true := decide_eq_true h1
    clear hx h1
    go_enter Try.func54, Try.ntmps54
    go_wp2_with (first
      | ((with_reducible refine gG ?_); refine wpList_want rfl ?_)
      | ((with_reducible refine gBox ?_); first | (refine bxA hO rfl ?_; clear hO; intro rb ww hO) | (refine bx1 hO rfl rfl ?_; clear hO; intro rb ww hO))
      | ((with_reducible refine gAlloc ?_); refine own_alloc hO _ _ irgz ?_; clear hO; intro zb ww hO))
    refine wp_region_text (by kernel_rfl) (by kernel_rfl) ?_
    replace hO := hO.drew
    generalize World.drew _ = wd at hO ⊢
    go_wp2_with (first
      | ((with_reducible refine gLoad ?_); first | refine ldX hO 0 rfl rfl (tA rfl) (tS rfl) ?_ | refine ldC hO 0 rfl rfl (tA rfl) rfl ?_ | refine ldX hO 1 rfl rfl (tA rfl) (tS rfl) ?_ | refine ldC hO 1 rfl rfl (tA rfl) rfl ?_)
      | ((with_reducible refine gStore ?_); first | (refine stX hO 0 rfl rfl rfl rfl rfl (tS rfl) ?_; clear hO; intro ww hO) | (refine stC hO 0 rfl rfl rfl (ltb rfl) rfl (tS rfl) ?_; clear hO; intro ww hO) | (refine stX hO 1 rfl rfl rfl rfl rfl (tS rfl) ?_; clear hO; intro ww hO) | (refine stC hO 1 rfl rfl rfl (ltb rfl) rfl (tS rfl) ?_; clear hO; intro ww hO))
      | ((with_reducible refine gI ?_); refine wpI_step rfl rfl (by kernel_rfl) ?_; intro K hK; have HK := Lib.hid hK; clear hK) | ((with_reducible refine gI ?_); first | refine wpI_skip rfl ?_ | refine wpI_want rfl ?_) | ((with_reducible refine gOnlyK0 HK.out ?_); clear HK K; first | (refine wpI_act (by simp only [Act.put, List.setIfInBounds_toArray, List.set_cons_succ, List.set_cons_zero]; rfl) ?_) | skip) | (with_reducible refine wpI_nil ?_))
    refine bodyPost_ret (res_tct rfl _ _ zb 62 (rgC (.slice aP n cP) span code used) (0,0) _ rfl (hO.blk 0 rfl) Try.underlying62 rfl (irg _ _ _ _)) rfl ⟨rfl, hO.below⟩
  · have i1 : decide (x < 0) = false := decide_eq_false h1
    have i2 : decide ((n : Int) ≤ x) = true := decide_eq_true (by omega)
    clear hx h1
    go_enter Try.func54, Try.ntmps54
    go_wp2_with (first
      | ((with_reducible refine gG ?_); refine wpList_want rfl ?_)
      | ((with_reducible refine gBox ?_); first | (refine bxA hO rfl ?_; clear hO; intro rb ww hO) | (refine bx1 hO rfl rfl ?_; clear hO; intro rb ww hO))
      | ((with_reducible refine gAlloc ?_); refine own_alloc hO _ _ irgz ?_; clear hO; intro zb ww hO)
      | ((with_reducible refine gLoad ?_); first | refine ldX hO 0 rfl rfl (tA rfl) (tS rfl) ?_ | refine ldC hO 0 rfl rfl (tA rfl) rfl ?_ | refine ldX hO 1 rfl rfl (tA rfl) (tS rfl) ?_ | refine ldC hO 1 rfl rfl (tA rfl) rfl ?_))
    refine wp_region_text (by kernel_rfl) (by kernel_rfl) ?_
    replace hO := hO.drew
    generalize World.drew _ = wd at hO ⊢
    go_wp2_with (first
      | ((with_reducible refine gLoad ?_); first | refine ldX hO 0 rfl rfl (tA rfl) (tS rfl) ?_ | refine ldC hO 0 rfl rfl (tA rfl) rfl ?_ | refine ldX hO 1 rfl rfl (tA rfl) (tS rfl) ?_ | refine ldC hO 1 rfl rfl (tA rfl) rfl ?_)
      | ((with_reducible refine gStore ?_); first | (refine stX hO 0 rfl rfl rfl rfl rfl (tS rfl) ?_; clear hO; intro ww hO) | (refine stC hO 0 rfl rfl rfl (ltb rfl) rfl (tS rfl) ?_; clear hO; intro ww hO) | (refine stX hO 1 rfl rfl rfl rfl rfl (tS rfl) ?_; clear hO; intro ww hO) | (refine stC hO 1 rfl rfl rfl (ltb rfl) rfl (tS rfl) ?_; clear hO; intro ww hO))
      | ((with_reducible refine gI ?_); refine wpI_step rfl rfl (by kernel_rfl) ?_; intro K hK; have HK := Lib.hid hK; clear hK) | ((with_reducible refine gI ?_); first | refine wpI_skip rfl ?_ | refine wpI_want rfl ?_) | ((with_reducible refine gOnlyK0 HK.out ?_); clear HK K; first | (refine wpI_act (by simp only [Act.put, List.setIfInBounds_toArray, List.set_cons_succ, List.set_cons_zero]; rfl) ?_) | skip) | (with_reducible refine wpI_nil ?_))
    refine bodyPost_ret (res_tct rfl _ _ zb 62 (rgC (.slice aP n cP) span code used) (0,0) _ rfl (hO.blk 0 rfl) Try.underlying62 rfl (irg _ _ _ _)) rfl ⟨rfl, hO.below⟩

set_option maxHeartbeats 8000000 in
set_option maxRecDepth 100000 in
theorem rnext_ok (n : Nat) (hn : n ≤ 1024) (r : Go.Kc.Rr) (b : List (BitVec 8)) (hr : Go.Kc.Rok n b r) (aP : Option Addr) (cP : Nat) (aB : Option Addr) (m cB : Nat) (w : World) (hP : Rd w 1 aP n cP (i64s r.p)) (hBR : Rd w 1 aB m cB (u8s b)) (hm : m ≤ 10000000) (a : Nat) (ha : a < n) (hmay : r.may b a) (t : Go.Kc.Rr) (ht : r.next b a = t) :
    Calls Try.prog 54 #[.agg (rgC (.slice aP n cP) r.span r.code r.used), .slice aB m cB, .int .i64 (a : Int)] w fun e w' => ∃ a' c', e = .returned (.tuple #[.bool (r.set a), .agg (rgC (.slice a' n c') t.span t.code t.used), .int .i64 0]) ∧ Below w.heap.size w w' ∧ w'.ownsRow w.heap.size 3 1 (.slice a' n c') n (i64s t.p) := by
  have hb : b.length = m := by have := hBR.len; rw [u8s_length] at this; omega
  obtain ⟨q1, q2⟩ := Go.Kc.rok_part hr ha
  obtain ⟨q3, q4, q5, q6, q7⟩ := Go.Kc.rok_mid hr ha
  obtain ⟨k1, k2, k3, k4, k5, k6⟩ := hr
  have hmv := Go.Kc.all_get k2 (by rw [k1]; exact ha)
  rw [kc_may] at hmv
  obtain ⟨pv, hpv⟩ : ∃ pv, r.p.getD a 0 = pv := ⟨_, rfl⟩
  obtain ⟨P, hPP⟩ : ∃ P, r.part a = P := ⟨_, rfl⟩
  rw [hpv] at hmv
  rw [hPP] at q1 q2
  have hg : (i64s r.p)[a]? = some (.int .i64 pv) := by
    rw [i64s_get r.p a (by omega), ← hpv, List.getD_eq_getElem?_getD, List.getElem?_eq_getElem (by omega)]; rfl
  have hset : (i64s r.p).set a (.int .i64 (learnI pv (r.set a))) = i64s (r.mid a).p := by
    unfold Go.Kc.Rr.mid i64s
    dsimp only
    rw [List.map_set, hpv]; rfl
  have hsp : ∀ w, Calls Try.prog 47 #[.int .u32 (r.span : Int), .int .i64 pv] w fun e w' => e = .returned (.tuple #[.int .u32 (P : Int), .int .i64 0]) ∧ w = w' := fun w => by
    have h := rsplit_calls (r.span : Int) pv w (by omega) (by omega)
    have e : splitOk (r.span : Int) pv = true := by unfold splitOk; rw [hmv, decide_eq_true (by omega)]; rfl
    have e2 : splitI (r.span : Int) pv = (P : Int) := by
      have hp0 := ((mayB_iff pv).1 hmv).1
      rw [← hPP]
      unfold splitI Go.Kc.Rr.part
      rw [hpv, Int.natCast_mul, Int.natCast_ediv, Int.toNat_of_nonneg (by omega)]; rfl
    rw [e, if_pos rfl, if_pos rfl, e2] at h
    exact h
  have hln : ∀ bt w, Calls Try.prog 49 #[.int .i64 pv, .bool bt] w fun e w' => e = .returned (.tuple #[.int .i64 (learnI pv bt), .int .i64 0]) ∧ w = w' := fun bt w => by
    have h := rLearn_calls pv bt w
    rw [hmv, if_pos rfl, if_pos rfl] at h
    exact h
  have hbit : r.set a = decide (P ≤ r.code) := by rw [← hPP]; rfl
  have hm1 : (r.mid a).code = if r.set a then r.code - P else r.code := by rw [← hPP]; rfl
  have hm2 : (r.mid a).span = if r.set a then r.span - P else P := by rw [← hPP]; rfl
  have hm3 : (r.mid a).used = r.used := rfl
  have hnx : (r.mid a).norm b = t := ht
  have hmy : (r.mid a).span < 16777216 → r.used < b.length := hmay
  obtain ⟨u, hu⟩ : ∃ u, r.mid a = u := ⟨_, rfl⟩
  rw [hu] at hset hm1 hm2 hm3 q3 q4 q5 hnx hmy
  obtain ⟨used, hus⟩ : ∃ x, r.used = x := ⟨_, rfl⟩
  obtain ⟨span, hsp2⟩ : ∃ x, r.span = x := ⟨_, rfl⟩
  obtain ⟨code, hco⟩ : ∃ x, r.code = x := ⟨_, rfl⟩
  obtain ⟨C1, hC1⟩ : ∃ x, u.code = x := ⟨_, rfl⟩
  obtain ⟨Z, hZ⟩ : ∃ x, u.span = x := ⟨_, rfl⟩
  rw [hus] at hm3 k6 hmy ⊢
  rw [hsp2] at hsp hm2 q2 k3 k4 ⊢
  rw [hco] at hbit hm1 ⊢
  rw [hZ] at hm2 q3 q4 q5
  rw [hC1] at hm1 q3
  rw [hb] at k6
  rw [hbit] at hm1 hm2 hset
  have HSP := Lib.hid hsp
  have HG := Lib.hid hg
  have HM := Lib.hid hm
  have HU3 : Hid (u.used = used) := hm3
  have HC1 := Lib.hid hC1
  have HZZ := Lib.hid hZ
  have HR := Lib.hid hP
  have HBR := Lib.hid hBR
  have HBL := Lib.hid hb
  have HK1 := Lib.hid k1
  have hmax := Nat.le_trans hP.le hP.max
  unfold maxLen at hmax
  have HBD : Hid (253952 ≤ P ∧ P + 253952 ≤ span ∧ span < 4294967296 ∧ C1 < Z ∧ 253952 ≤ Z ∧ Z < 4294967296) := ⟨q1, q2, k4, q3, q4, q5⟩
  have i2 : decide ((a : Int) < 0) = false := decide_eq_false (by omega)
  have i3 : decide ((n : Int) ≤ (a : Int)) = false := decide_eq_false (by omega)
  have i4 : decide (n ≤ a) = false := decide_eq_false (by omega)
  have hPT : t.p = u.p := by rw [← hnx]; unfold Go.Kc.Rr.norm; split <;> rfl
  have HPT := Lib.hid hPT
  rw [hZ] at hmy
  have hyes : Z < 16777216 → used < m ∧ ∃ Y CN, Z * 256 = Y ∧ C1 * 256 + (b.getD used 0).toNat = CN ∧ (u8s b)[used]? = some (.int .u8 ((b.getD used 0).toNat : Int)) ∧ (b.getD used 0).toNat < 256 ∧ 16777216 ≤ Y ∧ CN < 4294967296 ∧ (Y = t.span ∧ CN = t.code ∧ used + 1 = t.used) := fun hz => by
    have hl := hmy hz
    have hxl := (b.getD used 0).isLt
    refine ⟨by omega, _, _, rfl, rfl, ?_, hxl, by omega, by omega, ?_⟩
    · rw [u8s_get b used hl]; simp [hl]
    · rw [← hnx]; unfold Go.Kc.Rr.norm; rw [if_pos (by rw [hZ]; exact hz)]; dsimp only; rw [hZ, hC1, hm3]; exact ⟨rfl, rfl, rfl⟩
  have hno : ¬ Z < 16777216 → Z = t.span ∧ C1 = t.code ∧ used = t.used := fun hz => by
    rw [← hnx]; unfold Go.Kc.Rr.norm; rw [if_neg (by rw [hZ]; exact hz), hZ, hC1, hm3]; exact ⟨rfl, rfl, rfl⟩
  generalize b.getD used 0 = xo at hyes
  have HYES := Lib.hid hyes
  have HNO := Lib.hid hno
  clear hyes hno hmy hnx hPT hmay ht
  have HBIT : Hid (r.set a = decide (P ≤ code)) := hbit
  have HO := Own.start w
  have hO := HO
  clear HO hm3 hP hBR hm k1 k2 hmv hpv hPP hg hsp hus hsp2 hco hC1 hZ hu q6 q7 q1 q2 q3 q4 q5 k3 k4 k5 hbit hb
  generalize hWW : w = wn at hO HR HBR ⊢
  clear hWW w
  by_cases hc : P ≤ code
  · have dP : decide (P ≤ code) = true := decide_eq_true hc
    have dP2 : decide ((P : Int) ≤ (code : Int)) = true := decide_eq_true (by omega)
    rw [dP] at hm1 hm2 hset
    simp only [Bool.false_eq_true, if_true, if_false] at hm1 hm2
    have HSET := Lib.hid hset
    have HLN := Lib.hid (hln true)
    have HBT : Hid (r.set a = true) := by show _ = _; rw [HBIT.out, dP]
    have a1 : IntKind.u32.wrap ((code : Int) - (P : Int)) = (C1 : Int) := by have := HBD.out; simp [IntKind.wrap, IntKind.bits, IntKind.signed]; omega
    have a2 : IntKind.u32.wrap ((span : Int) - (P : Int)) = (Z : Int) := by have := HBD.out; simp [IntKind.wrap, IntKind.bits, IntKind.signed]; omega
    clear hm1 hm2 hset hln hc HBIT
    go_enter Try.func54, Try.ntmps54
    go_wp2_with (first
      | ((with_reducible refine gG ?_); refine wpList_want rfl ?_)
      | ((with_reducible refine gBox ?_); first | (refine bxA hO rfl ?_; clear hO; intro rb ww hO) | (refine bx1 hO rfl rfl ?_; clear hO; intro rb ww hO))
      | ((with_reducible refine gAlloc ?_); refine own_alloc hO _ _ irgz ?_; clear hO; intro zb ww hO)
      | ((with_reducible refine gLoad ?_); first | refine ldX hO 0 rfl rfl (tA rfl) (tS rfl) ?_ | refine ldC hO 0 rfl rfl (tA rfl) rfl ?_ | refine ldX hO 1 rfl rfl (tA rfl) (tS rfl) ?_ | refine ldC hO 1 rfl rfl (tA rfl) rfl ?_))
    replace hO : Own wn _ [.blk zb (.cells (rgC (.slice none 0 0) 0 0 0) 62 (0,0)), .blk rb (.cells (rgC (.slice aP n cP) span code used) 62 (0,0))] := hO
    refine wp_region_float (fun w' => Own wn w' [.blk rb (.cells (rgC (.slice aP n cP) span code used) 62 (0,0))]) (fun op => match op with | .load _ _ => true | _ => false) [.n, .n, .b, .n, .n, .n, .n, .n, .n, .b, .z, .m] (by kernel_rfl) (by kernel_rfl) hO.drew.tail ?_
    dsimp only [zipF, zOf]
    replace hO := hO.drew
    generalize World.drew _ = wd at hO ⊢
    go_wp2_with (first
      | (((with_reducible refine gIL ?_); first | refine wpI_ldcS (fun w' hS => hS.blk 0 rfl) rfl rfl (tA rfl) rfl ?_); first | (refine wpI_act (by simp only [Act.put, List.setIfInBounds_toArray, List.set_cons_succ, List.set_cons_zero]; rfl) ?_) | skip)
      | ((with_reducible refine gAppendNil ?_); refine own_appendNil hO _ _ 59 ei64 rfl rfl (hO.rd HR.out) (i64s_one _) (by simp [maxLen]; omega) (by omega) ?_; clear hO; intro a1 c1 ww hO)
      | ((with_reducible refine gBld (T := 62) ?_); refine own_bld (rgC (.slice a1 n c1) span code used) (by kernel_rfl) ?_)
      | ((with_reducible refine gAlloc ?_); refine own_alloc hO _ _ irgz ?_; clear hO; intro xb ww hO)
      | ((with_reducible refine gStore ?_); first | (refine stX hO 0 rfl rfl rfl rfl rfl (tS rfl) ?_; clear hO; intro ww hO) | (refine stC hO 0 rfl rfl rfl (ltb rfl) rfl (tS rfl) ?_; clear hO; intro ww hO) | (refine stX hO 1 rfl rfl rfl rfl rfl (tS rfl) ?_; clear hO; intro ww hO) | (refine stC hO 1 rfl rfl rfl (ltb rfl) rfl (tS rfl) ?_; clear hO; intro ww hO))
      | ((with_reducible refine wpF_n ?_ ?_); exact hO.sub (by repeat first | exact List.Sublist.refl _ | apply List.Sublist.cons)) | ((with_reducible refine wpF_b ?_ ?_ ?_); exact hO.sub (by repeat first | exact List.Sublist.refl _ | apply List.Sublist.cons); dsimp only [List.map]) | ((with_reducible refine wpF_m ?_); dsimp only [List.map]) | ((with_reducible refine wpI_nilS ?_ ?_); exact hO.sub (by repeat first | exact List.Sublist.refl _ | apply List.Sublist.cons))
      | ((with_reducible refine gI ?_); refine wpI_step rfl rfl (by kernel_rfl) ?_; intro K hK; have HK := Lib.hid hK; clear hK) | ((with_reducible refine gI ?_); first | refine wpI_skip rfl ?_ | refine wpI_want rfl ?_) | ((with_reducible refine gOnlyK HK.out ?_ ?_); exact hO.sub (by repeat first | exact List.Sublist.refl _ | apply List.Sublist.cons); clear HK K; first | (refine wpI_act (by simp only [Act.put, List.setIfInBounds_toArray, List.set_cons_succ, List.set_cons_zero]; rfl) ?_) | skip) | (with_reducible refine wpI_nil ?_))
    all_goals
      (first | replace hO : Own wn _ [.blk xb (.cells (rgC (.slice a1 n c1) span code used) 62 (0,0)), .sl 3 1 (.slice a1 n c1) n (i64s r.p), .blk zb (.cells (rgC (.slice none 0 0) 0 0 0) 62 (0,0)), .blk rb (.cells (rgC (.slice aP n cP) span code used) 62 (0,0))] := hO | replace hO : Own wn _ [.blk xb (.cells (rgC (.slice a1 n c1) span code used) 62 (0,0)), .sl 3 1 (.slice a1 n c1) n (i64s r.p), .blk zb (.cells (rgC (.slice none 0 0) 0 0 0) 62 (0,0)), .blk rb (.cells (rgC (.slice aP n cP) span code used) 62 (0,0))] := hO.swap)
      obtain ⟨gP, rfl⟩ := hO.slPlace 1 rfl (by omega)
      replace hO : Own wn _ [.blk xb (.cells (rgC (.slice (some ⟨gP, 0, none⟩) n c1) span code used) 62 (0,0)), .sl 3 1 (.slice (some ⟨gP, 0, none⟩) n c1) n (i64s r.p), .blk zb (.cells (rgC (.slice none 0 0) 0 0 0) 62 (0,0)), .blk rb (.cells (rgC (.slice aP n cP) span code used) 62 (0,0))] := hO
      refine wp_region_textS (fun w' => Own wn w' [.blk xb (.cells (rgC (.slice (some ⟨gP, 0, none⟩) n c1) span code used) 62 (0,0)), .sl 3 1 (.slice (some ⟨gP, 0, none⟩) n c1) n (i64s r.p), .blk zb (.cells (rgC (.slice none 0 0) 0 0 0) 62 (0,0)), .blk rb (.cells (rgC (.slice aP n cP) span code used) 62 (0,0))]) (fun op => match op with | .load _ _ => true | _ => false) (by kernel_rfl) (by kernel_rfl) hO.drew ?_
      replace hO := hO.drew
      generalize World.drew _ = wd2 at hO ⊢
      go_wp2_with (first
        | (((with_reducible refine gIL ?_); first | refine wpI_ldcS (fun w' hS => hS.blk 0 rfl) rfl rfl (tA rfl) rfl ?_); first | (refine wpI_act (by simp only [Act.put, List.setIfInBounds_toArray, List.set_cons_succ, List.set_cons_zero]; rfl) ?_) | skip)
        | ((with_reducible refine gIL ?_); refine wpI_ld1S (fun w' hS => (hS.slCell 1 rfl (by omega)).trans HG.out) rfl rfl (tA rfl) ?_; first | (refine wpI_act (by simp only [Act.put, List.setIfInBounds_toArray, List.set_cons_succ, List.set_cons_zero]; rfl) ?_) | skip)
        | (go_at_call 47; refine (HSP.out _).mono ?_; rintro e ww ⟨rfl, rfl⟩)
        | ((with_reducible refine gLoad ?_); first | refine ldX hO 0 rfl rfl (tA rfl) (tS rfl) ?_ | refine ldC hO 0 rfl rfl (tA rfl) rfl ?_)
        | ((with_reducible refine gStore ?_); first | (refine stX hO 0 rfl rfl rfl rfl rfl (tS rfl) ?_; clear hO; intro ww hO) | (refine stC hO 0 rfl rfl rfl (ltb rfl) rfl (tS rfl) ?_; clear hO; intro ww hO))
        | ((with_reducible refine gI ?_); refine wpI_step rfl rfl (by kernel_rfl) ?_; intro K hK; have HK := Lib.hid hK; clear hK) | ((with_reducible refine gI ?_); first | refine wpI_skip rfl ?_ | refine wpI_want rfl ?_) | ((with_reducible refine gOnlyK HK.out ?_ ?_); exact hO; clear HK K; first | (refine wpI_act (by simp only [Act.put, List.setIfInBounds_toArray, List.set_cons_succ, List.set_cons_zero]; rfl) ?_) | skip) | (with_reducible refine wpI_nil ?_))
      replace hO : Own wn _ [.blk xb (.cells (rgC (.slice (some ⟨gP, 0, none⟩) n c1) Z C1 used) 62 (0,0)), .sl 3 1 (.slice (some ⟨gP, 0, none⟩) n c1) n (i64s r.p), .blk zb (.cells (rgC (.slice none 0 0) 0 0 0) 62 (0,0)), .blk rb (.cells (rgC (.slice aP n cP) span code used) 62 (0,0))] := hO
      refine wp_region_textS (fun w' => Own wn w' [.blk xb (.cells (rgC (.slice (some ⟨gP, 0, none⟩) n c1) Z C1 used) 62 (0,0))]) (fun op => match op with | .load _ (.tmp 68) => false | .load _ _ => true | _ => false) (by kernel_rfl) (by kernel_rfl) (hO.drew.only (by simp)) ?_
      replace hO := hO.drew
      generalize World.drew _ = wd3 at hO ⊢
      go_wp2_with (first
        | (((with_reducible refine gIL ?_); first | refine wpI_ldcS (fun w' hS => hS.blk 0 rfl) rfl rfl (tA rfl) rfl ?_); first | (refine wpI_act (by simp only [Act.put, List.setIfInBounds_toArray, List.set_cons_succ, List.set_cons_zero]; rfl) ?_) | skip)
        | ((with_reducible refine gLoad (T := 3) ?_); refine ld_sl hO 1 rfl rfl HG.out (tA rfl) ?_)
        | (go_at_call 49; refine (HLN.out _).mono ?_; rintro e ww ⟨rfl, rfl⟩)
        | ((with_reducible refine gStore (T := 3) ?_); refine own_setElem hO 1 3 _ _ _ rfl rfl rfl (by omega) ii64s rfl ?_; clear hO; intro ww hO)
        | ((with_reducible refine gI ?_); refine wpI_step rfl rfl (by kernel_rfl) ?_; intro K hK; have HK := Lib.hid hK; clear hK) | ((with_reducible refine gI ?_); first | refine wpI_skip rfl ?_ | refine wpI_want rfl ?_) | ((with_reducible refine gOnlyK HK.out ?_ ?_); exact hO.only (by simp); clear HK K; first | (refine wpI_act (by simp only [Act.put, List.setIfInBounds_toArray, List.set_cons_succ, List.set_cons_zero]; rfl) ?_) | skip) | (with_reducible refine wpI_nil ?_))
      replace hO : Own wn _ [.blk xb (.cells (rgC (.slice (some ⟨gP, 0, none⟩) n c1) Z C1 used) 62 (0,0)), .sl 3 1 (.slice (some ⟨gP, 0, none⟩) n c1) n ((i64s r.p).set a (.int .i64 (learnI pv true))), .blk zb (.cells (rgC (.slice none 0 0) 0 0 0) 62 (0,0)), .blk rb (.cells (rgC (.slice aP n cP) span code used) 62 (0,0))] := hO
      rw [HSET.out] at hO
      go_loopg [] 1 (fun q wr => ∃ (Zc Cc Uc : Nat), q ≤ 1 ∧ Hid (Zc < 16777216 → q = 1 ∧ Zc = Z ∧ Cc = C1 ∧ Uc = used) ∧ Hid (¬ Zc < 16777216 → Zc = t.span ∧ Cc = t.code ∧ Uc = t.used) ∧ Own wn wr [.blk xb (.cells (rgC (.slice (some ⟨gP, 0, none⟩) n c1) Zc Cc Uc) 62 (0,0)), .sl 3 1 (.slice (some ⟨gP, 0, none⟩) n c1) n (i64s u.p), .blk zb (.cells (rgC (.slice none 0 0) 0 0 0) 62 (0,0)), .blk rb (.cells (rgC (.slice aP n cP) span code used) 62 (0,0))])
      case atStart => exact ⟨Z, C1, used, by omega, fun _ => ⟨rfl, rfl, rfl, rfl⟩, HNO.out, hO⟩
      case round =>
        obtain ⟨Zc, Cc, Uc, hq, HA, HB, hO1⟩ := hrel
        clear hO
        have hO := hO1
        clear hO1
        by_cases hz : Zc < 16777216
        · obtain ⟨rfl, rfl, rfl, rfl⟩ := HA.out hz
          have d1 : decide ((Zc : Int) < 16777216) = true := decide_eq_true (by omega)
          obtain ⟨hul, Y, CN, hY, hCN, hx, hxl, hYb, hCNb, hYt⟩ := HYES.out hz
          have d2 : decide ((m : Int) ≤ (Uc : Int)) = false := decide_eq_false (by omega)
          have d3 : decide (m ≤ Uc) = false := decide_eq_false (by omega)
          obtain ⟨bb, ob, rfl⟩ := HBR.out.place (by omega)
          have e1 : IntKind.u32.wrap ((Cc : Int) * 256) = (Cc : Int) * 256 := by simp [IntKind.wrap, IntKind.bits, IntKind.signed]; omega
          have e2 : IntKind.u32.wrap (xo.toNat : Int) = (xo.toNat : Int) := by simp [IntKind.wrap, IntKind.bits, IntKind.signed]; omega
          have e3 : IntKind.u32.wrap ((Cc : Int) * 256 + (xo.toNat : Int)) = (CN : Int) := by simp [IntKind.wrap, IntKind.bits, IntKind.signed]; omega
          have e5 : IntKind.u32.wrap ((Zc : Int) * 256) = (Y : Int) := by simp [IntKind.wrap, IntKind.bits, IntKind.signed]; omega
          have hu1 : Uc ≤ 10000000 := by have := HM.out; omega
          have HX := Lib.hid hx
          have HYT := Lib.hid hYt
          have HYB : Hid (16777216 ≤ Y) := hYb
          clear hz hY hCN hx hYb hCNb hYt hxl HA HB
          go_wp2_with (first
            | ((with_reducible refine gLoad ?_); first | refine ldX hO 0 rfl rfl (tA rfl) (tS rfl) ?_ | refine ldC hO 0 rfl rfl (tA rfl) rfl ?_))
          refine wp_region_text (by kernel_rfl) (by kernel_rfl) ?_
          replace hO := hO.drew
          generalize World.drew _ = wd4 at hO ⊢
          go_wp2_with (first
            | ((with_reducible refine gLoad ?_); first | refine ldX hO 0 rfl rfl (tA rfl) (tS rfl) ?_ | refine ldC hO 0 rfl rfl (tA rfl) rfl ?_)
            | ((with_reducible refine gLoad (T := 5) ?_); refine ld_rd (hO.rd HBR.out) rfl HX.out (tA rfl) ?_)
            | ((with_reducible refine gStore ?_); first | (refine stX hO 0 rfl rfl rfl rfl rfl (tS rfl) ?_; clear hO; intro ww hO) | (refine stC hO 0 rfl rfl rfl (ltb rfl) rfl (tS rfl) ?_; clear hO; intro ww hO))
            | ((with_reducible refine gI ?_); refine wpI_step rfl rfl (by kernel_rfl) ?_; intro K hK; have HK := Lib.hid hK; clear hK) | ((with_reducible refine gI ?_); first | refine wpI_skip rfl ?_ | refine wpI_want rfl ?_) | ((with_reducible refine gOnlyK0 HK.out ?_); clear HK K; first | (refine wpI_act (by simp only [Act.put, List.setIfInBounds_toArray, List.set_cons_succ, List.set_cons_zero]; rfl) ?_) | skip) | (with_reducible refine wpI_nil ?_))
          go_roundg 0
          case measure => omega
          case rel => exact ⟨Y, CN, Uc + 1, by omega, by have := HYB.out; intro h; omega, fun _ => HYT.out, hO⟩
        · obtain ⟨rfl, rfl, rfl⟩ := HB.out hz
          have d1 : decide ((t.span : Int) < 16777216) = false := decide_eq_false (by omega)
          clear hz HA HB HYES
          go_wp2_with (first
            | ((with_reducible refine gLoad ?_); first | refine ldX hO 0 rfl rfl (tA rfl) (tS rfl) ?_ | refine ldC hO 0 rfl rfl (tA rfl) rfl ?_))
          refine wp_region_text (by kernel_rfl) (by kernel_rfl) ?_
          replace hO := hO.drew
          generalize World.drew _ = wd4 at hO ⊢
          go_wp2_with (first
            | ((with_reducible refine gLoad ?_); first | refine ldX hO 0 rfl rfl (tA rfl) (tS rfl) ?_ | refine ldC hO 0 rfl rfl (tA rfl) rfl ?_)
            | ((with_reducible refine gStore ?_); first | (refine stX hO 0 rfl rfl rfl rfl rfl (tS rfl) ?_; clear hO; intro ww hO) | (refine stC hO 0 rfl rfl rfl (ltb rfl) rfl (tS rfl) ?_; clear hO; intro ww hO) | (refine stX hO 1 rfl rfl rfl rfl rfl (tS rfl) ?_; clear hO; intro ww hO) | (refine stC hO 1 rfl rfl rfl (ltb rfl) rfl (tS rfl) ?_; clear hO; intro ww hO) | (refine stX hO 2 rfl rfl rfl rfl rfl (tS rfl) ?_; clear hO; intro ww hO) | (refine stC hO 2 rfl rfl rfl (ltb rfl) rfl (tS rfl) ?_; clear hO; intro ww hO))
            | ((with_reducible refine gI ?_); refine wpI_step rfl rfl (by kernel_rfl) ?_; intro K hK; have HK := Lib.hid hK; clear hK) | ((with_reducible refine gI ?_); first | refine wpI_skip rfl ?_ | refine wpI_want rfl ?_) | ((with_reducible refine gOnlyK0 HK.out ?_); clear HK K; first | (refine wpI_act (by simp only [Act.put, List.setIfInBounds_toArray, List.set_cons_succ, List.set_cons_zero]; rfl) ?_) | skip) | (with_reducible refine wpI_nil ?_))
          refine bodyPost_ret (res_tct rfl _ _ zb 62 (rgC (.slice (some ⟨gP, 0, none⟩) n c1) t.span t.code t.used) (0,0) _ rfl (hO.blk 2 rfl) Try.underlying62 rfl (irg _ _ _ _)) rfl ⟨some ⟨gP, 0, none⟩, c1, by rw [HBT.out]; rfl, hO.below, by rw [HPT.out]; exact hO.row 1 rfl⟩
  · have dP : decide (P ≤ code) = false := decide_eq_false hc
    have dP2 : decide ((P : Int) ≤ (code : Int)) = false := decide_eq_false (by omega)
    rw [dP] at hm1 hm2 hset
    simp only [Bool.false_eq_true, if_true, if_false] at hm1 hm2
    have HSET := Lib.hid hset
    have HLN := Lib.hid (hln false)
    have HBT : Hid (r.set a = false) := by show _ = _; rw [HBIT.out, dP]
    subst hm1
    subst hm2
    clear hset hln hc HBIT
    go_enter Try.func54, Try.ntmps54
    go_wp2_with (first
      | ((with_reducible refine gG ?_); refine wpList_want rfl ?_)
      | ((with_reducible refine gBox ?_); first | (refine bxA hO rfl ?_; clear hO; intro rb ww hO) | (refine bx1 hO rfl rfl ?_; clear hO; intro rb ww hO))
      | ((with_reducible refine gAlloc ?_); refine own_alloc hO _ _ irgz ?_; clear hO; intro zb ww hO)
      | ((with_reducible refine gLoad ?_); first | refine ldX hO 0 rfl rfl (tA rfl) (tS rfl) ?_ | refine ldC hO 0 rfl rfl (tA rfl) rfl ?_ | refine ldX hO 1 rfl rfl (tA rfl) (tS rfl) ?_ | refine ldC hO 1 rfl rfl (tA rfl) rfl ?_))
    replace hO : Own wn _ [.blk zb (.cells (rgC (.slice none 0 0) 0 0 0) 62 (0,0)), .blk rb (.cells (rgC (.slice aP n cP) span C1 used) 62 (0,0))] := hO
    refine wp_region_float (fun w' => Own wn w' [.blk rb (.cells (rgC (.slice aP n cP) span C1 used) 62 (0,0))]) (fun op => match op with | .load _ _ => true | _ => false) [.n, .n, .b, .n, .n, .n, .n, .n, .n, .b, .z, .m] (by kernel_rfl) (by kernel_rfl) hO.drew.tail ?_
    dsimp only [zipF, zOf]
    replace hO := hO.drew
    generalize World.drew _ = wd at hO ⊢
    go_wp2_with (first
      | (((with_reducible refine gIL ?_); first | refine wpI_ldcS (fun w' hS => hS.blk 0 rfl) rfl rfl (tA rfl) rfl ?_); first | (refine wpI_act (by simp only [Act.put, List.setIfInBounds_toArray, List.set_cons_succ, List.set_cons_zero]; rfl) ?_) | skip)
      | ((with_reducible refine gAppendNil ?_); refine own_appendNil hO _ _ 59 ei64 rfl rfl (hO.rd HR.out) (i64s_one _) (by simp [maxLen]; omega) (by omega) ?_; clear hO; intro a1 c1 ww hO)
      | ((with_reducible refine gBld (T := 62) ?_); refine own_bld (rgC (.slice a1 n c1) span C1 used) (by kernel_rfl) ?_)
      | ((with_reducible refine gAlloc ?_); refine own_alloc hO _ _ irgz ?_; clear hO; intro xb ww hO)
      | ((with_reducible refine gStore ?_); first | (refine stX hO 0 rfl rfl rfl rfl rfl (tS rfl) ?_; clear hO; intro ww hO) | (refine stC hO 0 rfl rfl rfl (ltb rfl) rfl (tS rfl) ?_; clear hO; intro ww hO) | (refine stX hO 1 rfl rfl rfl rfl rfl (tS rfl) ?_; clear hO; intro ww hO) | (refine stC hO 1 rfl rfl rfl (ltb rfl) rfl (tS rfl) ?_; clear hO; intro ww hO))
      | ((with_reducible refine wpF_n ?_ ?_); exact hO.sub (by repeat first | exact List.Sublist.refl _ | apply List.Sublist.cons)) | ((with_reducible refine wpF_b ?_ ?_ ?_); exact hO.sub (by repeat first | exact List.Sublist.refl _ | apply List.Sublist.cons); dsimp only [List.map]) | ((with_reducible refine wpF_m ?_); dsimp only [List.map]) | ((with_reducible refine wpI_nilS ?_ ?_); exact hO.sub (by repeat first | exact List.Sublist.refl _ | apply List.Sublist.cons))
      | ((with_reducible refine gI ?_); refine wpI_step rfl rfl (by kernel_rfl) ?_; intro K hK; have HK := Lib.hid hK; clear hK) | ((with_reducible refine gI ?_); first | refine wpI_skip rfl ?_ | refine wpI_want rfl ?_) | ((with_reducible refine gOnlyK HK.out ?_ ?_); exact hO.sub (by repeat first | exact List.Sublist.refl _ | apply List.Sublist.cons); clear HK K; first | (refine wpI_act (by simp only [Act.put, List.setIfInBounds_toArray, List.set_cons_succ, List.set_cons_zero]; rfl) ?_) | skip) | (with_reducible refine wpI_nil ?_))
    all_goals
      (first | replace hO : Own wn _ [.blk xb (.cells (rgC (.slice a1 n c1) span C1 used) 62 (0,0)), .sl 3 1 (.slice a1 n c1) n (i64s r.p), .blk zb (.cells (rgC (.slice none 0 0) 0 0 0) 62 (0,0)), .blk rb (.cells (rgC (.slice aP n cP) span C1 used) 62 (0,0))] := hO | replace hO : Own wn _ [.blk xb (.cells (rgC (.slice a1 n c1) span C1 used) 62 (0,0)), .sl 3 1 (.slice a1 n c1) n (i64s r.p), .blk zb (.cells (rgC (.slice none 0 0) 0 0 0) 62 (0,0)), .blk rb (.cells (rgC (.slice aP n cP) span C1 used) 62 (0,0))] := hO.swap)
      obtain ⟨gP, rfl⟩ := hO.slPlace 1 rfl (by omega)
      replace hO : Own wn _ [.blk xb (.cells (rgC (.slice (some ⟨gP, 0, none⟩) n c1) span C1 used) 62 (0,0)), .sl 3 1 (.slice (some ⟨gP, 0, none⟩) n c1) n (i64s r.p), .blk zb (.cells (rgC (.slice none 0 0) 0 0 0) 62 (0,0)), .blk rb (.cells (rgC (.slice aP n cP) span C1 used) 62 (0,0))] := hO
      refine wp_region_textS (fun w' => Own wn w' [.blk xb (.cells (rgC (.slice (some ⟨gP, 0, none⟩) n c1) span C1 used) 62 (0,0)), .sl 3 1 (.slice (some ⟨gP, 0, none⟩) n c1) n (i64s r.p), .blk zb (.cells (rgC (.slice none 0 0) 0 0 0) 62 (0,0)), .blk rb (.cells (rgC (.slice aP n cP) span C1 used) 62 (0,0))]) (fun op => match op with | .load _ _ => true | _ => false) (by kernel_rfl) (by kernel_rfl) hO.drew ?_
      replace hO := hO.drew
      generalize World.drew _ = wd2 at hO ⊢
      go_wp2_with (first
        | (((with_reducible refine gIL ?_); first | refine wpI_ldcS (fun w' hS => hS.blk 0 rfl) rfl rfl (tA rfl) rfl ?_); first | (refine wpI_act (by simp only [Act.put, List.setIfInBounds_toArray, List.set_cons_succ, List.set_cons_zero]; rfl) ?_) | skip)
        | ((with_reducible refine gIL ?_); refine wpI_ld1S (fun w' hS => (hS.slCell 1 rfl (by omega)).trans HG.out) rfl rfl (tA rfl) ?_; first | (refine wpI_act (by simp only [Act.put, List.setIfInBounds_toArray, List.set_cons_succ, List.set_cons_zero]; rfl) ?_) | skip)
        | (go_at_call 47; refine (HSP.out _).mono ?_; rintro e ww ⟨rfl, rfl⟩)
        | ((with_reducible refine gLoad ?_); first | refine ldX hO 0 rfl rfl (tA rfl) (tS rfl) ?_ | refine ldC hO 0 rfl rfl (tA rfl) rfl ?_)
        | ((with_reducible refine gStore ?_); first | (refine stX hO 0 rfl rfl rfl rfl rfl (tS rfl) ?_; clear hO; intro ww hO) | (refine stC hO 0 rfl rfl rfl (ltb rfl) rfl (tS rfl) ?_; clear hO; intro ww hO))
        | ((with_reducible refine gI ?_); refine wpI_step rfl rfl (by kernel_rfl) ?_; intro K hK; have HK := Lib.hid hK; clear hK) | ((with_reducible refine gI ?_); first | refine wpI_skip rfl ?_ | refine wpI_want rfl ?_) | ((with_reducible refine gOnlyK HK.out ?_ ?_); exact hO; clear HK K; first | (refine wpI_act (by simp only [Act.put, List.setIfInBounds_toArray, List.set_cons_succ, List.set_cons_zero]; rfl) ?_) | skip) | (with_reducible refine wpI_nil ?_))
      replace hO : Own wn _ [.blk xb (.cells (rgC (.slice (some ⟨gP, 0, none⟩) n c1) Z C1 used) 62 (0,0)), .sl 3 1 (.slice (some ⟨gP, 0, none⟩) n c1) n (i64s r.p), .blk zb (.cells (rgC (.slice none 0 0) 0 0 0) 62 (0,0)), .blk rb (.cells (rgC (.slice aP n cP) span C1 used) 62 (0,0))] := hO
      refine wp_region_textS (fun w' => Own wn w' [.blk xb (.cells (rgC (.slice (some ⟨gP, 0, none⟩) n c1) Z C1 used) 62 (0,0))]) (fun op => match op with | .load _ (.tmp 68) => false | .load _ _ => true | _ => false) (by kernel_rfl) (by kernel_rfl) (hO.drew.only (by simp)) ?_
      replace hO := hO.drew
      generalize World.drew _ = wd3 at hO ⊢
      go_wp2_with (first
        | (((with_reducible refine gIL ?_); first | refine wpI_ldcS (fun w' hS => hS.blk 0 rfl) rfl rfl (tA rfl) rfl ?_); first | (refine wpI_act (by simp only [Act.put, List.setIfInBounds_toArray, List.set_cons_succ, List.set_cons_zero]; rfl) ?_) | skip)
        | ((with_reducible refine gLoad (T := 3) ?_); refine ld_sl hO 1 rfl rfl HG.out (tA rfl) ?_)
        | (go_at_call 49; refine (HLN.out _).mono ?_; rintro e ww ⟨rfl, rfl⟩)
        | ((with_reducible refine gStore (T := 3) ?_); refine own_setElem hO 1 3 _ _ _ rfl rfl rfl (by omega) ii64s rfl ?_; clear hO; intro ww hO)
        | ((with_reducible refine gI ?_); refine wpI_step rfl rfl (by kernel_rfl) ?_; intro K hK; have HK := Lib.hid hK; clear hK) | ((with_reducible refine gI ?_); first | refine wpI_skip rfl ?_ | refine wpI_want rfl ?_) | ((with_reducible refine gOnlyK HK.out ?_ ?_); exact hO.only (by simp); clear HK K; first | (refine wpI_act (by simp only [Act.put, List.setIfInBounds_toArray, List.set_cons_succ, List.set_cons_zero]; rfl) ?_) | skip) | (with_reducible refine wpI_nil ?_))
      replace hO : Own wn _ [.blk xb (.cells (rgC (.slice (some ⟨gP, 0, none⟩) n c1) Z C1 used) 62 (0,0)), .sl 3 1 (.slice (some ⟨gP, 0, none⟩) n c1) n ((i64s r.p).set a (.int .i64 (learnI pv false))), .blk zb (.cells (rgC (.slice none 0 0) 0 0 0) 62 (0,0)), .blk rb (.cells (rgC (.slice aP n cP) span C1 used) 62 (0,0))] := hO
      rw [HSET.out] at hO
      go_loopg [] 1 (fun q wr => ∃ (Zc Cc Uc : Nat), q ≤ 1 ∧ Hid (Zc < 16777216 → q = 1 ∧ Zc = Z ∧ Cc = C1 ∧ Uc = used) ∧ Hid (¬ Zc < 16777216 → Zc = t.span ∧ Cc = t.code ∧ Uc = t.used) ∧ Own wn wr [.blk xb (.cells (rgC (.slice (some ⟨gP, 0, none⟩) n c1) Zc Cc Uc) 62 (0,0)), .sl 3 1 (.slice (some ⟨gP, 0, none⟩) n c1) n (i64s u.p), .blk zb (.cells (rgC (.slice none 0 0) 0 0 0) 62 (0,0)), .blk rb (.cells (rgC (.slice aP n cP) span C1 used) 62 (0,0))])
      case atStart => exact ⟨Z, C1, used, by omega, fun _ => ⟨rfl, rfl, rfl, rfl⟩, HNO.out, hO⟩
      case round =>
        obtain ⟨Zc, Cc, Uc, hq, HA, HB, hO1⟩ := hrel
        clear hO
        have hO := hO1
        clear hO1
        by_cases hz : Zc < 16777216
        · obtain ⟨rfl, rfl, rfl, rfl⟩ := HA.out hz
          have d1 : decide ((Zc : Int) < 16777216) = true := decide_eq_true (by omega)
          obtain ⟨hul, Y, CN, hY, hCN, hx, hxl, hYb, hCNb, hYt⟩ := HYES.out hz
          have d2 : decide ((m : Int) ≤ (Uc : Int)) = false := decide_eq_false (by omega)
          have d3 : decide (m ≤ Uc) = false := decide_eq_false (by omega)
          obtain ⟨bb, ob, rfl⟩ := HBR.out.place (by omega)
          have e1 : IntKind.u32.wrap ((Cc : Int) * 256) = (Cc : Int) * 256 := by simp [IntKind.wrap, IntKind.bits, IntKind.signed]; omega
          have e2 : IntKind.u32.wrap (xo.toNat : Int) = (xo.toNat : Int) := by simp [IntKind.wrap, IntKind.bits, IntKind.signed]; omega
          have e3 : IntKind.u32.wrap ((Cc : Int) * 256 + (xo.toNat : Int)) = (CN : Int) := by simp [IntKind.wrap, IntKind.bits, IntKind.signed]; omega
          have e5 : IntKind.u32.wrap ((Zc : Int) * 256) = (Y : Int) := by simp [IntKind.wrap, IntKind.bits, IntKind.signed]; omega
          have hu1 : Uc ≤ 10000000 := by have := HM.out; omega
          have HX := Lib.hid hx
          have HYT := Lib.hid hYt
          have HYB : Hid (16777216 ≤ Y) := hYb
          clear hz hY hCN hx hYb hCNb hYt hxl HA HB
          go_wp2_with (first
            | ((with_reducible refine gLoad ?_); first | refine ldX hO 0 rfl rfl (tA rfl) (tS rfl) ?_ | refine ldC hO 0 rfl rfl (tA rfl) rfl ?_))
          refine wp_region_text (by kernel_rfl) (by kernel_rfl) ?_
          replace hO := hO.drew
          generalize World.drew _ = wd4 at hO ⊢
          go_wp2_with (first
            | ((with_reducible refine gLoad ?_); first | refine ldX hO 0 rfl rfl (tA rfl) (tS rfl) ?_ | refine ldC hO 0 rfl rfl (tA rfl) rfl ?_)
            | ((with_reducible refine gLoad (T := 5) ?_); refine ld_rd (hO.rd HBR.out) rfl HX.out (tA rfl) ?_)
            | ((with_reducible refine gStore ?_); first | (refine stX hO 0 rfl rfl rfl rfl rfl (tS rfl) ?_; clear hO; intro ww hO) | (refine stC hO 0 rfl rfl rfl (ltb rfl) rfl (tS rfl) ?_; clear hO; intro ww hO))
            | ((with_reducible refine gI ?_); refine wpI_step rfl rfl (by kernel_rfl) ?_; intro K hK; have HK := Lib.hid hK; clear hK) | ((with_reducible refine gI ?_); first | refine wpI_skip rfl ?_ | refine wpI_want rfl ?_) | ((with_reducible refine gOnlyK0 HK.out ?_); clear HK K; first | (refine wpI_act (by simp only [Act.put, List.setIfInBounds_toArray, List.set_cons_succ, List.set_cons_zero]; rfl) ?_) | skip) | (with_reducible refine wpI_nil ?_))
          go_roundg 0
          case measure => omega
          case rel => exact ⟨Y, CN, Uc + 1, by omega, by have := HYB.out; intro h; omega, fun _ => HYT.out, hO⟩
        · obtain ⟨rfl, rfl, rfl⟩ := HB.out hz
          have d1 : decide ((t.span : Int) < 16777216) = false := decide_eq_false (by omega)
          clear hz HA HB HYES
          go_wp2_with (first
            | ((with_reducible refine gLoad ?_); first | refine ldX hO 0 rfl rfl (tA rfl) (tS rfl) ?_ | refine ldC hO 0 rfl rfl (tA rfl) rfl ?_))
          refine wp_region_text (by kernel_rfl) (by kernel_rfl) ?_
          replace hO := hO.drew
          generalize World.drew _ = wd4 at hO ⊢
          go_wp2_with (first
            | ((with_reducible refine gLoad ?_); first | refine ldX hO 0 rfl rfl (tA rfl) (tS rfl) ?_ | refine ldC hO 0 rfl rfl (tA rfl) rfl ?_)
            | ((with_reducible refine gStore ?_); first | (refine stX hO 0 rfl rfl rfl rfl rfl (tS rfl) ?_; clear hO; intro ww hO) | (refine stC hO 0 rfl rfl rfl (ltb rfl) rfl (tS rfl) ?_; clear hO; intro ww hO) | (refine stX hO 1 rfl rfl rfl rfl rfl (tS rfl) ?_; clear hO; intro ww hO) | (refine stC hO 1 rfl rfl rfl (ltb rfl) rfl (tS rfl) ?_; clear hO; intro ww hO) | (refine stX hO 2 rfl rfl rfl rfl rfl (tS rfl) ?_; clear hO; intro ww hO) | (refine stC hO 2 rfl rfl rfl (ltb rfl) rfl (tS rfl) ?_; clear hO; intro ww hO))
            | ((with_reducible refine gI ?_); refine wpI_step rfl rfl (by kernel_rfl) ?_; intro K hK; have HK := Lib.hid hK; clear hK) | ((with_reducible refine gI ?_); first | refine wpI_skip rfl ?_ | refine wpI_want rfl ?_) | ((with_reducible refine gOnlyK0 HK.out ?_); clear HK K; first | (refine wpI_act (by simp only [Act.put, List.setIfInBounds_toArray, List.set_cons_succ, List.set_cons_zero]; rfl) ?_) | skip) | (with_reducible refine wpI_nil ?_))
          refine bodyPost_ret (res_tct rfl _ _ zb 62 (rgC (.slice (some ⟨gP, 0, none⟩) n c1) t.span t.code t.used) (0,0) _ rfl (hO.blk 2 rfl) Try.underlying62 rfl (irg _ _ _ _)) rfl ⟨some ⟨gP, 0, none⟩, c1, by rw [HBT.out]; rfl, hO.below, by rw [HPT.out]; exact hO.row 1 rfl⟩

set_option maxHeartbeats 8000000 in
set_option maxRecDepth 100000 in
theorem rnext_short (n : Nat) (hn : n ≤ 1024) (r : Go.Kc.Rr) (b : List (BitVec 8)) (hr : Go.Kc.Rok n b r) (aP : Option Addr) (cP : Nat) (aB : Option Addr) (m cB : Nat) (w : World) (hP : Rd w 1 aP n cP (i64s r.p)) (hBR : Rd w 1 aB m cB (u8s b)) (hm : m ≤ 10000000) (a : Nat) (ha : a < n) (hmay : ¬ r.may b a) :
    Calls Try.prog 54 #[.agg (rgC (.slice aP n cP) r.span r.code r.used), .slice aB m cB, .int .i64 (a : Int)] w fun e w' => e = .returned (.tuple #[.bool false, .agg (rgC (.slice aP n cP) r.span r.code r.used), .int .i64 2]) ∧ Below w.heap.size w w' := by
  have hb : b.length = m := by have := hBR.len; rw [u8s_length] at this; omega
  obtain ⟨q1, q2⟩ := Go.Kc.rok_part hr ha
  obtain ⟨q3, q4, q5, q6, q7⟩ := Go.Kc.rok_mid hr ha
  obtain ⟨k1, k2, k3, k4, k5, k6⟩ := hr
  have hmv := Go.Kc.all_get k2 (by rw [k1]; exact ha)
  rw [kc_may] at hmv
  obtain ⟨pv, hpv⟩ : ∃ pv, r.p.getD a 0 = pv := ⟨_, rfl⟩
  obtain ⟨P, hPP⟩ : ∃ P, r.part a = P := ⟨_, rfl⟩
  rw [hpv] at hmv
  rw [hPP] at q1 q2
  have hg : (i64s r.p)[a]? = some (.int .i64 pv) := by
    rw [i64s_get r.p a (by omega), ← hpv, List.getD_eq_getElem?_getD, List.getElem?_eq_getElem (by omega)]; rfl
  have hset : (i64s r.p).set a (.int .i64 (learnI pv (r.set a))) = i64s (r.mid a).p := by
    unfold Go.Kc.Rr.mid i64s
    dsimp only
    rw [List.map_set, hpv]; rfl
  have hsp : ∀ w, Calls Try.prog 47 #[.int .u32 (r.span : Int), .int .i64 pv] w fun e w' => e = .returned (.tuple #[.int .u32 (P : Int), .int .i64 0]) ∧ w = w' := fun w => by
    have h := rsplit_calls (r.span : Int) pv w (by omega) (by omega)
    have e : splitOk (r.span : Int) pv = true := by unfold splitOk; rw [hmv, decide_eq_true (by omega)]; rfl
    have e2 : splitI (r.span : Int) pv = (P : Int) := by
      have hp0 := ((mayB_iff pv).1 hmv).1
      rw [← hPP]
      unfold splitI Go.Kc.Rr.part
      rw [hpv, Int.natCast_mul, Int.natCast_ediv, Int.toNat_of_nonneg (by omega)]; rfl
    rw [e, if_pos rfl, if_pos rfl, e2] at h
    exact h
  have hln : ∀ bt w, Calls Try.prog 49 #[.int .i64 pv, .bool bt] w fun e w' => e = .returned (.tuple #[.int .i64 (learnI pv bt), .int .i64 0]) ∧ w = w' := fun bt w => by
    have h := rLearn_calls pv bt w
    rw [hmv, if_pos rfl, if_pos rfl] at h
    exact h
  have hbit : r.set a = decide (P ≤ r.code) := by rw [← hPP]; rfl
  have hm1 : (r.mid a).code = if r.set a then r.code - P else r.code := by rw [← hPP]; rfl
  have hm2 : (r.mid a).span = if r.set a then r.span - P else P := by rw [← hPP]; rfl
  have hm3 : (r.mid a).used = r.used := rfl
  have hs2 : (r.mid a).span < 16777216 ∧ b.length ≤ r.used := by
    have h := hmay
    rw [Go.Kc.may_iff] at h
    exact Classical.not_not.1 h
  obtain ⟨u, hu⟩ : ∃ u, r.mid a = u := ⟨_, rfl⟩
  rw [hu] at hset hm1 hm2 hm3 q3 q4 q5 hs2
  obtain ⟨used, hus⟩ : ∃ x, r.used = x := ⟨_, rfl⟩
  obtain ⟨span, hsp2⟩ : ∃ x, r.span = x := ⟨_, rfl⟩
  obtain ⟨code, hco⟩ : ∃ x, r.code = x := ⟨_, rfl⟩
  obtain ⟨C1, hC1⟩ : ∃ x, u.code = x := ⟨_, rfl⟩
  obtain ⟨Z, hZ⟩ : ∃ x, u.span = x := ⟨_, rfl⟩
  rw [hus] at hm3 k6 hs2 ⊢
  rw [hsp2] at hsp hm2 q2 k3 k4 ⊢
  rw [hco] at hbit hm1 ⊢
  rw [hZ] at hm2 q3 q4 q5
  rw [hC1] at hm1 q3
  rw [hb] at k6
  rw [hbit] at hm1 hm2 hset
  have HSP := Lib.hid hsp
  have HG := Lib.hid hg
  have HM := Lib.hid hm
  have HU3 : Hid (u.used = used) := hm3
  have HC1 := Lib.hid hC1
  have HZZ := Lib.hid hZ
  have HR := Lib.hid hP
  have HBR := Lib.hid hBR
  have HBL := Lib.hid hb
  have HK1 := Lib.hid k1
  have hmax := Nat.le_trans hP.le hP.max
  unfold maxLen at hmax
  have HBD : Hid (253952 ≤ P ∧ P + 253952 ≤ span ∧ span < 4294967296 ∧ C1 < Z ∧ 253952 ≤ Z ∧ Z < 4294967296) := ⟨q1, q2, k4, q3, q4, q5⟩
  have i2 : decide ((a : Int) < 0) = false := decide_eq_false (by omega)
  have i3 : decide ((n : Int) ≤ (a : Int)) = false := decide_eq_false (by omega)
  have i4 : decide (n ≤ a) = false := decide_eq_false (by omega)
  rw [hZ, hb] at hs2
  have HNO := Lib.hid hs2
  clear hs2 hmay
  have HBIT : Hid (r.set a = decide (P ≤ code)) := hbit
  have HO := Own.start w
  have hO := HO
  clear HO hm3 hP hBR hm k1 k2 hmv hpv hPP hg hsp hus hsp2 hco hC1 hZ hu q6 q7 q1 q2 q3 q4 q5 k3 k4 k5 hbit hb
  generalize hWW : w = wn at hO HR HBR ⊢
  clear hWW w
  by_cases hc : P ≤ code
  · have dP : decide (P ≤ code) = true := decide_eq_true hc
    have dP2 : decide ((P : Int) ≤ (code : Int)) = true := decide_eq_true (by omega)
    rw [dP] at hm1 hm2 hset
    simp only [Bool.false_eq_true, if_true, if_false] at hm1 hm2
    have HSET := Lib.hid hset
    have HLN := Lib.hid (hln true)
    have HBT : Hid (r.set a = true) := by show _ = _; rw [HBIT.out, dP]
    have a1 : IntKind.u32.wrap ((code : Int) - (P : Int)) = (C1 : Int) := by have := HBD.out; simp [IntKind.wrap, IntKind.bits, IntKind.signed]; omega
    have a2 : IntKind.u32.wrap ((span : Int) - (P : Int)) = (Z : Int) := by have := HBD.out; simp [IntKind.wrap, IntKind.bits, IntKind.signed]; omega
    clear hm1 hm2 hset hln hc HBIT
    go_enter Try.func54, Try.ntmps54
    go_wp2_with (first
      | ((with_reducible refine gG ?_); refine wpList_want rfl ?_)
      | ((with_reducible refine gBox ?_); first | (refine bxA hO rfl ?_; clear hO; intro rb ww hO) | (refine bx1 hO rfl rfl ?_; clear hO; intro rb ww hO))
      | ((with_reducible refine gAlloc ?_); refine own_alloc hO _ _ irgz ?_; clear hO; intro zb ww hO)
      | ((with_reducible refine gLoad ?_); first | refine ldX hO 0 rfl rfl (tA rfl) (tS rfl) ?_ | refine ldC hO 0 rfl rfl (tA rfl) rfl ?_ | refine ldX hO 1 rfl rfl (tA rfl) (tS rfl) ?_ | refine ldC hO 1 rfl rfl (tA rfl) rfl ?_))
    replace hO : Own wn _ [.blk zb (.cells (rgC (.slice none 0 0) 0 0 0) 62 (0,0)), .blk rb (.cells (rgC (.slice aP n cP) span code used) 62 (0,0))] := hO
    refine wp_region_float (fun w' => Own wn w' [.blk rb (.cells (rgC (.slice aP n cP) span code used) 62 (0,0))]) (fun op => match op with | .load _ _ => true | _ => false) [.n, .n, .b, .n, .n, .n, .n, .n, .n, .b, .z, .m] (by kernel_rfl) (by kernel_rfl) hO.drew.tail ?_
    dsimp only [zipF, zOf]
    replace hO := hO.drew
    generalize World.drew _ = wd at hO ⊢
    go_wp2_with (first
      | (((with_reducible refine gIL ?_); first | refine wpI_ldcS (fun w' hS => hS.blk 0 rfl) rfl rfl (tA rfl) rfl ?_); first | (refine wpI_act (by simp only [Act.put, List.setIfInBounds_toArray, List.set_cons_succ, List.set_cons_zero]; rfl) ?_) | skip)
      | ((with_reducible refine gAppendNil ?_); refine own_appendNil hO _ _ 59 ei64 rfl rfl (hO.rd HR.out) (i64s_one _) (by simp [maxLen]; omega) (by omega) ?_; clear hO; intro a1 c1 ww hO)
      | ((with_reducible refine gBld (T := 62) ?_); refine own_bld (rgC (.slice a1 n c1) span code used) (by kernel_rfl) ?_)
      | ((with_reducible refine gAlloc ?_); refine own_alloc hO _ _ irgz ?_; clear hO; intro xb ww hO)
      | ((with_reducible refine gStore ?_); first | (refine stX hO 0 rfl rfl rfl rfl rfl (tS rfl) ?_; clear hO; intro ww hO) | (refine stC hO 0 rfl rfl rfl (ltb rfl) rfl (tS rfl) ?_; clear hO; intro ww hO) | (refine stX hO 1 rfl rfl rfl rfl rfl (tS rfl) ?_; clear hO; intro ww hO) | (refine stC hO 1 rfl rfl rfl (ltb rfl) rfl (tS rfl) ?_; clear hO; intro ww hO))
      | ((with_reducible refine wpF_n ?_ ?_); exact hO.sub (by repeat first | exact List.Sublist.refl _ | apply List.Sublist.cons)) | ((with_reducible refine wpF_b ?_ ?_ ?_); exact hO.sub (by repeat first | exact List.Sublist.refl _ | apply List.Sublist.cons); dsimp only [List.map]) | ((with_reducible refine wpF_m ?_); dsimp only [List.map]) | ((with_reducible refine wpI_nilS ?_ ?_); exact hO.sub (by repeat first | exact List.Sublist.refl _ | apply List.Sublist.cons))
      | ((with_reducible refine gI ?_); refine wpI_step rfl rfl (by kernel_rfl) ?_; intro K hK; have HK := Lib.hid hK; clear hK) | ((with_reducible refine gI ?_); first | refine wpI_skip rfl ?_ | refine wpI_want rfl ?_) | ((with_reducible refine gOnlyK HK.out ?_ ?_); exact hO.sub (by repeat first | exact List.Sublist.refl _ | apply List.Sublist.cons); clear HK K; first | (refine wpI_act (by simp only [Act.put, List.setIfInBounds_toArray, List.set_cons_succ, List.set_cons_zero]; rfl) ?_) | skip) | (with_reducible refine wpI_nil ?_))
    all_goals
      (first | replace hO : Own wn _ [.blk xb (.cells (rgC (.slice a1 n c1) span code used) 62 (0,0)), .sl 3 1 (.slice a1 n c1) n (i64s r.p), .blk zb (.cells (rgC (.slice none 0 0) 0 0 0) 62 (0,0)), .blk rb (.cells (rgC (.slice aP n cP) span code used) 62 (0,0))] := hO | replace hO : Own wn _ [.blk xb (.cells (rgC (.slice a1 n c1) span code used) 62 (0,0)), .sl 3 1 (.slice a1 n c1) n (i64s r.p), .blk zb (.cells (rgC (.slice none 0 0) 0 0 0) 62 (0,0)), .blk rb (.cells (rgC (.slice aP n cP) span code used) 62 (0,0))] := hO.swap)
      obtain ⟨gP, rfl⟩ := hO.slPlace 1 rfl (by omega)
      replace hO : Own wn _ [.blk xb (.cells (rgC (.slice (some ⟨gP, 0, none⟩) n c1) span code used) 62 (0,0)), .sl 3 1 (.slice (some ⟨gP, 0, none⟩) n c1) n (i64s r.p), .blk zb (.cells (rgC (.slice none 0 0) 0 0 0) 62 (0,0)), .blk rb (.cells (rgC (.slice aP n cP) span code used) 62 (0,0))] := hO
      refine wp_region_textS (fun w' => Own wn w' [.blk xb (.cells (rgC (.slice (some ⟨gP, 0, none⟩) n c1) span code used) 62 (0,0)), .sl 3 1 (.slice (some ⟨gP, 0, none⟩) n c1) n (i64s r.p), .blk zb (.cells (rgC (.slice none 0 0) 0 0 0) 62 (0,0)), .blk rb (.cells (rgC (.slice aP n cP) span code used) 62 (0,0))]) (fun op => match op with | .load _ _ => true | _ => false) (by kernel_rfl) (by kernel_rfl) hO.drew ?_
      replace hO := hO.drew
      generalize World.drew _ = wd2 at hO ⊢
      go_wp2_with (first
        | (((with_reducible refine gIL ?_); first | refine wpI_ldcS (fun w' hS => hS.blk 0 rfl) rfl rfl (tA rfl) rfl ?_); first | (refine wpI_act (by simp only [Act.put, List.setIfInBounds_toArray, List.set_cons_succ, List.set_cons_zero]; rfl) ?_) | skip)
        | ((with_reducible refine gIL ?_); refine wpI_ld1S (fun w' hS => (hS.slCell 1 rfl (by omega)).trans HG.out) rfl rfl (tA rfl) ?_; first | (refine wpI_act (by simp only [Act.put, List.setIfInBounds_toArray, List.set_cons_succ, List.set_cons_zero]; rfl) ?_) | skip)
        | (go_at_call 47; refine (HSP.out _).mono ?_; rintro e ww ⟨rfl, rfl⟩)
        | ((with_reducible refine gLoad ?_); first | refine ldX hO 0 rfl rfl (tA rfl) (tS rfl) ?_ | refine ldC hO 0 rfl rfl (tA rfl) rfl ?_)
        | ((with_reducible refine gStore ?_); first | (refine stX hO 0 rfl rfl rfl rfl rfl (tS rfl) ?_; clear hO; intro ww hO) | (refine stC hO 0 rfl rfl rfl (ltb rfl) rfl (tS rfl) ?_; clear hO; intro ww hO))
        | ((with_reducible refine gI ?_); refine wpI_step rfl rfl (by kernel_rfl) ?_; intro K hK; have HK := Lib.hid hK; clear hK) | ((with_reducible refine gI ?_); first | refine wpI_skip rfl ?_ | refine wpI_want rfl ?_) | ((with_reducible refine gOnlyK HK.out ?_ ?_); exact hO; clear HK K; first | (refine wpI_act (by simp only [Act.put, List.setIfInBounds_toArray, List.set_cons_succ, List.set_cons_zero]; rfl) ?_) | skip) | (with_reducible refine wpI_nil ?_))
      replace hO : Own wn _ [.blk xb (.cells (rgC (.slice (some ⟨gP, 0, none⟩) n c1) Z C1 used) 62 (0,0)), .sl 3 1 (.slice (some ⟨gP, 0, none⟩) n c1) n (i64s r.p), .blk zb (.cells (rgC (.slice none 0 0) 0 0 0) 62 (0,0)), .blk rb (.cells (rgC (.slice aP n cP) span code used) 62 (0,0))] := hO
      refine wp_region_textS (fun w' => Own wn w' [.blk xb (.cells (rgC (.slice (some ⟨gP, 0, none⟩) n c1) Z C1 used) 62 (0,0))]) (fun op => match op with | .load _ (.tmp 68) => false | .load _ _ => true | _ => false) (by kernel_rfl) (by kernel_rfl) (hO.drew.only (by simp)) ?_
      replace hO := hO.drew
      generalize World.drew _ = wd3 at hO ⊢
      go_wp2_with (first
        | (((with_reducible refine gIL ?_); first | refine wpI_ldcS (fun w' hS => hS.blk 0 rfl) rfl rfl (tA rfl) rfl ?_); first | (refine wpI_act (by simp only [Act.put, List.setIfInBounds_toArray, List.set_cons_succ, List.set_cons_zero]; rfl) ?_) | skip)
        | ((with_reducible refine gLoad (T := 3) ?_); refine ld_sl hO 1 rfl rfl HG.out (tA rfl) ?_)
        | (go_at_call 49; refine (HLN.out _).mono ?_; rintro e ww ⟨rfl, rfl⟩)
        | ((with_reducible refine gStore (T := 3) ?_); refine own_setElem hO 1 3 _ _ _ rfl rfl rfl (by omega) ii64s rfl ?_; clear hO; intro ww hO)
        | ((with_reducible refine gI ?_); refine wpI_step rfl rfl (by kernel_rfl) ?_; intro K hK; have HK := Lib.hid hK; clear hK) | ((with_reducible refine gI ?_); first | refine wpI_skip rfl ?_ | refine wpI_want rfl ?_) | ((with_reducible refine gOnlyK HK.out ?_ ?_); exact hO.only (by simp); clear HK K; first | (refine wpI_act (by simp only [Act.put, List.setIfInBounds_toArray, List.set_cons_succ, List.set_cons_zero]; rfl) ?_) | skip) | (with_reducible refine wpI_nil ?_))
      replace hO : Own wn _ [.blk xb (.cells (rgC (.slice (some ⟨gP, 0, none⟩) n c1) Z C1 used) 62 (0,0)), .sl 3 1 (.slice (some ⟨gP, 0, none⟩) n c1) n ((i64s r.p).set a (.int .i64 (learnI pv true))), .blk zb (.cells (rgC (.slice none 0 0) 0 0 0) 62 (0,0)), .blk rb (.cells (rgC (.slice aP n cP) span code used) 62 (0,0))] := hO
      rw [HSET.out] at hO
      have d1 : decide ((Z : Int) < 16777216) = true := decide_eq_true (by have := HNO.out; omega)
      go_loopg [] 1 (fun q wr => q ≤ 1 ∧ Own wn wr [.blk xb (.cells (rgC (.slice (some ⟨gP, 0, none⟩) n c1) Z C1 used) 62 (0,0)), .sl 3 1 (.slice (some ⟨gP, 0, none⟩) n c1) n (i64s u.p), .blk zb (.cells (rgC (.slice none 0 0) 0 0 0) 62 (0,0)), .blk rb (.cells (rgC (.slice aP n cP) span code used) 62 (0,0))])
      case atStart => exact ⟨by omega, hO⟩
      case round =>
        obtain ⟨hq, hO1⟩ := hrel
        clear hO
        have hO := hO1
        clear hO1
        have d2 : decide ((m : Int) ≤ (used : Int)) = true := decide_eq_true (by have := HNO.out; omega)
        have d3 : decide (m ≤ used) = true := decide_eq_true (by have := HNO.out; omega)
        go_wp2_with (first
          | ((with_reducible refine gLoad ?_); first | refine ldX hO 0 rfl rfl (tA rfl) (tS rfl) ?_ | refine ldC hO 0 rfl rfl (tA rfl) rfl ?_))
        refine wp_region_text (by kernel_rfl) (by kernel_rfl) ?_
        replace hO := hO.drew
        generalize World.drew _ = wd4 at hO ⊢
        go_wp2_with (first
          | ((with_reducible refine gLoad ?_); first | refine ldX hO 0 rfl rfl (tA rfl) (tS rfl) ?_ | refine ldC hO 0 rfl rfl (tA rfl) rfl ?_ | refine ldX hO 1 rfl rfl (tA rfl) (tS rfl) ?_ | refine ldC hO 1 rfl rfl (tA rfl) rfl ?_ | refine ldX hO 2 rfl rfl (tA rfl) (tS rfl) ?_ | refine ldC hO 2 rfl rfl (tA rfl) rfl ?_ | refine ldX hO 3 rfl rfl (tA rfl) (tS rfl) ?_ | refine ldC hO 3 rfl rfl (tA rfl) rfl ?_)
          | ((with_reducible refine gStore ?_); first | (refine stX hO 0 rfl rfl rfl rfl rfl (tS rfl) ?_; clear hO; intro ww hO) | (refine stC hO 0 rfl rfl rfl (ltb rfl) rfl (tS rfl) ?_; clear hO; intro ww hO) | (refine stX hO 1 rfl rfl rfl rfl rfl (tS rfl) ?_; clear hO; intro ww hO) | (refine stC hO 1 rfl rfl rfl (ltb rfl) rfl (tS rfl) ?_; clear hO; intro ww hO) | (refine stX hO 2 rfl rfl rfl rfl rfl (tS rfl) ?_; clear hO; intro ww hO) | (refine stC hO 2 rfl rfl rfl (ltb rfl) rfl (tS rfl) ?_; clear hO; intro ww hO))
          | ((with_reducible refine gI ?_); refine wpI_step rfl rfl (by kernel_rfl) ?_; intro K hK; have HK := Lib.hid hK; clear hK) | ((with_reducible refine gI ?_); first | refine wpI_skip rfl ?_ | refine wpI_want rfl ?_) | ((with_reducible refine gOnlyK0 HK.out ?_); clear HK K; first | (refine wpI_act (by simp only [Act.put, List.setIfInBounds_toArray, List.set_cons_succ, List.set_cons_zero]; rfl) ?_) | skip) | (with_reducible refine wpI_nil ?_))
        refine bodyPost_ret (res_tct rfl _ _ zb 62 (rgC (.slice aP n cP) span code used) (0,0) _ rfl (hO.blk 2 rfl) Try.underlying62 rfl (irg _ _ _ _)) rfl ⟨rfl, hO.below⟩
  · have dP : decide (P ≤ code) = false := decide_eq_false hc
    have dP2 : decide ((P : Int) ≤ (code : Int)) = false := decide_eq_false (by omega)
    rw [dP] at hm1 hm2 hset
    simp only [Bool.false_eq_true, if_true, if_false] at hm1 hm2
    have HSET := Lib.hid hset
    have HLN := Lib.hid (hln false)
    have HBT : Hid (r.set a = false) := by show _ = _; rw [HBIT.out, dP]
    subst hm1
    subst hm2
    clear hset hln hc HBIT
    go_enter Try.func54, Try.ntmps54
    go_wp2_with (first
      | ((with_reducible refine gG ?_); refine wpList_want rfl ?_)
      | ((with_reducible refine gBox ?_); first | (refine bxA hO rfl ?_; clear hO; intro rb ww hO) | (refine bx1 hO rfl rfl ?_; clear hO; intro rb ww hO))
      | ((with_reducible refine gAlloc ?_); refine own_alloc hO _ _ irgz ?_; clear hO; intro zb ww hO)
      | ((with_reducible refine gLoad ?_); first | refine ldX hO 0 rfl rfl (tA rfl) (tS rfl) ?_ | refine ldC hO 0 rfl rfl (tA rfl) rfl ?_ | refine ldX hO 1 rfl rfl (tA rfl) (tS rfl) ?_ | refine ldC hO 1 rfl rfl (tA rfl) rfl ?_))
    replace hO : Own wn _ [.blk zb (.cells (rgC (.slice none 0 0) 0 0 0) 62 (0,0)), .blk rb (.cells (rgC (.slice aP n cP) span C1 used) 62 (0,0))] := hO
    refine wp_region_float (fun w' => Own wn w' [.blk rb (.cells (rgC (.slice aP n cP) span C1 used) 62 (0,0))]) (fun op => match op with | .load _ _ => true | _ => false) [.n, .n, .b, .n, .n, .n, .n, .n, .n, .b, .z, .m] (by kernel_rfl) (by kernel_rfl) hO.drew.tail ?_
    dsimp only [zipF, zOf]
    replace hO := hO.drew
    generalize World.drew _ = wd at hO ⊢
    go_wp2_with (first
      | (((with_reducible refine gIL ?_); first | refine wpI_ldcS (fun w' hS => hS.blk 0 rfl) rfl rfl (tA rfl) rfl ?_); first | (refine wpI_act (by simp only [Act.put, List.setIfInBounds_toArray, List.set_cons_succ, List.set_cons_zero]; rfl) ?_) | skip)
      | ((with_reducible refine gAppendNil ?_); refine own_appendNil hO _ _ 59 ei64 rfl rfl (hO.rd HR.out) (i64s_one _) (by simp [maxLen]; omega) (by omega) ?_; clear hO; intro a1 c1 ww hO)
      | ((with_reducible refine gBld (T := 62) ?_); refine own_bld (rgC (.slice a1 n c1) span C1 used) (by kernel_rfl) ?_)
      | ((with_reducible refine gAlloc ?_); refine own_alloc hO _ _ irgz ?_; clear hO; intro xb ww hO)
      | ((with_reducible refine gStore ?_); first | (refine stX hO 0 rfl rfl rfl rfl rfl (tS rfl) ?_; clear hO; intro ww hO) | (refine stC hO 0 rfl rfl rfl (ltb rfl) rfl (tS rfl) ?_; clear hO; intro ww hO) | (refine stX hO 1 rfl rfl rfl rfl rfl (tS rfl) ?_; clear hO; intro ww hO) | (refine stC hO 1 rfl rfl rfl (ltb rfl) rfl (tS rfl) ?_; clear hO; intro ww hO))
      | ((with_reducible refine wpF_n ?_ ?_); exact hO.sub (by repeat first | exact List.Sublist.refl _ | apply List.Sublist.cons)) | ((with_reducible refine wpF_b ?_ ?_ ?_); exact hO.sub (by repeat first | exact List.Sublist.refl _ | apply List.Sublist.cons); dsimp only [List.map]) | ((with_reducible refine wpF_m ?_); dsimp only [List.map]) | ((with_reducible refine wpI_nilS ?_ ?_); exact hO.sub (by repeat first | exact List.Sublist.refl _ | apply List.Sublist.cons))
      | ((with_reducible refine gI ?_); refine wpI_step rfl rfl (by kernel_rfl) ?_; intro K hK; have HK := Lib.hid hK; clear hK) | ((with_reducible refine gI ?_); first | refine wpI_skip rfl ?_ | refine wpI_want rfl ?_) | ((with_reducible refine gOnlyK HK.out ?_ ?_); exact hO.sub (by repeat first | exact List.Sublist.refl _ | apply List.Sublist.cons); clear HK K; first | (refine wpI_act (by simp only [Act.put, List.setIfInBounds_toArray, List.set_cons_succ, List.set_cons_zero]; rfl) ?_) | skip) | (with_reducible refine wpI_nil ?_))
    all_goals
      (first | replace hO : Own wn _ [.blk xb (.cells (rgC (.slice a1 n c1) span C1 used) 62 (0,0)), .sl 3 1 (.slice a1 n c1) n (i64s r.p), .blk zb (.cells (rgC (.slice none 0 0) 0 0 0) 62 (0,0)), .blk rb (.cells (rgC (.slice aP n cP) span C1 used) 62 (0,0))] := hO | replace hO : Own wn _ [.blk xb (.cells (rgC (.slice a1 n c1) span C1 used) 62 (0,0)), .sl 3 1 (.slice a1 n c1) n (i64s r.p), .blk zb (.cells (rgC (.slice none 0 0) 0 0 0) 62 (0,0)), .blk rb (.cells (rgC (.slice aP n cP) span C1 used) 62 (0,0))] := hO.swap)
      obtain ⟨gP, rfl⟩ := hO.slPlace 1 rfl (by omega)
      replace hO : Own wn _ [.blk xb (.cells (rgC (.slice (some ⟨gP, 0, none⟩) n c1) span C1 used) 62 (0,0)), .sl 3 1 (.slice (some ⟨gP, 0, none⟩) n c1) n (i64s r.p), .blk zb (.cells (rgC (.slice none 0 0) 0 0 0) 62 (0,0)), .blk rb (.cells (rgC (.slice aP n cP) span C1 used) 62 (0,0))] := hO
      refine wp_region_textS (fun w' => Own wn w' [.blk xb (.cells (rgC (.slice (some ⟨gP, 0, none⟩) n c1) span C1 used) 62 (0,0)), .sl 3 1 (.slice (some ⟨gP, 0, none⟩) n c1) n (i64s r.p), .blk zb (.cells (rgC (.slice none 0 0) 0 0 0) 62 (0,0)), .blk rb (.cells (rgC (.slice aP n cP) span C1 used) 62 (0,0))]) (fun op => match op with | .load _ _ => true | _ => false) (by kernel_rfl) (by kernel_rfl) hO.drew ?_
      replace hO := hO.drew
      generalize World.drew _ = wd2 at hO ⊢
      go_wp2_with (first
        | (((with_reducible refine gIL ?_); first | refine wpI_ldcS (fun w' hS => hS.blk 0 rfl) rfl rfl (tA rfl) rfl ?_); first | (refine wpI_act (by simp only [Act.put, List.setIfInBounds_toArray, List.set_cons_succ, List.set_cons_zero]; rfl) ?_) | skip)
        | ((with_reducible refine gIL ?_); refine wpI_ld1S (fun w' hS => (hS.slCell 1 rfl (by omega)).trans HG.out) rfl rfl (tA rfl) ?_; first | (refine wpI_act (by simp only [Act.put, List.setIfInBounds_toArray, List.set_cons_succ, List.set_cons_zero]; rfl) ?_) | skip)
        | (go_at_call 47; refine (HSP.out _).mono ?_; rintro e ww ⟨rfl, rfl⟩)
        | ((with_reducible refine gLoad ?_); first | refine ldX hO 0 rfl rfl (tA rfl) (tS rfl) ?_ | refine ldC hO 0 rfl rfl (tA rfl) rfl ?_)
        | ((with_reducible refine gStore ?_); first | (refine stX hO 0 rfl rfl rfl rfl rfl (tS rfl) ?_; clear hO; intro ww hO) | (refine stC hO 0 rfl rfl rfl (ltb rfl) rfl (tS rfl) ?_; clear hO; intro ww hO))
        | ((with_reducible refine gI ?_); refine wpI_step rfl rfl (by kernel_rfl) ?_; intro K hK; have HK := Lib.hid hK; clear hK) | ((with_reducible refine gI ?_); first | refine wpI_skip rfl ?_ | refine wpI_want rfl ?_) | ((with_reducible refine gOnlyK HK.out ?_ ?_); exact hO; clear HK K; first | (refine wpI_act (by simp only [Act.put, List.setIfInBounds_toArray, List.set_cons_succ, List.set_cons_zero]; rfl) ?_) | skip) | (with_reducible refine wpI_nil ?_))
      replace hO : Own wn _ [.blk xb (.cells (rgC (.slice (some ⟨gP, 0, none⟩) n c1) Z C1 used) 62 (0,0)), .sl 3 1 (.slice (some ⟨gP, 0, none⟩) n c1) n (i64s r.p), .blk zb (.cells (rgC (.slice none 0 0) 0 0 0) 62 (0,0)), .blk rb (.cells (rgC (.slice aP n cP) span C1 used) 62 (0,0))] := hO
      refine wp_region_textS (fun w' => Own wn w' [.blk xb (.cells (rgC (.slice (some ⟨gP, 0, none⟩) n c1) Z C1 used) 62 (0,0))]) (fun op => match op with | .load _ (.tmp 68) => false | .load _ _ => true | _ => false) (by kernel_rfl) (by kernel_rfl) (hO.drew.only (by simp)) ?_
      replace hO := hO.drew
      generalize World.drew _ = wd3 at hO ⊢
      go_wp2_with (first
        | (((with_reducible refine gIL ?_); first | refine wpI_ldcS (fun w' hS => hS.blk 0 rfl) rfl rfl (tA rfl) rfl ?_); first | (refine wpI_act (by simp only [Act.put, List.setIfInBounds_toArray, List.set_cons_succ, List.set_cons_zero]; rfl) ?_) | skip)
        | ((with_reducible refine gLoad (T := 3) ?_); refine ld_sl hO 1 rfl rfl HG.out (tA rfl) ?_)
        | (go_at_call 49; refine (HLN.out _).mono ?_; rintro e ww ⟨rfl, rfl⟩)
        | ((with_reducible refine gStore (T := 3) ?_); refine own_setElem hO 1 3 _ _ _ rfl rfl rfl (by omega) ii64s rfl ?_; clear hO; intro ww hO)
        | ((with_reducible refine gI ?_); refine wpI_step rfl rfl (by kernel_rfl) ?_; intro K hK; have HK := Lib.hid hK; clear hK) | ((with_reducible refine gI ?_); first | refine wpI_skip rfl ?_ | refine wpI_want rfl ?_) | ((with_reducible refine gOnlyK HK.out ?_ ?_); exact hO.only (by simp); clear HK K; first | (refine wpI_act (by simp only [Act.put, List.setIfInBounds_toArray, List.set_cons_succ, List.set_cons_zero]; rfl) ?_) | skip) | (with_reducible refine wpI_nil ?_))
      replace hO : Own wn _ [.blk xb (.cells (rgC (.slice (some ⟨gP, 0, none⟩) n c1) Z C1 used) 62 (0,0)), .sl 3 1 (.slice (some ⟨gP, 0, none⟩) n c1) n ((i64s r.p).set a (.int .i64 (learnI pv false))), .blk zb (.cells (rgC (.slice none 0 0) 0 0 0) 62 (0,0)), .blk rb (.cells (rgC (.slice aP n cP) span C1 used) 62 (0,0))] := hO
      rw [HSET.out] at hO
      have d1 : decide ((Z : Int) < 16777216) = true := decide_eq_true (by have := HNO.out; omega)
      go_loopg [] 1 (fun q wr => q ≤ 1 ∧ Own wn wr [.blk xb (.cells (rgC (.slice (some ⟨gP, 0, none⟩) n c1) Z C1 used) 62 (0,0)), .sl 3 1 (.slice (some ⟨gP, 0, none⟩) n c1) n (i64s u.p), .blk zb (.cells (rgC (.slice none 0 0) 0 0 0) 62 (0,0)), .blk rb (.cells (rgC (.slice aP n cP) span C1 used) 62 (0,0))])
      case atStart => exact ⟨by omega, hO⟩
      case round =>
        obtain ⟨hq, hO1⟩ := hrel
        clear hO
        have hO := hO1
        clear hO1
        have d2 : decide ((m : Int) ≤ (used : Int)) = true := decide_eq_true (by have := HNO.out; omega)
        have d3 : decide (m ≤ used) = true := decide_eq_true (by have := HNO.out; omega)
        go_wp2_with (first
          | ((with_reducible refine gLoad ?_); first | refine ldX hO 0 rfl rfl (tA rfl) (tS rfl) ?_ | refine ldC hO 0 rfl rfl (tA rfl) rfl ?_))
        refine wp_region_text (by kernel_rfl) (by kernel_rfl) ?_
        replace hO := hO.drew
        generalize World.drew _ = wd4 at hO ⊢
        go_wp2_with (first
          | ((with_reducible refine gLoad ?_); first | refine ldX hO 0 rfl rfl (tA rfl) (tS rfl) ?_ | refine ldC hO 0 rfl rfl (tA rfl) rfl ?_ | refine ldX hO 1 rfl rfl (tA rfl) (tS rfl) ?_ | refine ldC hO 1 rfl rfl (tA rfl) rfl ?_ | refine ldX hO 2 rfl rfl (tA rfl) (tS rfl) ?_ | refine ldC hO 2 rfl rfl (tA rfl) rfl ?_ | refine ldX hO 3 rfl rfl (tA rfl) (tS rfl) ?_ | refine ldC hO 3 rfl rfl (tA rfl) rfl ?_)
          | ((with_reducible refine gStore ?_); first | (refine stX hO 0 rfl rfl rfl rfl rfl (tS rfl) ?_; clear hO; intro ww hO) | (refine stC hO 0 rfl rfl rfl (ltb rfl) rfl (tS rfl) ?_; clear hO; intro ww hO) | (refine stX hO 1 rfl rfl rfl rfl rfl (tS rfl) ?_; clear hO; intro ww hO) | (refine stC hO 1 rfl rfl rfl (ltb rfl) rfl (tS rfl) ?_; clear hO; intro ww hO) | (refine stX hO 2 rfl rfl rfl rfl rfl (tS rfl) ?_; clear hO; intro ww hO) | (refine stC hO 2 rfl rfl rfl (ltb rfl) rfl (tS rfl) ?_; clear hO; intro ww hO))
          | ((with_reducible refine gI ?_); refine wpI_step rfl rfl (by kernel_rfl) ?_; intro K hK; have HK := Lib.hid hK; clear hK) | ((with_reducible refine gI ?_); first | refine wpI_skip rfl ?_ | refine wpI_want rfl ?_) | ((with_reducible refine gOnlyK0 HK.out ?_); clear HK K; first | (refine wpI_act (by simp only [Act.put, List.setIfInBounds_toArray, List.set_cons_succ, List.set_cons_zero]; rfl) ?_) | skip) | (with_reducible refine wpI_nil ?_))
        refine bodyPost_ret (res_tct rfl _ _ zb 62 (rgC (.slice aP n cP) span C1 used) (0,0) _ rfl (hO.blk 2 rfl) Try.underlying62 rfl (irg _ _ _ _)) rfl ⟨rfl, hO.below⟩
end Go.Proofs.Ytnkpjmcgecdkfaa

/- Walks: the document's tree, token. -/
namespace Go.Proofs.Ytnkpjmcgecdkfaa
open Go.RowKit Go.Own Go.Bv Go.Ord Go.Eq Go.Opn Go.Pb Go.Mt

/-- what the document's tree hands back -/
def treePost (w0 : World) (L : List Res) (p : Nat) (z : Option (Nat × Go.Kc.Rr)) (e : Ending) (w' : World) : Prop :=
  match z with
  | some (v, t) => ∃ a' c', e = .returned (.tuple #[.int .i64 ((v : Int) - (p : Int)), .agg (rgC (.slice a' 528 c') t.span t.code t.used), .bool true]) ∧ Own w0 w' (.sl 3 1 (.slice a' 528 c') 528 (i64s t.p) :: L)
  | none => ∃ a' c' s1 s2 s3, e = .returned (.tuple #[.int .i64 0, .agg (rgC (.slice a' 528 c') s1 s2 s3), .bool false]) ∧ Own w0 w' L

set_option maxHeartbeats 8000000 in
set_option maxRecDepth 100000 in
theorem rtree_calls {w0 w : World} {L : List Res} {aP : Option Addr} {cP : Nat} (b : List (BitVec 8)) (r : Go.Kc.Rr) (hr : Go.Kc.Rok 528 b r) (aB : Option Addr) (m cB : Nat) (hBR : Rd w0 1 aB m cB (u8s b)) (hm : m ≤ 10000000) (wide tree p : Nat) (hw : wide = 4 ∧ p = 16 ∨ wide = 8 ∧ p = 256) (htr : tree + p ≤ 528) (z : Option (Nat × Go.Kc.Rr)) (hz : Go.Pz.rn b tree wide 1 r = z)
    (hO : Own w0 w (.sl 3 1 (.slice aP 528 cP) 528 (i64s r.p) :: L)) :
    Calls Try.prog 55 #[.agg (rgC (.slice aP 528 cP) r.span r.code r.used), .slice aB m cB, .int .i64 (wide : Int), .int .i64 (tree : Int)] w (treePost w0 L p z) := by
  have hp2 : 2 ^ wide = p := by rcases hw with ⟨rfl, rfl⟩ | ⟨rfl, rfl⟩ <;> decide
  have hw8 : wide ≤ 8 := by omega
  have HM := Lib.hid hm
  have HZ := Lib.hid hz
  have HP := Lib.hid hp2
  have HRK := Lib.hid hr
  have HBR := Lib.hid hBR
  have hw2 := Lib.hid hw
  clear hm hz hp2 hr hBR hw
  go_enter Try.func55, Try.ntmps55
  go_wp2_with (first
    | ((with_reducible refine gBox ?_); first | (refine bxA hO rfl ?_; clear hO; intro rb ww hO) | (refine bx1 hO rfl rfl ?_; clear hO; intro rb ww hO))
    | ((with_reducible refine gAlloc ?_); refine own_alloc hO _ _ irgz ?_; clear hO; intro zb ww hO))
  go_loopg [11, 16] wide (fun mm s11 cc wr => ∃ (i node : Nat) (u : Go.Kc.Rr) (aQ : Option Addr) (cQ : Nat), mm = wide - i ∧ i ≤ wide ∧ s11 = .int .i64 (node : Int) ∧ cc = .int .i64 (i : Int) ∧ Hid (Go.Pz.rn b tree (wide - i) node u = z) ∧ Hid (2 ^ i ≤ node ∧ node < 2 ^ (i + 1)) ∧ Hid (Go.Kc.Rok 528 b u) ∧
    Own w0 wr (.blk zb (.cells (rgC (.slice none 0 0) 0 0 0) 62 (0,0)) :: .blk rb (.cells (rgC (.slice aQ 528 cQ) u.span u.code u.used) 62 (0,0)) :: .sl 3 1 (.slice aQ 528 cQ) 528 (i64s u.p) :: L))
  case atStart => exact ⟨0, 1, r, aP, cP, rfl, by omega, rfl, rfl, HZ.out, ⟨by decide, by decide⟩, HRK.out, hO⟩
  case round =>
    obtain ⟨i, node, u, aQ, cQ, rfl, hi, rfl, rfl, HU, HN, HK, hO1⟩ := hrel
    clear hO
    have hO := hO1
    clear hO1
    by_cases hlt : i < wide
    · have d1 : decide ((i : Int) < (wide : Int)) = true := decide_eq_true (by omega)
      have hn := HN.out.2
      have hnp : node < p := by
        rw [← HP.out]
        exact Nat.lt_of_lt_of_le hn (Nat.pow_le_pow_right (by decide) (by omega))
      have hp8 : p ≤ 256 := by have := hw2.out; omega
      obtain ⟨j, hj⟩ : ∃ j, wide - i = j + 1 := ⟨wide - i - 1, by omega⟩
      have hca : ((tree : Int) + (node : Int)) = ((tree + node : Nat) : Int) := by omega
      have HTN : Hid (tree + node < 528) := by show _ < _; omega
      rcases Go.Kc.nxtE_cases 528 b u ((tree + node : Nat) : Int) with h | ⟨h, a, ha, ha2, hno⟩ | ⟨h, hbad⟩
      · obtain ⟨k, e, hk, hmay⟩ := Go.Kc.nxtE_ok h
        obtain rfl : tree + node = k := by omega
        have hst := Go.Pz.rn_step (b := b) (tree := tree) (k := j) (node := node) (r := u) h
        rw [← hj, HU.out] at hst
        have HK2 : Hid (Go.Kc.Rok 528 b (u.next b (tree + node))) := Go.Pz.next_rok HK.out h
        obtain ⟨t, ht⟩ : ∃ t, u.next b (tree + node) = t := ⟨_, rfl⟩
        obtain ⟨sb, hsb⟩ : ∃ x, u.set (tree + node) = x := ⟨_, rfl⟩
        have HNX := Lib.hid (fun (w : World) hP hB => rnext_ok 528 (by omega) u b HK.out aQ cQ aB m cB w hP hB HM.out (tree + node) HTN.out hmay t ht)
        rw [hsb, ← hca] at HNX
        rw [ht, hsb] at hst
        rw [ht] at HK2
        obtain rfl : j = wide - (i + 1) := by omega
        have HN2 : Hid (2 ^ (i + 1) ≤ node * 2 + sb.toNat ∧ node * 2 + sb.toNat < 2 ^ (i + 1 + 1)) := by
          obtain ⟨n1, n2⟩ := HN.out
          have hx1 : sb.toNat < 2 := by cases sb <;> decide
          rw [Nat.pow_succ] at n2
          show _ ∧ _
          rw [Nat.pow_succ, Nat.pow_succ]
          generalize 2 ^ i = z at *
          omega
        have HST := Lib.hid hst
        clear ht hsb hst h e hk hmay HU HN hn hca hj
        cases sb
        · go_wp2_with (first
            | (go_at_call 54; refine (HNX.out _ (hO.rdAt 2 rfl) (hO.rd HBR.out)).mono ?_; rintro e ww ⟨a5, c5, rfl, hb, hr⟩; replace hO := hO.addRow hb hr; clear hb hr)
            | ((with_reducible refine gAlloc ?_); refine own_alloc hO _ _ irgz ?_; clear hO; intro nx ww hO)
            | ((with_reducible refine gLoad ?_); first | refine ldX hO 0 rfl rfl (tA rfl) (tS rfl) ?_ | refine ldC hO 0 rfl rfl (tA rfl) rfl ?_ | refine ldX hO 1 rfl rfl (tA rfl) (tS rfl) ?_ | refine ldC hO 1 rfl rfl (tA rfl) rfl ?_ | refine ldX hO 2 rfl rfl (tA rfl) (tS rfl) ?_ | refine ldC hO 2 rfl rfl (tA rfl) rfl ?_ | refine ldX hO 3 rfl rfl (tA rfl) (tS rfl) ?_ | refine ldC hO 3 rfl rfl (tA rfl) rfl ?_)
            | ((with_reducible refine gStore ?_); first | (refine stX hO 0 rfl rfl rfl rfl rfl (tS rfl) ?_; clear hO; intro ww hO) | (refine stC hO 0 rfl rfl rfl (ltb rfl) rfl (tS rfl) ?_; clear hO; intro ww hO) | (refine stX hO 1 rfl rfl rfl rfl rfl (tS rfl) ?_; clear hO; intro ww hO) | (refine stC hO 1 rfl rfl rfl (ltb rfl) rfl (tS rfl) ?_; clear hO; intro ww hO) | (refine stX hO 2 rfl rfl rfl rfl rfl (tS rfl) ?_; clear hO; intro ww hO) | (refine stC hO 2 rfl rfl rfl (ltb rfl) rfl (tS rfl) ?_; clear hO; intro ww hO) | (refine stX hO 3 rfl rfl rfl rfl rfl (tS rfl) ?_; clear hO; intro ww hO) | (refine stC hO 3 rfl rfl rfl (ltb rfl) rfl (tS rfl) ?_; clear hO; intro ww hO)))
          go_roundg (wide - (i + 1))
          case measure => omega
          case rel => exact ⟨i + 1, node * 2 + false.toNat, t, a5, c5, rfl, by omega, congrArg (Value.int .i64) (show (2 : Int) * node = ((node * 2 + 0 : Nat) : Int) by omega), by go_num, HST.out.symm, HN2.out, HK2.out, (hO.tail.sub (List.Sublist.cons_cons _ (List.Sublist.cons_cons _ (List.Sublist.cons_cons _ (List.Sublist.cons _ (List.Sublist.refl _)))))).rot3⟩
        · go_wp2_with (first
            | (go_at_call 54; refine (HNX.out _ (hO.rdAt 2 rfl) (hO.rd HBR.out)).mono ?_; rintro e ww ⟨a5, c5, rfl, hb, hr⟩; replace hO := hO.addRow hb hr; clear hb hr)
            | ((with_reducible refine gAlloc ?_); refine own_alloc hO _ _ irgz ?_; clear hO; intro nx ww hO)
            | ((with_reducible refine gLoad ?_); first | refine ldX hO 0 rfl rfl (tA rfl) (tS rfl) ?_ | refine ldC hO 0 rfl rfl (tA rfl) rfl ?_ | refine ldX hO 1 rfl rfl (tA rfl) (tS rfl) ?_ | refine ldC hO 1 rfl rfl (tA rfl) rfl ?_ | refine ldX hO 2 rfl rfl (tA rfl) (tS rfl) ?_ | refine ldC hO 2 rfl rfl (tA rfl) rfl ?_ | refine ldX hO 3 rfl rfl (tA rfl) (tS rfl) ?_ | refine ldC hO 3 rfl rfl (tA rfl) rfl ?_)
            | ((with_reducible refine gStore ?_); first | (refine stX hO 0 rfl rfl rfl rfl rfl (tS rfl) ?_; clear hO; intro ww hO) | (refine stC hO 0 rfl rfl rfl (ltb rfl) rfl (tS rfl) ?_; clear hO; intro ww hO) | (refine stX hO 1 rfl rfl rfl rfl rfl (tS rfl) ?_; clear hO; intro ww hO) | (refine stC hO 1 rfl rfl rfl (ltb rfl) rfl (tS rfl) ?_; clear hO; intro ww hO) | (refine stX hO 2 rfl rfl rfl rfl rfl (tS rfl) ?_; clear hO; intro ww hO) | (refine stC hO 2 rfl rfl rfl (ltb rfl) rfl (tS rfl) ?_; clear hO; intro ww hO) | (refine stX hO 3 rfl rfl rfl rfl rfl (tS rfl) ?_; clear hO; intro ww hO) | (refine stC hO 3 rfl rfl rfl (ltb rfl) rfl (tS rfl) ?_; clear hO; intro ww hO)))
          go_roundg (wide - (i + 1))
          case measure => omega
          case rel => exact ⟨i + 1, node * 2 + true.toNat, t, a5, c5, rfl, by omega, congrArg (Value.int .i64) (show (2 : Int) * node + 1 = ((node * 2 + 1 : Nat) : Int) by omega), by go_num, HST.out.symm, HN2.out, HK2.out, (hO.tail.sub (List.Sublist.cons_cons _ (List.Sublist.cons_cons _ (List.Sublist.cons_cons _ (List.Sublist.cons _ (List.Sublist.refl _)))))).rot3⟩
      · obtain rfl : tree + node = a := by omega
        have hst := Go.Pz.rn_stop (b := b) (tree := tree) (k := j) (node := node) (r := u) (by rw [h]; decide)
        rw [← hj, HU.out] at hst
        subst hst
        have HNX := Lib.hid (fun (w : World) hP hB => rnext_short 528 (by omega) u b HK.out aQ cQ aB m cB w hP hB HM.out (tree + node) HTN.out hno)
        rw [← hca] at HNX
        clear h hno ha2 ha HU HN HK hn hca hj HP HZ
        go_wp2_with (first
          | (go_at_call 54; refine (HNX.out _ (hO.rdAt 2 rfl) (hO.rd HBR.out)).mono ?_; rintro e ww ⟨rfl, hb⟩; replace hO := hO.call hb; clear hb)
          | ((with_reducible refine gAlloc ?_); refine own_alloc hO _ _ irgz ?_; clear hO; intro nx ww hO)
          | ((with_reducible refine gLoad ?_); first | refine ldX hO 0 rfl rfl (tA rfl) (tS rfl) ?_ | refine ldC hO 0 rfl rfl (tA rfl) rfl ?_ | refine ldX hO 1 rfl rfl (tA rfl) (tS rfl) ?_ | refine ldC hO 1 rfl rfl (tA rfl) rfl ?_ | refine ldX hO 2 rfl rfl (tA rfl) (tS rfl) ?_ | refine ldC hO 2 rfl rfl (tA rfl) rfl ?_ | refine ldX hO 3 rfl rfl (tA rfl) (tS rfl) ?_ | refine ldC hO 3 rfl rfl (tA rfl) rfl ?_)
          | ((with_reducible refine gStore ?_); first | (refine stX hO 0 rfl rfl rfl rfl rfl (tS rfl) ?_; clear hO; intro ww hO) | (refine stC hO 0 rfl rfl rfl (ltb rfl) rfl (tS rfl) ?_; clear hO; intro ww hO) | (refine stX hO 1 rfl rfl rfl rfl rfl (tS rfl) ?_; clear hO; intro ww hO) | (refine stC hO 1 rfl rfl rfl (ltb rfl) rfl (tS rfl) ?_; clear hO; intro ww hO) | (refine stX hO 2 rfl rfl rfl rfl rfl (tS rfl) ?_; clear hO; intro ww hO) | (refine stC hO 2 rfl rfl rfl (ltb rfl) rfl (tS rfl) ?_; clear hO; intro ww hO) | (refine stX hO 3 rfl rfl rfl rfl rfl (tS rfl) ?_; clear hO; intro ww hO) | (refine stC hO 3 rfl rfl rfl (ltb rfl) rfl (tS rfl) ?_; clear hO; intro ww hO)))
        refine wp_region_text (by kernel_rfl) (by kernel_rfl) ?_
        replace hO := hO.drew
        generalize World.drew _ = wd at hO ⊢
        go_wp2_with (first
          | ((with_reducible refine gLoad ?_); first | refine ldX hO 0 rfl rfl (tA rfl) (tS rfl) ?_ | refine ldC hO 0 rfl rfl (tA rfl) rfl ?_ | refine ldX hO 1 rfl rfl (tA rfl) (tS rfl) ?_ | refine ldC hO 1 rfl rfl (tA rfl) rfl ?_ | refine ldX hO 2 rfl rfl (tA rfl) (tS rfl) ?_ | refine ldC hO 2 rfl rfl (tA rfl) rfl ?_ | refine ldX hO 3 rfl rfl (tA rfl) (tS rfl) ?_ | refine ldC hO 3 rfl rfl (tA rfl) rfl ?_)
          | ((with_reducible refine gStore ?_); first | (refine stX hO 0 rfl rfl rfl rfl rfl (tS rfl) ?_; clear hO; intro ww hO) | (refine stC hO 0 rfl rfl rfl (ltb rfl) rfl (tS rfl) ?_; clear hO; intro ww hO) | (refine stX hO 1 rfl rfl rfl rfl rfl (tS rfl) ?_; clear hO; intro ww hO) | (refine stC hO 1 rfl rfl rfl (ltb rfl) rfl (tS rfl) ?_; clear hO; intro ww hO) | (refine stX hO 2 rfl rfl rfl rfl rfl (tS rfl) ?_; clear hO; intro ww hO) | (refine stC hO 2 rfl rfl rfl (ltb rfl) rfl (tS rfl) ?_; clear hO; intro ww hO) | (refine stX hO 3 rfl rfl rfl rfl rfl (tS rfl) ?_; clear hO; intro ww hO) | (refine stC hO 3 rfl rfl rfl (ltb rfl) rfl (tS rfl) ?_; clear hO; intro ww hO))
          | ((with_reducible refine gI ?_); refine wpI_step rfl rfl (by kernel_rfl) ?_; intro K hK; have HK := Lib.hid hK; clear hK) | ((with_reducible refine gI ?_); first | refine wpI_skip rfl ?_ | refine wpI_want rfl ?_) | ((with_reducible refine gOnlyK0 HK.out ?_); clear HK K; first | (refine wpI_act (by simp only [Act.put, List.setIfInBounds_toArray, List.set_cons_succ, List.set_cons_zero]; rfl) ?_) | skip) | (with_reducible refine wpI_nil ?_))
        refine bodyPost_ret (res_tct rfl _ _ zb 62 (rgC (.slice aQ 528 cQ) u.span u.code u.used) (0,0) _ rfl (hO.blk 1 rfl) Try.underlying62 rfl (irg _ _ _ _)) rfl ⟨aQ, cQ, _, _, _, rfl, (hO.sub (List.Sublist.cons _ (List.Sublist.cons _ (List.Sublist.cons _ (List.Sublist.cons _ (List.Sublist.refl _))))))⟩
      · exfalso; omega
    · obtain rfl : i = wide := by omega
      have d1 : decide ((i : Int) < (i : Int)) = false := decide_eq_false (by omega)
      have hu := HU.out
      rw [Nat.sub_self] at hu
      have hz : z = some (node, u) := by rw [← hu]; rfl
      subst hz
      have hh := hw2.out
      have hnb : node < 512 := Nat.lt_of_lt_of_le HN.out.2 (Nat.pow_le_pow_right (by decide) (by omega : i + 1 ≤ 9))
      clear HU HN HK HZ hu HP
      rcases hh with ⟨rfl, rfl⟩ | ⟨rfl, rfl⟩
      · go_wp2
        refine wp_region_text (by kernel_rfl) (by kernel_rfl) ?_
        replace hO := hO.drew
        generalize World.drew _ = wd at hO ⊢
        go_wp2_with (first
          | ((with_reducible refine gLoad ?_); first | refine ldX hO 0 rfl rfl (tA rfl) (tS rfl) ?_ | refine ldC hO 0 rfl rfl (tA rfl) rfl ?_ | refine ldX hO 1 rfl rfl (tA rfl) (tS rfl) ?_ | refine ldC hO 1 rfl rfl (tA rfl) rfl ?_)
          | ((with_reducible refine gStore ?_); first | (refine stX hO 0 rfl rfl rfl rfl rfl (tS rfl) ?_; clear hO; intro ww hO) | (refine stC hO 0 rfl rfl rfl (ltb rfl) rfl (tS rfl) ?_; clear hO; intro ww hO) | (refine stX hO 1 rfl rfl rfl rfl rfl (tS rfl) ?_; clear hO; intro ww hO) | (refine stC hO 1 rfl rfl rfl (ltb rfl) rfl (tS rfl) ?_; clear hO; intro ww hO))
          | ((with_reducible refine gI ?_); refine wpI_step rfl rfl (by kernel_rfl) ?_; intro K hK; have HK := Lib.hid hK; clear hK) | ((with_reducible refine gI ?_); first | refine wpI_skip rfl ?_ | refine wpI_want rfl ?_) | ((with_reducible refine gOnlyK0 HK.out ?_); clear HK K; first | (refine wpI_act (by simp only [Act.put, List.setIfInBounds_toArray, List.set_cons_succ, List.set_cons_zero]; rfl) ?_) | skip) | (with_reducible refine wpI_nil ?_))
        refine bodyPost_ret (res_tct rfl _ _ zb 62 (rgC (.slice aQ 528 cQ) u.span u.code u.used) (0,0) _ rfl (hO.blk 0 rfl) Try.underlying62 rfl (irg _ _ _ _)) rfl ⟨aQ, cQ, rfl, hO.tail.tail⟩
      · go_wp2
        refine wp_region_text (by kernel_rfl) (by kernel_rfl) ?_
        replace hO := hO.drew
        generalize World.drew _ = wd at hO ⊢
        go_wp2_with (first
          | ((with_reducible refine gLoad ?_); first | refine ldX hO 0 rfl rfl (tA rfl) (tS rfl) ?_ | refine ldC hO 0 rfl rfl (tA rfl) rfl ?_ | refine ldX hO 1 rfl rfl (tA rfl) (tS rfl) ?_ | refine ldC hO 1 rfl rfl (tA rfl) rfl ?_)
          | ((with_reducible refine gStore ?_); first | (refine stX hO 0 rfl rfl rfl rfl rfl (tS rfl) ?_; clear hO; intro ww hO) | (refine stC hO 0 rfl rfl rfl (ltb rfl) rfl (tS rfl) ?_; clear hO; intro ww hO) | (refine stX hO 1 rfl rfl rfl rfl rfl (tS rfl) ?_; clear hO; intro ww hO) | (refine stC hO 1 rfl rfl rfl (ltb rfl) rfl (tS rfl) ?_; clear hO; intro ww hO))
          | ((with_reducible refine gI ?_); refine wpI_step rfl rfl (by kernel_rfl) ?_; intro K hK; have HK := Lib.hid hK; clear hK) | ((with_reducible refine gI ?_); first | refine wpI_skip rfl ?_ | refine wpI_want rfl ?_) | ((with_reducible refine gOnlyK0 HK.out ?_); clear HK K; first | (refine wpI_act (by simp only [Act.put, List.setIfInBounds_toArray, List.set_cons_succ, List.set_cons_zero]; rfl) ?_) | skip) | (with_reducible refine wpI_nil ?_))
        refine bodyPost_ret (res_tct rfl _ _ zb 62 (rgC (.slice aQ 528 cQ) u.span u.code u.used) (0,0) _ rfl (hO.blk 0 rfl) Try.underlying62 rfl (irg _ _ _ _)) rfl ⟨aQ, cQ, rfl, hO.tail.tail⟩
end Go.Proofs.Ytnkpjmcgecdkfaa
