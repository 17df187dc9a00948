/- A region that draws its order and makes one variable anywhere in it ('alloc', next to calls): one walk in the order of the text, but that at each marked operation the variable is made now, or later. -/
import Derived.Test.YtekiloagckkneaaDoorO
namespace Go.Ord
open Go.RowKit

section
variable {P : Program} {ops : Array Oper} {Q : Exit → Act → World → Prop} {S : World → Prop} {st : Op → Bool}

/-! ### any order of the rest that the checks let -/
def waitsB (ops : Array Oper) (j i : Nat) (acc : List Nat) : Bool := ((ops[j]?).map fun o => o.after.toList.any fun e => Region.binds .any e && (e.on == i || acc.contains e.on)).getD false
def depsIn (ops : Array Oper) (i : Nat) (U : List Nat) : List Nat := U.foldl (fun acc j => if waitsB ops j i acc then acc ++ [j] else acc) []
/-- those of U behind i: each waits for i or for one of them; the others are apart -/
def freeB (P : Program) (st : Op → Bool) (ops : Array Oper) (i : Nat) (U : List Nat) (x : Option Nat) : Bool :=
  let D := depsIn ops i U
  (D.all fun j => U.contains j && waitsB ops j i D) &&
  (U.all fun j => D.contains j || x == some j || (match ops[i]?, ops[j]? with | some oi, some oj => oi.apart ops oj && compat (kindS P st oi.op) (kindS P st oj.op) | _, _ => false)) &&
  (!lastB ops || i + 1 == ops.size || D.contains (ops.size - 1))
/-- i may come, where U and i are what is left -/
def mayB (ops : Array Oper) (i : Nat) (U : List Nat) : Bool :=
  match ops[i]? with
  | some oi => oi.after.toList.all fun e => !Region.binds .any e || (decide (e.on < ops.size) && !(e.on == i) && !(U.contains e.on))
  | none => false

structure Left (ops : Array Oper) (listed : Array Bool) (U : List Nat) : Prop where
  size : listed.size = ops.size
  at' : ∀ j, j < ops.size → listed[j]? = some (decide (j ∉ U))
  nodup : U.Nodup
  lt : ∀ j ∈ U, j < ops.size
theorem Left.get {listed : Array Bool} {U : List Nat} (h : Left ops listed U) {j : Nat} (d : Bool) (hj : j < ops.size) : listed.getD j d = decide (j ∉ U) := by
  simp [Array.getD_eq_getD_getElem?, h.at' j hj]
theorem Left.perm {listed : Array Bool} {U V : List Nat} (h : Left ops listed U) (hp : U.Perm V) : Left ops listed V :=
  ⟨h.size, fun j hj => by rw [h.at' j hj]; congr 1; exact decide_eq_decide.2 (not_congr hp.mem_iff), hp.nodup_iff.1 h.nodup, fun j hj => h.lt j (hp.mem_iff.2 hj)⟩
theorem Left.done {listed : Array Bool} {i : Nat} {U : List Nat} (h : Left ops listed (i :: U)) : Left ops (listed.setIfInBounds i true) U := by
  have hi : i < ops.size := h.lt i List.mem_cons_self
  refine ⟨by simpa using h.size, fun j hj => ?_, (List.nodup_cons.1 h.nodup).2, fun j hj => h.lt j (List.mem_cons_of_mem _ hj)⟩
  rw [Array.getElem?_setIfInBounds]
  by_cases hij : i = j
  · subst hij
    rw [if_pos rfl, if_pos (by rw [h.size]; exact hi)]
    have := (List.nodup_cons.1 h.nodup).1
    simp [this]
  · rw [if_neg hij, h.at' j hj]
    congr 1
    apply decide_eq_decide.2
    simp [List.mem_cons, Ne.symm hij]
theorem Left.ready {listed : Array Bool} {i : Nat} {U : List Nat} (h : Left ops listed (i :: U)) (hm : mayB ops i U = true) : i ∈ Region.ready .any ops listed := by
  have hi : i < ops.size := h.lt i List.mem_cons_self
  unfold mayB at hm
  have ho : ops[i]? = some ops[i] := Array.getElem?_eq_getElem hi
  rw [ho] at hm
  rw [mem_ready]
  refine ⟨by rw [h.get true hi]; simp, ops[i], ho, fun e hem hb => ?_⟩
  have := List.all_eq_true.1 hm e (by simpa using hem)
  simp only [hb, Bool.not_true, Bool.false_or, Bool.and_eq_true, decide_eq_true_eq, Bool.not_eq_true', beq_eq_false_iff_ne, ne_eq, List.contains_eq_mem] at this
  obtain ⟨⟨h1, h2⟩, h3⟩ := this
  rw [h.get false h1]
  have h4 : e.on ∉ U := by simpa using h3
  simp [List.mem_cons, h2, h4]
theorem Left.mem {listed : Array Bool} {U : List Nat} (h : Left ops listed U) {j : Nat} (hj : j ∈ Region.ready .any ops listed) : j ∈ U := by
  obtain ⟨h0, o, ho, _⟩ := mem_ready.1 hj
  have hlt : j < ops.size := (Array.getElem?_eq_some_iff.1 ho).1
  rw [h.get true hlt] at h0
  simpa using h0
theorem freeB_D {i : Nat} {U : List Nat} {x : Option Nat} (hf : freeB P st ops i U x = true) :
    (∀ j ∈ depsIn ops i U, ∀ oj, ops[j]? = some oj → ∃ e ∈ oj.after, Region.binds .any e = true ∧ (e.on = i ∨ e.on ∈ depsIn ops i U)) ∧ (∀ j ∈ depsIn ops i U, j ∈ U) ∧ (lastB ops = true → ∀ j, j + 1 = ops.size → j ≠ i → j ∈ depsIn ops i U) ∧
    ∀ j ∈ U, j ∉ depsIn ops i U → x ≠ some j → ∀ oi oj, ops[i]? = some oi → ops[j]? = some oj → oi.apart ops oj = true ∧ compat (kindS P st oi.op) (kindS P st oj.op) = true := by
  unfold freeB at hf
  simp only [Bool.and_eq_true] at hf
  obtain ⟨⟨h1, h2⟩, h3⟩ := hf
  refine ⟨fun j hj oj hoj => ?_, fun j hj => ?_, fun hl j hjs hji => ?_, fun j hj hjD hx oi oj hoi hoj => ?_⟩
  · have := List.all_eq_true.1 h1 j hj
    simp only [Bool.and_eq_true, waitsB, hoj, Option.map_some, Option.getD_some, List.any_eq_true, Bool.or_eq_true, beq_iff_eq, List.contains_iff_mem] at this
    obtain ⟨_, e, he1, he2, he3⟩ := this
    exact ⟨e, by simpa using he1, he2, he3⟩
  · have := List.all_eq_true.1 h1 j hj
    simp only [Bool.and_eq_true, List.contains_iff_mem] at this
    exact this.1
  · simp only [hl, Bool.not_true, Bool.false_or, Bool.or_eq_true, beq_iff_eq, List.contains_iff_mem] at h3
    rcases h3 with h | h
    · omega
    · rwa [show j = ops.size - 1 by omega]
  · have := List.all_eq_true.1 h2 j hj
    simp only [Bool.or_eq_true, List.contains_iff_mem, beq_iff_eq, hoi, hoj, Bool.and_eq_true] at this
    rcases this with (h | h) | h
    · exact absurd h hjD
    · exact absurd h hx
    · exact h

def okL (P : Program) (st : Op → Bool) (ops : Array Oper) : List Nat → Bool
  | [] => true
  | i :: r => mayB ops i r && freeB P st ops i r none && (!(r.isEmpty) || !lastB ops || i + 1 == ops.size) && okL P st ops r

theorem any_plan (hsel : ∀ (j : Nat) (o : Oper) cs b, ops[j]? = some o → o.op ≠ .select cs b) : ∀ (L : List Nat) (l : List Oper) (listed : Array Bool) (a : Act) (w : World), okL P st ops L = true → S w → L.map (fun i => ops[i]?) = l.map some → Left ops listed L →
    wpI P ops S st Q l a w → wpAnyI P ops S st Q L.length listed a w
  | [], l, listed, a, w, _, _, hl, hL, h => by
    have : l = [] := by cases l with | nil => rfl | cons _ _ => simp at hl
    subst this
    refine ⟨?_, h⟩
    rw [List.eq_nil_iff_forall_not_mem]
    intro j hj
    have := hL.mem hj
    cases this
  | i :: r, l, listed, a, w, hok, hS, hl, hL, h => by
    obtain ⟨o, l', rfl⟩ : ∃ o l', l = o :: l' := by cases l with | nil => simp at hl | cons o l' => exact ⟨o, l', rfl⟩
    simp only [List.map_cons, List.cons.injEq] at hl
    obtain ⟨h0, hl⟩ := hl
    unfold okL at hok
    simp only [Bool.and_eq_true] at hok
    obtain ⟨⟨⟨hm, hf⟩, hlast⟩, hr⟩ := hok
    have hready := hL.ready hm
    rcases h with h | ⟨hnil, hlb, _, h⟩
    case inr =>
      have hrn : r = [] := by cases r with | nil => rfl | cons _ _ => rw [hnil] at hl; simp at hl
      subst hrn
      simp only [List.isEmpty_nil, Bool.not_true, Bool.false_or, hlb, beq_iff_eq] at hlast
      refine ⟨fun hr => (by rw [hr] at hready; cases hready), fun j hj => ?_⟩
      have := hL.mem hj
      simp only [List.mem_singleton] at this
      subst this
      refine ⟨o, h0, .inr ⟨hlast, hlb, ?_, h⟩⟩
      rw [List.eq_nil_iff_forall_not_mem]
      intro k hk
      have := hL.done.mem hk
      cases this
    obtain ⟨d1, d2, d3, d4⟩ := freeB_D hf
    refine any_first h0 hsel (depsIn ops i r) d1 d3 r.length listed a w hS ?_ ?_ hready ?_
    · intro j oj hoj hji hun hjD
      have hjlt : j < ops.size := (Array.getElem?_eq_some_iff.1 hoj).1
      rw [hL.get true hjlt] at hun
      have hjU : j ∈ i :: r := Decidable.not_not.1 (of_decide_eq_false hun)
      rcases List.mem_cons.1 hjU with e | hjr
      · exact absurd e hji
      · exact d4 j hjr hjD (by simp) o oj h0 hoj
    · intro j hj
      have hjr := d2 j hj
      rw [hL.get false (hL.lt j (List.mem_cons_of_mem _ hjr))]
      simp [hjr]
    · exact opI_mono hS (fun a' w' hS' hk' => any_plan hsel r l' _ a' w' hr hS' hl hL.done hk') h

/-- two that may come first, everything else apart from both -/
theorem any_first2 {i z : Nat} {oi oz : Oper} (hi : ops[i]? = some oi) (hz : ops[z]? = some oz) (hsel : ∀ (j : Nat) (o : Oper) cs b, ops[j]? = some o → o.op ≠ .select cs b) (D : List Nat)
    (hD : ∀ j ∈ D, ∀ oj, ops[j]? = some oj → ∃ e ∈ oj.after, Region.binds .any e = true ∧ (e.on = i ∨ e.on = z ∨ e.on ∈ D))
    (hlast : lastB ops = true → ∀ j, j + 1 = ops.size → j ≠ i → j ≠ z → j ∈ D) :
    ∀ (fuel : Nat) (listed : Array Bool) (a : Act) (w : World), S w →
      (∀ j oj, ops[j]? = some oj → j ≠ i → j ≠ z → listed.getD j true = false → j ∉ D → (oi.apart ops oj = true ∧ compat (kindS P st oi.op) (kindS P st oj.op) = true) ∧ (oz.apart ops oj = true ∧ compat (kindS P st oz.op) (kindS P st oj.op) = true) ∧ quietK (kindS P st oj.op) = true) →
      (∀ j ∈ D, listed.getD j false = false) →
      i ∈ Region.ready .any ops listed → z ∈ Region.ready .any ops listed →
      opI P ops S st Q oi (wpAnyI P ops S st Q fuel (listed.setIfInBounds i true)) a w → opI P ops S st Q oz (wpAnyI P ops S st Q fuel (listed.setIfInBounds z true)) a w → wpAnyI P ops S st Q (fuel + 1) listed a w := by
  intro fuel
  induction fuel with
  | zero =>
    intro listed a w hS _ _ hr hrz H Hz
    refine ⟨fun h => (by rw [h] at hr; cases hr), fun j hj => ?_⟩
    by_cases hji : j = i
    · subst hji; exact ⟨oi, hi, .inl H⟩
    · have h0 := ready_mono hj hji
      obtain ⟨_, _, _, _, hK⟩ := opI_some hS H
      rw [hK.1] at h0
      cases h0
  | succ fuel ih =>
    intro listed a w hS hfree hDl hr hrz H Hz
    refine ⟨fun h => (by rw [h] at hr; cases hr), fun j hj => ?_⟩
    by_cases hji : j = i
    · subst hji; exact ⟨oi, hi, .inl H⟩
    by_cases hjz : j = z
    · subst hjz; exact ⟨oz, hz, .inl Hz⟩
    obtain ⟨hjun, oj, hoj, hall⟩ := mem_ready.1 hj
    have hun : ∀ {k}, k ∈ Region.ready .any ops listed → listed.getD k false = true → False := fun {k} hk h1 => by
      have h0 := (mem_ready.1 hk).1
      rcases Nat.lt_or_ge k listed.size with h' | h'
      · simp [h'] at h0 h1; rw [h0] at h1; cases h1
      · simp [Array.getElem?_eq_none h'] at h1
    have hjD : j ∉ D := fun hm => by
      obtain ⟨e, he, hb, h⟩ := hD j hm oj hoj
      have h1 := hall e he hb
      rcases h with h | h | h
      · rw [h] at h1; exact hun hr h1
      · rw [h] at h1; exact hun hrz h1
      · rw [hDl _ h] at h1; cases h1
    obtain ⟨⟨hap, hco⟩, ⟨hapz, hcoz⟩, hq⟩ := hfree j oj hoj hji hjz hjun hjD
    have step : ∀ {k : Nat} {ok : Oper}, ops[k]? = some ok → j ≠ k → ok.apart ops oj = true → compat (kindS P st ok.op) (kindS P st oj.op) = true → opI P ops S st Q ok (wpAnyI P ops S st Q (fuel + 1) (listed.setIfInBounds k true)) a w →
        opI P ops S st Q oj (opI P ops S st Q ok (wpAnyI P ops S st Q fuel ((listed.setIfInBounds j true).setIfInBounds k true))) a w := by
      intro k ok hk hjk hap hco Hk
      have hstep : opI P ops S st Q ok (opI P ops S st Q oj (wpAnyI P ops S st Q fuel ((listed.setIfInBounds k true).setIfInBounds j true))) a w := by
        refine opI_mono hS (fun a' w' _ hk' => ?_) Hk
        obtain ⟨oj', hoj', h⟩ := hk'.2 j (ready_mono hj hjk)
        rw [hoj] at hoj'
        obtain rfl := Option.some.inj hoj'
        rcases h with h | ⟨hjs, hlb, _, _⟩
        · exact h
        · exact (hjD (hlast hlb j hjs hji hjz)).elim
      have := swap hap (fun cs b => hsel k ok cs b hk) (fun cs b => hsel j oj cs b hoj) hco hS hstep
      rwa [Array.setIfInBounds_comm _ _ (Ne.symm hjk)] at this
    obtain ⟨v, hg, k1⟩ := gives_of (quietK_spec hq) (step hi hji hap hco H)
    obtain ⟨v', hg', k2⟩ := gives_of (quietK_spec hq) (step hz hjz hapz hcoz Hz)
    obtain rfl := hg.unique hS hg'
    refine ⟨oj, hoj, .inl (hg.opI hS ?_)⟩
    refine ih (listed.setIfInBounds j true) _ w hS ?_ ?_ (ready_mono hr (Ne.symm hji)) (ready_mono hrz (Ne.symm hjz)) k1 k2
    · intro k ok hk' hki hkz hun' hkD
      refine hfree k ok hk' hki hkz ?_ hkD
      by_cases hjk : j = k
      · subst hjk; exact hjun
      · rw [getD_set_ne true hjk] at hun'; exact hun'
    · intro k hk'
      have hjk : j ≠ k := fun h => hjD (h ▸ hk')
      rw [getD_set_ne false hjk]; exact hDl k hk'

/-! ### the walk with one that may come early -/
inductive Fl where
  | n | b | m | z
/-- 'n': ahead of it the variable is not made; 'b': it is made now, or later; 'm': it is made now -/
def wpF (P : Program) (ops : Array Oper) (S : World → Prop) (st : Op → Bool) (Q : Exit → Act → World → Prop) (oz : Oper) : List (Fl × Oper) → Act → World → Prop
  | [], a, w => wpI P ops S st Q [oz] a w
  | (.n, o) :: r, a, w => opI P ops S st Q o (wpF P ops S st Q oz r) a w
  | (.b, o) :: r, a, w => opI P ops S st Q oz (wpI P ops S st Q (o :: r.map Prod.snd)) a w ∧ opI P ops S st Q o (wpF P ops S st Q oz r) a w
  | (_, o) :: r, a, w => opI P ops S st Q oz (wpI P ops S st Q (o :: r.map Prod.snd)) a w

def okF (P : Program) (st : Op → Bool) (ops : Array Oper) (z : Nat) : List (Fl × Nat) → Bool
  | [] => okL P st ops [z]
  | (f, i) :: r =>
    let R := r.map Prod.snd
    match f with
    | .n => mayB ops i (z :: R) && freeB P st ops i (z :: R) none && okF P st ops z r
    | .b => mayB ops i (z :: R) && mayB ops z (i :: R) && okL P st ops (i :: R) && okF P st ops z r &&
        (let D := depsIn ops i R ++ depsIn ops z R
         (D.all fun j => R.contains j) && ((depsIn ops i R).all fun j => waitsB ops j i (depsIn ops i R)) && ((depsIn ops z R).all fun j => waitsB ops j z (depsIn ops z R)) &&
         (!lastB ops || i + 1 == ops.size || z + 1 == ops.size || D.contains (ops.size - 1)) &&
         R.all fun j => D.contains j || match ops[i]?, ops[z]?, ops[j]? with
           | some oi, some oz, some oj => oi.apart ops oj && compat (kindS P st oi.op) (kindS P st oj.op) && oz.apart ops oj && compat (kindS P st oz.op) (kindS P st oj.op) && quietK (kindS P st oj.op)
           | _, _, _ => false)
    | _ => okL P st ops (z :: i :: R)

theorem float_lex (hsel : ∀ (j : Nat) (o : Oper) cs b, ops[j]? = some o → o.op ≠ .select cs b) {z : Nat} {oz : Oper} (hz : ops[z]? = some oz) : ∀ (F : List (Fl × Nat)) (fl : List (Fl × Oper)) (listed : Array Bool) (a : Act) (w : World), okF P st ops z F = true → S w →
    F.map (fun x => (x.1, ops[x.2]?)) = fl.map (fun x => (x.1, some x.2)) → Left ops listed (z :: F.map Prod.snd) → wpF P ops S st Q oz fl a w → wpAnyI P ops S st Q (F.length + 1) listed a w
  | [], fl, listed, a, w, hok, hS, hl, hL, h => by
    have : fl = [] := by cases fl with | nil => rfl | cons _ _ => simp at hl
    subst this
    exact any_plan hsel [z] [oz] listed a w hok hS (by simp [hz]) hL h
  | (f, i) :: r, fl, listed, a, w, hok, hS, hl, hL, h => by
    obtain ⟨⟨f', o⟩, fl', rfl⟩ : ∃ o l', fl = o :: l' := by cases fl with | nil => simp at hl | cons o l' => exact ⟨o, l', rfl⟩
    simp only [List.map_cons, List.cons.injEq, Prod.mk.injEq] at hl
    obtain ⟨⟨rfl, h0⟩, hl⟩ := hl
    have hlm : (r.map Prod.snd).map (fun i => ops[i]?) = (fl'.map Prod.snd).map some := by
      have := congrArg (List.map Prod.snd) hl
      simpa [List.map_map, Function.comp_def] using this
    have hLp : Left ops listed (i :: z :: r.map Prod.snd) := hL.perm (List.Perm.swap _ _ _)
    have hlen : (z :: i :: r.map Prod.snd).length = ((f, i) :: r).length + 1 := by simp
    have must : okL P st ops (z :: i :: r.map Prod.snd) = true → opI P ops S st Q oz (wpI P ops S st Q (o :: fl'.map Prod.snd)) a w → wpAnyI P ops S st Q (((f, i) :: r).length + 1) listed a w := fun hok h => by
      rw [← hlen]
      exact any_plan hsel (z :: i :: r.map Prod.snd) (oz :: o :: fl'.map Prod.snd) listed a w hok hS (by simp only [List.map_cons, hz, h0, hlm]) hL (.inl h)
    cases f with
    | n =>
      simp only [okF, Bool.and_eq_true] at hok
      obtain ⟨⟨hm, hf⟩, hr⟩ := hok
      have h : opI P ops S st Q o (wpF P ops S st Q oz fl') a w := h
      obtain ⟨d1, d2, d3, d4⟩ := freeB_D hf
      refine any_first h0 hsel (depsIn ops i (z :: r.map Prod.snd)) d1 d3 (r.length + 1) listed a w hS ?_ ?_ (hLp.ready hm) ?_
      · intro j oj hoj hji hun hjD
        have hjlt : j < ops.size := (Array.getElem?_eq_some_iff.1 hoj).1
        rw [hLp.get true hjlt] at hun
        have hjU : j ∈ i :: z :: r.map Prod.snd := Decidable.not_not.1 (of_decide_eq_false hun)
        rcases List.mem_cons.1 hjU with e | hjr
        · exact absurd e hji
        · exact d4 j hjr hjD (by simp) o oj h0 hoj
      · intro j hj
        have hjr := d2 j hj
        rw [hLp.get false (hLp.lt j (List.mem_cons_of_mem _ hjr))]
        have : j ∈ i :: z :: r.map Prod.snd := List.mem_cons_of_mem _ hjr
        simp only [this, not_true_eq_false, decide_false]
      · exact opI_mono hS (fun a' w' hS' hk' => float_lex hsel hz r fl' _ a' w' hr hS' hl hLp.done hk') h
    | b =>
      simp only [okF, Bool.and_eq_true] at hok
      obtain ⟨⟨⟨⟨hm, hmz⟩, hkl⟩, hr⟩, ⟨⟨⟨⟨c1, c2⟩, c3⟩, c4⟩, c5⟩⟩ := hok
      obtain ⟨ha, hb⟩ : opI P ops S st Q oz (wpI P ops S st Q (o :: fl'.map Prod.snd)) a w ∧ opI P ops S st Q o (wpF P ops S st Q oz fl') a w := h
      have hDin : ∀ j ∈ depsIn ops i (r.map Prod.snd) ++ depsIn ops z (r.map Prod.snd), j ∈ r.map Prod.snd := fun j hj => by
        have := List.all_eq_true.1 c1 j hj
        simpa using this
      refine any_first2 h0 hz hsel (depsIn ops i (r.map Prod.snd) ++ depsIn ops z (r.map Prod.snd)) ?_ ?_ (r.length + 1) listed a w hS ?_ ?_ (hLp.ready hm) (hL.ready hmz) ?_ ?_
      · intro j hj oj hoj
        rcases List.mem_append.1 hj with hj | hj
        · have := List.all_eq_true.1 c2 j hj
          simp only [waitsB, hoj, Option.map_some, Option.getD_some, List.any_eq_true, Bool.and_eq_true, Bool.or_eq_true, beq_iff_eq, List.contains_iff_mem] at this
          obtain ⟨e, he1, he2, he3⟩ := this
          exact ⟨e, by simpa using he1, he2, he3.elim .inl fun h => .inr (.inr (List.mem_append_left _ h))⟩
        · have := List.all_eq_true.1 c3 j hj
          simp only [waitsB, hoj, Option.map_some, Option.getD_some, List.any_eq_true, Bool.and_eq_true, Bool.or_eq_true, beq_iff_eq, List.contains_iff_mem] at this
          obtain ⟨e, he1, he2, he3⟩ := this
          exact ⟨e, by simpa using he1, he2, he3.elim (fun h => .inr (.inl h)) fun h => .inr (.inr (List.mem_append_right _ h))⟩
      · intro hlb j hjs hji hjz
        simp only [hlb, Bool.not_true, Bool.false_or, Bool.or_eq_true, beq_iff_eq, List.contains_iff_mem] at c4
        rcases c4 with (h | h) | h
        · omega
        · omega
        · rwa [show j = ops.size - 1 by omega]
      · intro j oj hoj hji hjz hun hjD
        have hjlt : j < ops.size := (Array.getElem?_eq_some_iff.1 hoj).1
        rw [hLp.get true hjlt] at hun
        have hjU : j ∈ i :: z :: r.map Prod.snd := Decidable.not_not.1 (of_decide_eq_false hun)
        have hjr : j ∈ r.map Prod.snd := by
          rcases List.mem_cons.1 hjU with e | hjr
          · exact absurd e hji
          · rcases List.mem_cons.1 hjr with e | hjr
            · exact absurd e hjz
            · exact hjr
        have := List.all_eq_true.1 c5 j hjr
        simp only [Bool.or_eq_true, List.contains_iff_mem, h0, hz, hoj, Bool.and_eq_true] at this
        rcases this with h | h
        · exact absurd h hjD
        · exact ⟨⟨h.1.1.1.1, h.1.1.1.2⟩, ⟨h.1.1.2, h.1.2⟩, h.2⟩
      · intro j hj
        have hjr := hDin j hj
        rw [hLp.get false (hLp.lt j (List.mem_cons_of_mem _ (List.mem_cons_of_mem _ hjr)))]
        have : j ∈ i :: z :: r.map Prod.snd := List.mem_cons_of_mem _ (List.mem_cons_of_mem _ hjr)
        simp only [this, not_true_eq_false, decide_false]
      · exact opI_mono hS (fun a' w' hS' hk' => float_lex hsel hz r fl' _ a' w' hr hS' hl hLp.done hk') hb
      · have hlen2 : (i :: r.map Prod.snd).length = r.length + 1 := by simp
        rw [← hlen2]
        exact opI_mono hS (fun a' w' hS' hk' => any_plan hsel (i :: r.map Prod.snd) (o :: fl'.map Prod.snd) _ a' w' hkl hS' (by simp only [List.map_cons, h0, hlm]) hL.done hk') ha
    | m => exact must hok h
    | z => exact must hok h

/-! ### from the text -/
def zipF : List Fl → List Oper → List (Fl × Oper)
  | .z :: fs, _ :: os => zipF fs os
  | .n :: fs, o :: os => (.n, o) :: zipF fs os
  | .b :: fs, o :: os => (.b, o) :: zipF fs os
  | .m :: fs, o :: os => (.m, o) :: zipF fs os
  | [], _ => []
  | _ :: _, [] => []
def idxF : Nat → List Fl → List (Fl × Nat)
  | k, .z :: fs => idxF (k + 1) fs
  | k, .n :: fs => (.n, k) :: idxF (k + 1) fs
  | k, .b :: fs => (.b, k) :: idxF (k + 1) fs
  | k, .m :: fs => (.m, k) :: idxF (k + 1) fs
  | _, [] => []
def zAt : Nat → List Fl → Nat
  | k, .z :: _ => k
  | k, _ :: fs => zAt (k + 1) fs
  | k, [] => k
def zOf : List Fl → List Oper → Oper
  | .z :: _, o :: _ => o
  | .n :: fs, _ :: os => zOf fs os
  | .b :: fs, _ :: os => zOf fs os
  | .m :: fs, _ :: os => zOf fs os
  | _, _ => { dst := none, op := .move (.tmp 0), type := 0, pos := "", after := #[], guard := none }
def okFl (P : Program) (st : Op → Bool) (ops : Array Oper) (fs : List Fl) : Bool :=
  Region.noSelect ops && okF P st ops (zAt 0 fs) (idxF 0 fs) && decide (zAt 0 fs < ops.size) && decide (fs.length = ops.size) && (decide ((zAt 0 fs :: (idxF 0 fs).map Prod.snd).Nodup)) &&
  ((List.range ops.size).all fun j => (zAt 0 fs :: (idxF 0 fs).map Prod.snd).contains j) && decide ((idxF 0 fs).length + 1 = ops.size) && ((zAt 0 fs :: (idxF 0 fs).map Prod.snd).all fun j => decide (j < ops.size))

theorem idx_zip : ∀ (k : Nat) (fs : List Fl) (os : List Oper) (ops : Array Oper), fs.length = os.length → (∀ j, os[j]? = ops[k + j]?) → (idxF k fs).map (fun x => (x.1, ops[x.2]?)) = (zipF fs os).map (fun x => (x.1, some x.2))
  | _, [], _, _, _, _ => rfl
  | k, f :: fs, [], _, h, _ => by simp at h
  | k, f :: fs, o :: os, ops, h, hl => by
    have ih := idx_zip (k + 1) fs os ops (by simpa using h) (fun j => by have := hl (j + 1); simpa [Nat.add_assoc, Nat.add_comm 1 j] using this)
    have h0 : ops[k]? = some o := by simpa using (hl 0).symm
    cases f with
    | z => exact ih
    | n => simp only [idxF, zipF, List.map_cons, h0, ih]
    | b => simp only [idxF, zipF, List.map_cons, h0, ih]
    | m => simp only [idxF, zipF, List.map_cons, h0, ih]
theorem zAt_zOf : ∀ (k : Nat) (fs : List Fl) (os : List Oper) (ops : Array Oper), fs.length = os.length → (∀ j, os[j]? = ops[k + j]?) → zAt k fs < k + fs.length → ops[zAt k fs]? = some (zOf fs os)
  | k, [], os, ops, _, _, h => by simp [zAt] at h
  | k, f :: fs, [], _, h, _, _ => by simp at h
  | k, f :: fs, o :: os, ops, h, hl, hz => by
    have ih := fun hz => zAt_zOf (k + 1) fs os ops (by simpa using h) (fun j => by have := hl (j + 1); simpa [Nat.add_assoc, Nat.add_comm 1 j] using this) hz
    have h0 : ops[k]? = some o := by simpa using (hl 0).symm
    cases f with
    | z => exact h0
    | n => exact ih (by simp only [zAt, List.length_cons] at hz; omega)
    | b => exact ih (by simp only [zAt, List.length_cons] at hz; omega)
    | m => exact ih (by simp only [zAt, List.length_cons] at hz; omega)

/-- **A REGION THAT DRAWS ITS ORDER, AND MAKES ONE VARIABLE ANYWHERE.** fs: a mark for each operation of the text ('z' marks the one that makes the variable). -/
theorem wp_region_float (S : World → Prop) (st : Op → Bool) (fs : List Fl) {id : Nat} {a : Act} {w : World} {l : List Oper} (hm : P.follows .mixedOrders = true) (hB : okFl P st l.toArray fs = true) (hS : S w.drew)
    (h : wpF P l.toArray S st Q (zOf fs l) (zipF fs l) a w.drew) : (Code.region id l.toArray true).wp P Q a w := by
  unfold okFl at hB
  simp only [Bool.and_eq_true, decide_eq_true_eq] at hB
  obtain ⟨⟨⟨⟨⟨⟨⟨hsel, hok⟩, hzl⟩, hfl⟩, hnd⟩, hall⟩, hlen⟩, hlt⟩ := hB
  have hl0 : ∀ j, l[j]? = l.toArray[0 + j]? := fun j => by simp
  have hfl' : fs.length = l.length := by simpa using hfl
  refine wp_region_any hm (wpAny_of_I (S := S) (st := st) _ _ _ _ hS ?_)
  have := float_lex (Q := Q) (S := S) (Region.noSelect_spec hsel) (zAt_zOf 0 fs l l.toArray hfl' hl0 (by rw [Nat.zero_add, hfl']; simpa using hzl)) (idxF 0 fs) (zipF fs l) (Array.replicate l.toArray.size false) a w.drew hok hS (idx_zip 0 fs l _ hfl' hl0)
    ⟨by simp, fun j hj => by
      have hc := List.all_eq_true.1 hall j (List.mem_range.2 hj)
      have hj' : j < l.length := by simpa using hj
      rw [List.contains_iff_mem] at hc
      simp only [hc, not_true_eq_false, decide_false]
      simp [hj'], hnd, fun j hj => by have := List.all_eq_true.1 hlt j hj; simpa using this⟩ h
  rw [hlen] at this
  simpa using this

/-! ### its steps: a single operation by the laws of 'wpI', what follows behind it -/
theorem upon_Q {Q' : Exit → Act → World → Prop} {o : Oper} {a : Act} {next : Act → World → Prop} {r : Result Next} (h : o.upon P a next (OnlyN Q) r) : o.upon P a next (OnlyN Q') r := by
  cases r with
  | halt e w' =>
    cases e <;> simp only [Oper.upon] at h ⊢
    exact h.elim
  | ok n w' =>
    cases n <;> simp only [Oper.upon] at h ⊢ <;> exact h
theorem opI_Q {Q' : Exit → Act → World → Prop} {o : Oper} {a : Act} {w : World} {K : Act → World → Prop} (h : opI P ops S st Q o K a w) : opI P ops S st Q' o K a w := by
  unfold opI at *
  split
  · rename_i hw
    rw [if_pos hw] at h
    refine ⟨h.1, ?_⟩
    have h2 := h.2
    split
    · rename_i hs
      rw [if_pos hs] at h2
      exact h2
    · rename_i hs
      rw [if_neg hs] at h2
      exact upon_Q h2
  · rename_i hw
    rw [if_neg hw] at h
    exact h
theorem opI_one {o : Oper} {R : Act → World → Prop} {a : Act} {w : World} (h : wpI P ops S st (fun _ a w => S w ∧ R a w) [o] a w) (hS : S w) : opI P ops S st Q o R a w := by
  rcases h with h | ⟨_, _, hs, h⟩
  · exact opI_mono hS (fun a w _ hk => hk.2) (opI_Q h)
  · unfold opI at *
    split
    · rename_i hw
      rw [if_pos hw] at h
      refine ⟨h.1, ?_⟩
      have h2 := h.2
      rw [if_neg (show ¬ noSt o.op = true from Bool.false_ne_true)] at h2
      rw [if_neg (by rw [hs]; exact Bool.false_ne_true)]
      exact upon_state rfl (upon_Q h2) fun D u w' hk => hk.2
    · rename_i hw
      rw [if_neg hw] at h
      exact h.2
theorem wpF_n {oz o : Oper} {r : List (Fl × Oper)} {a : Act} {w : World} (hS : S w) (h : wpI P ops S st (fun _ a w => S w ∧ wpF P ops S st Q oz r a w) [o] a w) : wpF P ops S st Q oz ((.n, o) :: r) a w := opI_one h hS
theorem wpF_b {oz o : Oper} {r : List (Fl × Oper)} {a : Act} {w : World} (hS : S w) (h1 : wpI P ops S st Q (oz :: o :: r.map Prod.snd) a w) (h : wpI P ops S st (fun _ a w => S w ∧ wpF P ops S st Q oz r a w) [o] a w) : wpF P ops S st Q oz ((.b, o) :: r) a w := by
  refine ⟨?_, opI_one h hS⟩
  rcases h1 with h1 | ⟨h1, _⟩
  · exact h1
  · cases h1
theorem wpF_m {oz o : Oper} {r : List (Fl × Oper)} {a : Act} {w : World} (h1 : wpI P ops S st Q (oz :: o :: r.map Prod.snd) a w) : wpF P ops S st Q oz ((.m, o) :: r) a w := by
  rcases h1 with h1 | ⟨h1, _⟩
  · exact h1
  · cases h1
theorem wpI_nilS {R : Act → World → Prop} {a : Act} {w : World} (hS : S w) (h : R a w) : wpI P ops S st (fun _ a w => S w ∧ R a w) [] a w := ⟨hS, h⟩
theorem wpF_act {oz : Oper} {r : List (Fl × Oper)} {a a' : Act} {w : World} (h : a = a') (k : wpF P ops S st Q oz r a' w) : wpF P ops S st Q oz r a w := h ▸ k
end
end Go.Ord
