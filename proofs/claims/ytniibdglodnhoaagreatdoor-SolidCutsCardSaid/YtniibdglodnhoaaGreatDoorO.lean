/- A region that draws its order: one walk in the order of the text serves every order, where whatever touches the world stands in one order (two reads aside). -/
import Derived.Test.YtniibdglodnhoaaGreatDoorE
namespace Go.Ord
open Go.RowKit

/-! ### Computations that leave the world alone and don't look at it -/

variable (P : Program)

/-- it ends in a halt, whatever it is told -/
def dead {α : Type} : Sem α → Prop
  | .halt _ => True
  | .program k => dead (k P)
  | .choose _ k => ∀ n, dead (k n)
  | .new _ k => ∀ n, dead (k n)
  | _ => False

def still {α : Type} : Sem α → Prop
  | .pure _ => True
  | .halt _ => True
  | .program k => still (k P)
  | .choose _ k => ∀ n, dead P (k n)
  | .new _ k => ∀ n, dead P (k n)
  | _ => False

/-- it may look, and leaves the world alone -/
def reads {α : Type} : Sem α → Prop
  | .pure _ => True
  | .halt _ => True
  | .program k => reads (k P)
  | .load _ _ k => ∀ v, reads (k v)
  | .shape _ k => ∀ v, reads (k v)
  | .frozen _ k => ∀ v, reads (k v)
  | .getObj _ k => ∀ v, reads (k v)
  | .choose _ k => ∀ n, dead P (k n)
  | .new _ k => ∀ n, dead P (k n)
  | _ => False

variable {P}

theorem dead_bind' {α β : Type} {x : Sem α} (f : α → Sem β) (h : dead P x) : dead P (x.bind f) := by
  induction x with
  | halt _ => trivial
  | program k ih => exact ih P h
  | choose q k ih => exact fun n => ih n (h n)
  | new o k ih => exact fun n => ih n (h n)
  | _ => exact h.elim
theorem dead_still {α : Type} {x : Sem α} (h : dead P x) : still P x := by
  induction x with
  | halt _ => trivial
  | program k ih => exact ih P h
  | choose q k ih => exact h
  | new o k ih => exact h
  | _ => exact h.elim
theorem still_bindR {α β : Type} {x : Sem α} {f : α → Sem β} (h : still P x) (hf : ∀ a w w', x.run P w = .ok a w' → still P (f a)) : still P (x.bind f) := by
  induction x with
  | pure a => exact hf a default default (by simp [Sem.run, default])
  | halt _ => trivial
  | program k ih => exact ih P h (fun a w w' hr => hf a w w' (by simpa [Sem.run] using hr))
  | choose q k ih => exact fun n => dead_bind' f (h n)
  | new o k ih => exact fun n => dead_bind' f (h n)
  | _ => exact h.elim
theorem still_bind' {α β : Type} {x : Sem α} {f : α → Sem β} (h : still P x) (hf : ∀ a, still P (f a)) : still P (x.bind f) := still_bindR h fun a _ _ _ => hf a
theorem still_reads {α : Type} {x : Sem α} (h : still P x) : reads P x := by
  induction x with
  | pure a => trivial
  | halt _ => trivial
  | program k ih => exact ih P h
  | choose q k ih => exact h
  | new o k ih => exact h
  | _ => exact h.elim
theorem reads_bind' {α β : Type} {x : Sem α} {f : α → Sem β} (h : reads P x) (hf : ∀ a, reads P (f a)) : reads P (x.bind f) := by
  induction x with
  | pure a => exact hf a
  | halt _ => trivial
  | program k ih => exact ih P h
  | load m a k ih => exact fun p => ih p (h p)
  | shape r k ih => exact fun p => ih p (h p)
  | frozen r k ih => exact fun p => ih p (h p)
  | getObj r k ih => exact fun p => ih p (h p)
  | choose q k ih => exact fun n => dead_bind' f (h n)
  | new o k ih => exact fun n => dead_bind' f (h n)
  | _ => exact h.elim

theorem dead_run {α : Type} {x : Sem α} (h : dead P x) {w w1 : World} {v : α} (hr : x.run P w = .ok v w1) : False := by
  induction x generalizing w with
  | halt _ => simp [Sem.run] at hr
  | program k ih => exact ih P h (by simpa [Sem.run] using hr)
  | choose q k ih =>
    simp only [Sem.run] at hr
    split at hr
    · exact ih _ (h _) hr
    · exact ih _ (h _) hr
  | new o k ih => exact ih _ (h _) (by simpa [Sem.run] using hr)
  | _ => exact h.elim

theorem still_run {α : Type} {x : Sem α} (h : still P x) {w w1 : World} {v : α} (hr : x.run P w = .ok v w1) : w1 = w ∧ ∀ w', x.run P w' = .ok v w' := by
  induction x generalizing w with
  | pure a => simp only [Sem.run, Result.ok.injEq] at hr ⊢; obtain ⟨rfl, rfl⟩ := hr; simp
  | halt _ => simp [Sem.run] at hr
  | program k ih => simpa [Sem.run] using ih P h (by simpa [Sem.run] using hr)
  | choose q k ih =>
    exfalso
    simp only [Sem.run] at hr
    split at hr
    · exact dead_run (h _) hr
    · exact dead_run (h _) hr
  | new o k ih => exact (dead_run (h _) (by simpa [Sem.run] using hr)).elim
  | _ => exact h.elim

theorem reads_run {α : Type} {x : Sem α} (h : reads P x) {w w1 : World} {v : α} (hr : x.run P w = .ok v w1) : w1 = w := by
  induction x generalizing w with
  | pure a => simp only [Sem.run, Result.ok.injEq] at hr; exact hr.2.symm
  | halt _ => simp [Sem.run] at hr
  | program k ih => exact ih P h (by simpa [Sem.run] using hr)
  | load m a k ih =>
    simp only [Sem.run] at hr
    split at hr
    · exact ih _ (h _) hr
    · split at hr
      · exact ih _ (h _) hr
      · simp at hr
  | shape r k ih => exact ih _ (h _) (by simpa [Sem.run] using hr)
  | frozen r k ih => exact ih _ (h _) (by simpa [Sem.run] using hr)
  | getObj r k ih =>
    simp only [Sem.run] at hr
    split at hr
    · simp at hr
    · exact ih _ (h _) hr
    · simp at hr
  | choose q k ih =>
    exfalso
    simp only [Sem.run] at hr
    split at hr
    · exact dead_run (h _) hr
    · exact dead_run (h _) hr
  | new o k ih => exact (dead_run (h _) (by simpa [Sem.run] using hr)).elim
  | _ => exact h.elim

/-! the same for '>>=' -/
theorem still_bind {α β : Type} {x : Sem α} {f : α → Sem β} (h : still P x) (hf : ∀ a, still P (f a)) : still P (x >>= f) := still_bind' h hf
theorem still_bindK {α β : Type} {x : Sem α} {f : α → Sem β} (h : still P x) (hf : ∀ a w w', x.run P w = .ok a w' → still P (f a)) : still P (x >>= f) := still_bindR h hf
theorem dead_bind {α β : Type} {x : Sem α} (f : α → Sem β) (h : dead P x) : dead P (x >>= f) := dead_bind' f h
theorem reads_bind {α β : Type} {x : Sem α} {f : α → Sem β} (h : reads P x) (hf : ∀ a, reads P (f a)) : reads P (x >>= f) := reads_bind' h hf
theorem still_pure {α : Type} (a : α) : still P (Pure.pure a : Sem α) := trivial
theorem reads_pure {α : Type} (a : α) : reads P (Pure.pure a : Sem α) := trivial
theorem still_stuck {α : Type} (s : String) : still P (stuck s : Sem α) := trivial
theorem still_unsupported {α : Type} (u : Unsupported) : still P (unsupported u : Sem α) := trivial
theorem still_goPanic {α : Type} (v : Value) : still P (goPanic v : Sem α) := trivial
theorem still_underlying (t : TypeId) : still P (underlying t) := by
  unfold underlying
  refine still_bind (show still P program from trivial) fun p => ?_
  split <;> trivial
theorem still_typeInfo (t : TypeId) : still P (typeInfo t) := by
  unfold typeInfo
  refine still_bind (show still P program from trivial) fun p => ?_
  split <;> trivial
theorem still_sizeOf (t : TypeId) : still P (sizeOf t) := by
  unfold sizeOf
  exact still_bind (still_typeInfo t) fun _ => trivial
theorem still_asIntOf (v : Value) : still P (asIntOf v) := by
  unfold asIntOf; split <;> trivial
theorem still_asBool (v : Value) : still P (asBool v) := by
  unfold asBool; split <;> trivial
theorem still_sureAddr (v : Value) : still P (Instr.sureAddr v) := by
  unfold Instr.sureAddr; split <;> trivial
theorem dead_goPanic {α : Type} (v : Value) : dead P (goPanic v : Sem α) := trivial

/-! ### The kinds of operations -/
inductive Kind where
  | p | r | w | s
  deriving DecidableEq

def flat (P : Program) (t : TypeId) : Bool :=
  match P.underlying t with
  | some (.int _) | some .bool | some .string => true
  | _ => false
def flatInt (P : Program) (t : TypeId) : Bool :=
  match P.underlying t with
  | some (.int _) => true
  | _ => false

def fieldOk (P : Program) (s : TypeId) (f : Nat) : Bool :=
  match P.underlying s with
  | some (.struct fs) => ((fs[f]?).bind fun x => (P.info? x.type).map fun i => i.size != 0).getD false
  | _ => false
def calleeKind : Callee → Kind
  | .builtin .len => .p
  | .builtin .cap => .p
  | _ => .w
def kindOf (P : Program) : Op → Kind
  | .move _ | .assign _ | .pick .. | .nilCheck _ | .indexAddr .. | .slice .. | .extract .. | .makeFunc .. | .sliceToArrayPointer .. | .unOp .. => .p
  | .fieldAddr s _ f => if fieldOk P s f then .p else .w
  | .binOp _ t _ _ _ => if flat P t then .p else .w
  | .convert s d _ => if flatInt P s && flatInt P d then .p else .w
  | .call c => calleeKind c.callee
  | .load .. => .r
  | _ => .w

def isInt : Value → Bool
  | .int _ _ => true
  | _ => false
/-- are the values such that the operation doesn't look at the world? -/
def okVals (P : Program) (o : Op) (a : Act) : Bool :=
  match o with
  | .binOp _ t x y _ => !flat P t || (match a.eval x, a.eval y with | .int _ _, .int _ _ | .bool _, .bool _ | .string _, .string _ => true | _, _ => false)
  | .convert s d x => !(flatInt P s && flatInt P d) || isInt (a.eval x)
  | .nilCheck x => match a.eval x with | .pointer (some _) => true | _ => false
  | .call c => (match c.callee with | .builtin .len | .builtin .cap => (match c.args.toList with | [x] => (match a.eval x with | .slice .. | .string _ => true | _ => false) | _ => false) | _ => true)
  | .slice _ x lo hi mx => (match a.eval x with | .slice .. | .string _ | .pointer (some _) => true | _ => false) && (lo.toList ++ hi.toList ++ mx.toList).all fun y => isInt (a.eval y)
  | .indexAddr _ _ y => isInt (a.eval y)
  | .unOp op _ x => match op, a.eval x with | .neg, .int _ _ | .xor, .int _ _ | .not, .bool _ => true | _, _ => false
  | _ => true

theorem dead_of_still_halt {α β : Type} {x : Sem α} {f : α → Sem β} (h : still P x) (hf : ∀ a, dead P (f a)) : dead P (x.bind f) := by
  induction x with
  | pure a => exact hf a
  | halt _ => trivial
  | program k ih => exact ih P h
  | choose q k ih => exact fun n => dead_bind' f (h n)
  | new o k ih => exact fun n => dead_bind' f (h n)
  | _ => exact h.elim
theorem dead_then {α β : Type} {x : Sem α} {f : α → Sem β} (h : still P x) (hf : ∀ a, dead P (f a)) : dead P (x >>= f) := dead_of_still_halt h hf
theorem still_elemOf (t : TypeId) : still P (elemOf t) := by
  unfold elemOf
  refine still_bind (still_underlying t) fun d => ?_
  split <;> trivial
theorem dead_newVar {β : Type} (t : TypeId) (v : Value) (f : Addr → Sem β) (hf : ∀ a, dead P (f a)) : dead P (newVar t v >>= f) := by
  intro n
  exact hf _

theorem dead_runtimePanic {α : Type} (e : RuntimeError) : dead P (runtimePanic e : Sem α) := by
  unfold runtimePanic
  refine dead_then (show still P program from trivial) fun p => ?_
  cases e with
  | typeAssertion i c a m =>
    refine dead_then (still_elemOf _) fun t => ?_
    exact dead_newVar _ _ _ fun _ => trivial
  | panicNil =>
    refine dead_then (still_elemOf _) fun t => ?_
    exact dead_newVar _ _ _ fun _ => trivial
  | _ => trivial

theorem dead_boundsPanic {α : Type} (k : IntKind) (x y : Int) (c : BoundsCode) : dead P (boundsPanic k x y c : Sem α) := by
  unfold boundsPanic
  split
  · intro n
    show dead P (runtimePanic (.bounds (IntKind.i64.wrap x) y (n == 1) c) : Sem α)
    exact dead_runtimePanic _
  · show dead P (runtimePanic (.bounds (IntKind.i64.wrap x) y (k != .u64) c) : Sem α)
    exact dead_runtimePanic _

theorem still_intArith (op : BinOp) (k : IntKind) (x y : Int) : still P (Op.intArith op k x y) := by
  unfold Op.intArith; split <;> trivial
theorem still_intDiv (op : BinOp) (k : IntKind) (x y : Int) : still P (Op.intDiv op k x y) := by
  unfold Op.intDiv
  split
  · exact dead_still (dead_runtimePanic _)
  · split <;> trivial
theorem still_intBits (op : BinOp) (k : IntKind) (x y : Int) : still P (Op.intBits op k x y) := by
  unfold Op.intBits; dsimp only; split <;> trivial
theorem still_intCmp (op : BinOp) (x y : Int) : still P (Op.intCmp op x y) := by
  unfold Op.intCmp; split <;> trivial
theorem still_shift (op : BinOp) (k yk : IntKind) (x y : Int) : still P (Op.shift op k x yk y) := by
  unfold Op.shift
  split
  · exact dead_still (dead_runtimePanic _)
  · dsimp only; split <;> trivial
theorem still_stringOp (op : BinOp) (a b : ByteArray) : still P (Op.stringOp op a b) := by
  unfold Op.stringOp
  repeat' (first | trivial | split | (refine still_bind ?_ fun _ => ?_) | exact dead_still (dead_runtimePanic _))

theorem still_sliceBound (x : Value) (y : Nat) (c : BoundsCode) : still P (Instr.sliceBound x y c) := by
  unfold Instr.sliceBound
  refine still_bind (still_asIntOf x) fun ki => ?_
  obtain ⟨k, i⟩ := ki
  dsimp only
  split
  · trivial
  · exact dead_still (dead_boundsPanic _ _ _ _)
theorem still_sliceBounds (b : Bool) (len cap : Nat) (lo hi mx : Option Value) : still P (Instr.sliceBounds b len cap lo hi mx) := by
  unfold Instr.sliceBounds
  repeat' (first | exact still_sliceBound _ _ _ | trivial | (refine still_bind ?_ fun _ => ?_) | split)
theorem still_slice (t : TypeId) (x : Value) (lo hi mx : Option Value) : still P (Instr.slice t x lo hi mx) := by
  unfold Instr.slice
  refine still_bind (still_underlying t) fun d => ?_
  repeat' (first | exact still_sliceBounds _ _ _ _ _ _ | exact still_sizeOf _ | exact still_underlying _ | exact still_sureAddr _ | trivial | (refine still_bind ?_ fun _ => ?_) | split)
  all_goals (unfold asAddr; split <;> first | trivial | exact dead_still (dead_runtimePanic _))
theorem still_sliceAt (t : TypeId) (x : Value) (lo hi mx : Option Value) : still P (Instr.sliceAt t x lo hi mx) := by
  unfold Instr.sliceAt
  refine still_bind (still_underlying t) fun d => ?_
  split
  · repeat' (first | exact still_sliceBounds _ _ _ _ _ _ | exact still_sizeOf _ | exact still_sureAddr _ | trivial | (refine still_bind ?_ fun _ => ?_))
  · exact still_slice _ _ _ _ _
theorem still_indexAt (t : TypeId) (x i : Value) : still P (Instr.indexAt t x i) := by
  unfold Instr.indexAt
  refine still_bind (still_asIntOf i) fun ki => ?_
  obtain ⟨k, n⟩ := ki
  dsimp only
  refine still_bind (still_underlying t) fun d => ?_
  repeat' (first | exact still_sizeOf _ | exact still_underlying _ | exact still_sureAddr _ | trivial | exact dead_still (dead_boundsPanic _ _ _ _) | (refine still_bind ?_ fun _ => ?_) | split)
theorem still_extract (t : Value) (i : Nat) : still P (Instr.extract t i) := by
  unfold Instr.extract
  repeat' (first | trivial | split)
theorem still_arrayAt (t : TypeId) (x : Value) : still P (Instr.arrayAt t x) := by
  unfold Instr.arrayAt
  refine still_bind (still_underlying t) fun d => ?_
  repeat' (first | trivial | exact dead_still (dead_runtimePanic _) | split)


theorem still_value {x : Sem Value} (h : still P x) : still P (do pure (.value (← x)) : Sem Next) := still_bind h fun _ => trivial

theorem still_binOp (op : BinOp) (t : TypeId) (x y : Operand) (u v : Value) (h : (match u, v with | .int _ _, .int _ _ | .bool _, .bool _ | .string _, .string _ => true | _, _ => false) = true) :
    still P (do eqGuard op t x y u v; binOp op t u v) := by
  have hg : still P (eqGuard op t x y u v) := by
    cases u <;> cases v <;> (try (exact Bool.noConfusion h))
    · rw [eqGuard_at_bool]; trivial
    · rw [eqGuard_at_int]; trivial
    · rw [eqGuard_at_string]; trivial
  refine still_bind hg fun _ => ?_
  clear hg
  cases u <;> cases v <;> (try (exact Bool.noConfusion h))
  · rename_i b c
    have he : still P (Op.equal t (.bool b) (.bool c)) := by
      unfold Op.equal Op.maxDepth
      rw [Op.equalIn]
      refine still_bind (still_underlying _) fun d => ?_
      split <;> first | trivial | (simp_all; done)
    cases op <;> simp only [binOp] <;> first | trivial | exact still_bind he fun _ => trivial
  · rename_i k a k' b
    unfold binOp
    repeat' (first | exact still_shift _ _ _ _ _ | trivial | exact still_intArith _ _ _ _ | exact still_intDiv _ _ _ _ | exact still_intBits _ _ _ _ | exact still_intCmp _ _ _ | split)
    all_goals simp_all
  · rename_i a b
    unfold binOp
    repeat' (first | exact still_stringOp _ _ _ | trivial | split)
    all_goals simp_all

theorem still_kind {o : Oper} {a : Act} (hk : kindOf P o.op = .p) (hv : okVals P o.op a = true) : still P (execOp a.eval o) := by
  obtain ⟨dst, op, ty, pos, aft, gd⟩ := o
  dsimp only at hk hv
  cases op <;> simp only [kindOf] at hk <;> try (exact absurd hk (by decide))
  case move x => trivial
  case assign x => trivial
  case pick c x y => exact still_bind (still_asBool _) fun b => by trivial
  case nilCheck x =>
    simp only [okVals] at hv
    unfold execOp
    dsimp only
    generalize a.eval x = v at hv ⊢
    cases v <;> (try (exact Bool.noConfusion hv))
    rename_i p
    cases p <;> (try (exact Bool.noConfusion hv))
    trivial
  case binOp op t x y yt =>
    split at hk
    · rename_i hf
      simp only [okVals, hf, Bool.not_true, Bool.false_or] at hv
      exact still_value (still_binOp op t x y _ _ hv)
    · exact absurd hk (by decide)
  case unOp op t x =>
    simp only [okVals] at hv
    refine still_value ?_
    generalize a.eval x = v at hv ⊢
    cases op <;> cases v <;> (try (exact Bool.noConfusion hv)) <;> simp only [Op.unary] <;> first | trivial | exact still_intArith _ _ _ _ | exact still_intBits _ _ _ _
  case convert s d x =>
    split at hk
    · rename_i hf
      simp only [okVals, hf, Bool.not_true, Bool.false_or] at hv
      refine still_value ?_
      generalize a.eval x = v at hv ⊢
      cases v <;> (try (exact Bool.noConfusion hv))
      rename_i k n
      simp only [Bool.and_eq_true] at hf
      obtain ⟨hs, hd⟩ := hf
      have hs' : ∃ k, P.underlying s = some (.int k) := by
        unfold flatInt at hs; split at hs
        · exact ⟨_, by assumption⟩
        · cases hs
      have hd' : ∃ k, P.underlying d = some (.int k) := by
        unfold flatInt at hd; split at hd
        · exact ⟨_, by assumption⟩
        · cases hd
      obtain ⟨ks, hs'⟩ := hs'
      obtain ⟨kd, hd'⟩ := hd'
      unfold convert
      refine still_bindK (still_underlying _) fun ds w w' hr => ?_
      rw [run_underlying hs'] at hr
      simp only [Result.ok.injEq] at hr
      obtain ⟨rfl, _⟩ := hr
      refine still_bindK (still_underlying _) fun ds w w' hr => ?_
      rw [run_underlying hd'] at hr
      simp only [Result.ok.injEq] at hr
      obtain ⟨rfl, _⟩ := hr
      trivial
    · exact absurd hk (by decide)
  case sliceToArrayPointer t x => exact still_value (still_arrayAt _ _)
  case makeFunc f x y => trivial
  case slice t x lo hi mx => exact still_value (still_sliceAt _ _ _ _ _)
  case fieldAddr s x f =>
    split at hk
    · rename_i hf
      refine still_value ?_
      unfold Instr.fieldAt
      refine still_bindK (still_underlying _) fun ds w w' hr => ?_
      unfold fieldOk at hf
      split at hf
      · rename_i fs hu
        rw [run_underlying hu] at hr
        simp only [Result.ok.injEq] at hr
        obtain ⟨rfl, _⟩ := hr
        dsimp only
        cases hfs : fs[f]? with
        | none => trivial
        | some fl =>
          rw [hfs] at hf
          dsimp only at hf ⊢
          refine still_bind (still_sureAddr _) fun ad => ?_
          refine still_bind ?_ fun _ => by trivial
          unfold fieldPlace
          cases hi : P.info? fl.type with
          | none => rw [Option.bind_some, hi] at hf; cases hf
          | some inf =>
            rw [Option.bind_some, hi] at hf
            refine still_bindK (still_sizeOf _) fun n w w' hr => ?_
            have hn : n = inf.size := by
              simp [sizeOf, typeInfo, hi] at hr
              exact hr.1.symm
            have h0 : n ≠ 0 := by
              subst hn; simpa using hf
            rw [if_neg h0]
            trivial
      · cases hf
    · exact absurd hk (by decide)
  case indexAddr t x i => exact still_value (still_indexAt _ _ _)
  case extract t i => exact still_value (still_extract _ _)
  case call c =>
    obtain ⟨callee, args, ats⟩ := c
    dsimp only at hk
    have hc : callee = .builtin .len ∨ callee = .builtin .cap := by
      unfold calleeKind at hk
      split at hk
      · exact .inl rfl
      · exact .inr rfl
      · cases hk
    have hargs : ∃ x, args = #[x] ∧ (match a.eval x with | .slice .. | .string _ => true | _ => false) = true := by
      simp only [okVals] at hv
      rcases hc with rfl | rfl
      all_goals
        dsimp only at hv
        split at hv
        · rename_i x hx
          exact ⟨x, by rw [← Array.toArray_toList (xs := args), hx], hv⟩
        · cases hv
    obtain ⟨x, rfl, hx⟩ := hargs
    unfold execOp
    dsimp only
    unfold resolve
    rcases hc with rfl | rfl
    all_goals
      dsimp only
      generalize hv' : a.eval x = v at hx ⊢
      refine still_bindK trivial fun d w w' hr => ?_
      simp only [Sem.run_pure, Result.ok.injEq] at hr
      obtain ⟨rfl, _⟩ := hr
      refine still_value ?_
      simp only [List.map_toArray, List.map_cons, List.map_nil, hv']
      first | unfold Builtin.len_ | unfold Builtin.cap_
      repeat' (first | exact still_underlying _ | trivial | (refine still_bind ?_ fun _ => ?_) | split)
      all_goals simp_all


theorem valued {x : Sem Value} {w w' : World} {n : Next} (h : (do pure (.value (← x)) : Sem Next).run P w = .ok n w') : ∃ v, n = .value v := by
  rw [Sem.run_bind] at h
  cases hx : x.run P w with
  | ok v w1 => rw [hx] at h; simp at h; exact ⟨v, h.1.symm⟩
  | halt e w1 => rw [hx] at h; simp at h

theorem kind_value {o : Oper} {a : Act} {w w' : World} {n : Next} (hk : kindOf P o.op ≠ .w) (h : (execOp a.eval o).run P w = .ok n w') : ∃ v, n = .value v := by
  obtain ⟨dst, op, ty, pos, aft, gd⟩ := o
  dsimp only at hk
  cases op <;> simp only [kindOf] at hk <;> try (exact absurd rfl hk)
  case move x => exact ⟨_, by simpa [execOp] using (Result.ok.inj h).1.symm⟩
  case assign x => exact ⟨_, by simpa [execOp] using (Result.ok.inj h).1.symm⟩
  case pick c x y =>
    unfold execOp at h
    dsimp only at h
    rw [Sem.run_bind] at h
    cases hx : (asBool (a.eval c)).run P w with
    | ok v w1 => rw [hx] at h; simp at h; exact ⟨_, h.1.symm⟩
    | halt e w1 => rw [hx] at h; simp at h
  case nilCheck x =>
    unfold execOp at h
    dsimp only at h
    split at h
    · exact (dead_run (dead_runtimePanic _) h).elim
    · exact (dead_run (dead_runtimePanic _) h).elim
    · exact (dead_run (dead_runtimePanic _) h).elim
    · split at h
      · exact (dead_run (dead_runtimePanic _) h).elim
      · rw [Sem.run_bind] at h
        simp only [run_program, Result.andThen_ok, Sem.run_bind] at h
        generalize hz : (nilAhead _ _ _ _).run P w = z at h
        cases z with
        | ok v w1 =>
          simp only [Result.andThen_ok] at h
          split at h
          · simp at h
          · simp at h; exact ⟨_, h.1.symm⟩
        | halt e w1 => simp at h
      · simp at h; exact ⟨_, h.1.symm⟩
    · simp at h; exact ⟨_, h.1.symm⟩
  case binOp => exact valued h
  case unOp => exact valued h
  case convert => exact valued h
  case sliceToArrayPointer => exact valued h
  case makeFunc => exact valued h
  case slice => exact valued h
  case fieldAddr => exact valued h
  case indexAddr => exact valued h
  case extract => exact valued h
  case load => exact valued h
  case call c =>
    obtain ⟨callee, args, ats⟩ := c
    dsimp only at hk
    have hc : callee = .builtin .len ∨ callee = .builtin .cap := by
      unfold calleeKind at hk
      split at hk
      · exact .inl rfl
      · exact .inr rfl
      · exact absurd rfl hk
    unfold execOp resolve at h
    rcases hc with rfl | rfl
    all_goals
      dsimp only at h
      rw [Sem.run_bind, Sem.run_pure, Result.andThen_ok] at h
      exact valued h

theorem reads_load (t : TypeId) (a : Addr) : reads P (loadVar t a) := by
  have hload : ∀ (a : Addr), reads P (load a) := fun a v => trivial
  have hcells : ∀ (n i : Nat) (acc : Array Value), reads P (loadCellsFrom a i n acc) := by
    intro n
    induction n with
    | zero => intro i acc; trivial
    | succ n ih => intro i acc; exact reads_bind (hload _) fun v => ih _ _
  unfold loadVar
  have hagg : reads P (isAgg t) := by
    unfold isAgg
    exact reads_bind (still_reads (still_underlying _)) fun d => by split <;> trivial
  refine reads_bind hagg fun b => ?_
  split
  · refine reads_bind (still_reads (still_sizeOf _)) fun n => ?_
    refine reads_bind (hcells _ _ _) fun _ => trivial
  · exact hload a

theorem kind_r {o : Oper} {a : Act} (hk : kindOf P o.op = .r) : reads P (execOp a.eval o) := by
  obtain ⟨dst, op, ty, pos, aft, gd⟩ := o
  dsimp only at hk
  cases op <;> simp only [kindOf] at hk <;> try (exact Kind.noConfusion hk)
  case load t x =>
    refine reads_bind ?_ fun _ => trivial
    unfold Instr.loadAt
    exact reads_bind (still_reads (still_sureAddr _)) fun ad => reads_load t ad
  case fieldAddr => split at hk <;> cases hk
  case binOp => split at hk <;> cases hk
  case convert => split at hk <;> cases hk
  case call c =>
    unfold calleeKind at hk
    split at hk <;> cases hk

/-! ### One operation, and two in turn
S: what holds of every world that the region meets; st: which operations yield one value in every such world (loads of cells that nothing in the region writes). -/
def OnlyN (Q : Exit → Act → World → Prop) : Exit → Act → World → Prop
  | .normal, a, w => Q .normal a w
  | _, _, _ => False

def kindS (P : Program) (st : Op → Bool) (o : Op) : Kind := if st o then .s else kindOf P o

variable {ops : Array Oper} {Q : Exit → Act → World → Prop} {S : World → Prop} {st : Op → Bool}

def opI (P : Program) (ops : Array Oper) (S : World → Prop) (st : Op → Bool) (Q : Exit → Act → World → Prop) (o : Oper) (K : Act → World → Prop) (a : Act) (w : World) : Prop :=
  if Region.wanted o (yielded ops a.tmps) then
    okVals P o.op a = true ∧ (if st o.op then ∃ v, (∀ w', S w' → (execOp a.eval o).run P w' = .ok (.value v) w') ∧ K (a.put o.dst v) w else o.wp P a w (fun a w => S w ∧ K a w) (OnlyN Q))
  else K (a.put o.dst undef) w

theorem onlyN_false {Q : Exit → Act → World → Prop} : ¬ LetsOut (OnlyN Q) := fun ⟨_, _, h⟩ => h

theorem upon_state {o : Oper} {a b : Act} {next next' : Act → World → Prop} {r : Result Next} (hd : b.defers = a.defers) (h : o.upon P a next (OnlyN Q) r)
    (hn : ∀ D u w', next ({ a with defers := D }.put o.dst u) w' → next' ({ b with defers := D }.put o.dst u) w') : o.upon P b next' (OnlyN Q) r := by
  cases r with
  | halt e w' =>
    cases e <;> simp only [Oper.upon] at h ⊢
    exact h
  | ok n w' =>
    cases n <;> simp only [Oper.upon] at h ⊢
    case value v => have := hn a.defers v w' h; rwa [← hd] at this
    case skip => have := hn a.defers undef w' h; rwa [← hd] at this
    case defer d => have := hn (d :: a.defers) undef w' h; rwa [← hd] at this
    case enter f args =>
      refine Calls.mono h fun e w'' he => ?_
      cases e with
      | returned v => have := hn a.defers v w'' he; rwa [← hd] at this
      | panicked c => exact he.elim
      | outgrown => exact he
    case row row args =>
      refine Rows.mono h fun v w'' he => ?_
      have := hn a.defers v w'' he; rwa [← hd] at this

theorem upon_some {o : Oper} {a : Act} {next : Act → World → Prop} {r : Result Next} (h : o.upon P a next (OnlyN Q) r) :
    ∃ D u w', next ({ a with defers := D }.put o.dst u) w' := by
  cases r with
  | halt e w' =>
    cases e <;> simp only [Oper.upon] at h
    exact h.elim
  | ok n w' =>
    cases n <;> simp only [Oper.upon] at h
    case value v => exact ⟨a.defers, v, w', h⟩
    case skip => exact ⟨a.defers, undef, w', h⟩
    case defer d => exact ⟨_, undef, w', h⟩
    case enter f args =>
      obtain ⟨e, w'', fr, hR, _⟩ := h []
      cases e with
      | returned v => exact ⟨a.defers, v, w'', hR⟩
      | panicked c => exact hR.elim
      | outgrown => exact (onlyN_false hR).elim
    case row row args =>
      obtain ⟨v, w'', hR, _⟩ := h default []
      exact ⟨a.defers, v, w'', hR⟩

theorem opI_mono {o : Oper} {a : Act} {w : World} {K K' : Act → World → Prop} (hS : S w) (h : ∀ a w, S w → K a w → K' a w) (hh : opI P ops S st Q o K a w) : opI P ops S st Q o K' a w := by
  unfold opI at *
  split
  · rename_i hw
    rw [if_pos hw] at hh
    refine ⟨hh.1, ?_⟩
    have h2 := hh.2
    split
    · rename_i hs
      rw [if_pos hs] at h2
      obtain ⟨v, hv, hk⟩ := h2
      exact ⟨v, hv, h _ _ hS hk⟩
    · rename_i hs
      rw [if_neg hs] at h2
      exact upon_state rfl h2 fun D u w' hk => ⟨hk.1, h _ _ hk.1 hk.2⟩
  · rename_i hw
    rw [if_neg hw] at hh
    exact h _ _ hS hh

/-- in state 'a' the operation leaves v, in whatever world that meets S -/
def Gives (P : Program) (ops : Array Oper) (S : World → Prop) (o : Oper) (v : Value) (a : Act) : Prop :=
  (Region.wanted o (yielded ops a.tmps) = true ∧ okVals P o.op a = true ∧ ∀ w, S w → (execOp a.eval o).run P w = .ok (.value v) w) ∨
  (Region.wanted o (yielded ops a.tmps) = false ∧ v = undef)
def GivesAt (P : Program) (ops : Array Oper) (o : Oper) (v : Value) (a : Act) (w : World) : Prop :=
  (Region.wanted o (yielded ops a.tmps) = true ∧ okVals P o.op a = true ∧ (execOp a.eval o).run P w = .ok (.value v) w) ∨
  (Region.wanted o (yielded ops a.tmps) = false ∧ v = undef)

theorem Gives.opI {o : Oper} {v : Value} {a : Act} {w : World} {K : Act → World → Prop} (h : Gives P ops S o v a) (hS : S w) (hK : K (a.put o.dst v) w) : opI P ops S st Q o K a w := by
  unfold Go.Ord.opI
  rcases h with ⟨hw, hv, hr⟩ | ⟨hw, rfl⟩
  · rw [if_pos hw]
    refine ⟨hv, ?_⟩
    split
    · exact ⟨v, hr, hK⟩
    · unfold Oper.wp
      rw [hr w hS]
      exact ⟨hS, hK⟩
  · rw [if_neg (by rw [hw]; exact Bool.false_ne_true)]
    exact hK
theorem GivesAt.opI {o : Oper} {v : Value} {a : Act} {w : World} {K : Act → World → Prop} (hs : st o.op = false) (h : GivesAt P ops o v a w) (hS : S w) (hK : K (a.put o.dst v) w) : opI P ops S st Q o K a w := by
  unfold Go.Ord.opI
  rcases h with ⟨hw, hv, hr⟩ | ⟨hw, rfl⟩
  · rw [if_pos hw]
    refine ⟨hv, ?_⟩
    rw [if_neg (by rw [hs]; exact Bool.false_ne_true)]
    unfold Oper.wp
    rw [hr]
    exact ⟨hS, hK⟩
  · rw [if_neg (by rw [hw]; exact Bool.false_ne_true)]
    exact hK

theorem gives_of {o : Oper} {a : Act} {w : World} {K : Act → World → Prop} (hk : kindS P st o.op = .p ∨ kindS P st o.op = .s) (h : opI P ops S st Q o K a w) : ∃ v, Gives P ops S o v a ∧ K (a.put o.dst v) w := by
  unfold opI at h
  by_cases hw : Region.wanted o (yielded ops a.tmps) = true
  · rw [if_pos hw] at h
    obtain ⟨hv, hwp⟩ := h
    by_cases hs : st o.op = true
    · rw [if_pos hs] at hwp
      obtain ⟨v, hr, hK⟩ := hwp
      exact ⟨v, .inl ⟨hw, hv, hr⟩, hK⟩
    · rw [if_neg hs] at hwp
      have hp : kindOf P o.op = .p := by
        unfold kindS at hk
        rw [if_neg hs] at hk
        rcases hk with hk | hk
        · exact hk
        · exfalso
          revert hk
          generalize o.op = op
          cases op <;> simp only [kindOf] <;> (try split) <;> (try decide)
          all_goals (unfold calleeKind; split <;> decide)
      unfold Oper.wp at hwp
      cases hr : (execOp a.eval o).run P w with
      | halt e w' => rw [hr] at hwp; cases e <;> simp only [Oper.upon] at hwp; exact hwp.elim
      | ok n w' =>
        obtain ⟨v, rfl⟩ := kind_value (by rw [hp]; decide) hr
        obtain ⟨rfl, hall⟩ := still_run (still_kind hp hv) hr
        rw [hr] at hwp
        exact ⟨v, .inl ⟨hw, hv, fun w _ => hall w⟩, hwp.2⟩
  · rw [if_neg hw] at h
    exact ⟨undef, .inr ⟨by simpa using hw, rfl⟩, h⟩
theorem givesAt_of {o : Oper} {a : Act} {w : World} {K : Act → World → Prop} (hk : kindS P st o.op = .r) (h : opI P ops S st Q o K a w) : ∃ v, GivesAt P ops o v a w ∧ K (a.put o.dst v) w := by
  have hs : st o.op = false := by
    unfold kindS at hk
    split at hk
    · cases hk
    · simp_all
  have hk' : kindOf P o.op = .r := by
    unfold kindS at hk
    rwa [if_neg (by rw [hs]; exact Bool.false_ne_true)] at hk
  unfold opI at h
  by_cases hw : Region.wanted o (yielded ops a.tmps) = true
  · rw [if_pos hw] at h
    obtain ⟨hv, hwp⟩ := h
    rw [if_neg (by rw [hs]; exact Bool.false_ne_true)] at hwp
    unfold Oper.wp at hwp
    cases hr : (execOp a.eval o).run P w with
    | halt e w' => rw [hr] at hwp; cases e <;> simp only [Oper.upon] at hwp; exact hwp.elim
    | ok n w' =>
      obtain ⟨v, rfl⟩ := kind_value (by rw [hk']; decide) hr
      obtain rfl := reads_run (kind_r hk') hr
      rw [hr] at hwp
      exact ⟨v, .inl ⟨hw, hv, hr⟩, hwp.2⟩
  · rw [if_neg hw] at h
    exact ⟨undef, .inr ⟨by simpa using hw, rfl⟩, h⟩

theorem okVals_congr {op : Op} {a b : Act} (h : ∀ x ∈ op.operands, b.eval x = a.eval x) : okVals P op b = okVals P op a := by
  cases op <;> simp only [okVals] <;> try rfl
  case nilCheck x => rw [h x (by simp [Op.operands])]
  case binOp op t x y yt => rw [h x (by simp [Op.operands]), h y (by simp [Op.operands])]
  case unOp op t x => rw [h x (by simp [Op.operands])]
  case convert s d x => rw [h x (by simp [Op.operands])]
  case indexAddr t x i => rw [h i (by simp [Op.operands])]
  case slice t x lo hi mx =>
    rw [h x (by simp [Op.operands])]
    congr 1
    have hh : ∀ y ∈ lo.toList ++ hi.toList ++ mx.toList, isInt (b.eval y) = isInt (a.eval y) := fun y hy => by
      rw [h y]
      simp only [Op.operands]
      simp only [List.mem_append] at hy
      simp only [Array.mem_append]
      rcases hy with (hy | hy) | hy
      · exact .inl (.inl (.inr (by simpa using hy)))
      · exact .inl (.inr (by simpa using hy))
      · exact .inr (by simpa using hy)
    generalize lo.toList ++ hi.toList ++ mx.toList = l at hh
    induction l with
    | nil => rfl
    | cons y l ih => simp only [List.all_cons]; rw [hh y (by simp), ih fun z hz => hh z (by simp [hz])]
  case call c =>
    obtain ⟨callee, args, ats⟩ := c
    dsimp only
    have hh : ∀ x ∈ args.toList, b.eval x = a.eval x := fun x hx => h x (by
      simp only [Op.operands, Call.operands]
      exact Array.mem_append.2 (.inr (by simpa using hx)))
    split <;> try rfl
    all_goals
      generalize args.toList = l at hh
      cases l with
      | nil => rfl
      | cons x l =>
        cases l with
        | nil => dsimp only; rw [hh x (by simp)]
        | cons y l => rfl

theorem okVals_put {o : Oper} {a : Act} {dst : Option Tmp} {v : Value} (h : ∀ d, dst = some d → d ∉ o.looksAt ops) : okVals P o.op (a.put dst v) = okVals P o.op a :=
  okVals_congr fun x hx => Act.eval_put fun d hd hxd => h d hd (by
    subst hxd
    exact List.mem_append_left _ (List.mem_filterMap.2 ⟨.tmp d, by simpa using hx, rfl⟩))

theorem Gives.of_same {o : Oper} {v : Value} {a b : Act} (h : Gives P ops S o v a) (he : execOp b.eval o = execOp a.eval o) (hw : Region.wanted o (yielded ops b.tmps) = Region.wanted o (yielded ops a.tmps))
    (hv : okVals P o.op b = okVals P o.op a) : Gives P ops S o v b := by
  unfold Gives at *; rw [he, hw, hv]; exact h
theorem GivesAt.of_same {o : Oper} {v : Value} {a b : Act} {w : World} (h : GivesAt P ops o v a w) (he : execOp b.eval o = execOp a.eval o) (hw : Region.wanted o (yielded ops b.tmps) = Region.wanted o (yielded ops a.tmps))
    (hv : okVals P o.op b = okVals P o.op a) : GivesAt P ops o v b w := by
  unfold GivesAt at *; rw [he, hw, hv]; exact h
theorem Gives.unique {o : Oper} {u v : Value} {a : Act} {w : World} (hS : S w) (h : Gives P ops S o u a) (k : Gives P ops S o v a) : u = v := by
  rcases h with ⟨h1, _, h2⟩ | ⟨h1, h2⟩ <;> rcases k with ⟨k1, _, k2⟩ | ⟨k1, k2⟩
  · have := (h2 w hS).symm.trans (k2 w hS)
    simpa using this
  · rw [h1] at k1; cases k1
  · rw [h1] at k1; cases k1
  · rw [h2, k2]

variable {oi oj : Oper}

/-- the same operation, in a state that differs in what an operation apart has left (and in the deferred calls) -/
theorem opI_conv {o : Oper} {a b : Act} {w : World} {K K' : Act → World → Prop} (hS : S w) (hd : b.defers = a.defers) (he : execOp b.eval o = execOp a.eval o) (hw : Region.wanted o (yielded ops b.tmps) = Region.wanted o (yielded ops a.tmps))
    (hv : okVals P o.op b = okVals P o.op a) (h : opI P ops S st Q o K a w)
    (hn : ∀ D u w', S w' → K ({ a with defers := D }.put o.dst u) w' → K' ({ b with defers := D }.put o.dst u) w') : opI P ops S st Q o K' b w := by
  unfold opI at *
  rw [hw, hv]
  split
  · rename_i hw'
    rw [if_pos hw'] at h
    refine ⟨h.1, ?_⟩
    have h2 := h.2
    split
    · rename_i hs
      rw [if_pos hs] at h2
      obtain ⟨v, hr, hk⟩ := h2
      have := hn a.defers v w hS hk
      rw [← hd] at this
      exact ⟨v, by rw [he]; exact hr, this⟩
    · rename_i hs
      rw [if_neg hs] at h2
      unfold Oper.wp at *
      rw [he]
      exact upon_state hd h2 fun D u w' hk => ⟨hk.1, hn D u w' hk.1 hk.2⟩
  · rename_i hw'
    rw [if_neg hw'] at h
    have := hn a.defers undef w hS h
    rwa [← hd] at this

theorem opI_some {o : Oper} {a : Act} {w : World} {K : Act → World → Prop} (hS : S w) (h : opI P ops S st Q o K a w) : ∃ D u w', S w' ∧ K ({ a with defers := D }.put o.dst u) w' := by
  unfold opI at h
  split at h
  · have h2 := h.2
    split at h2
    · obtain ⟨v, _, hk⟩ := h2
      exact ⟨a.defers, v, w, hS, hk⟩
    · obtain ⟨D, u, w', hk⟩ := upon_some h2
      exact ⟨D, u, w', hk.1, hk.2⟩
  · exact ⟨a.defers, undef, w, hS, h⟩

theorem put_D (a : Act) (x : Option Tmp) (v : Value) (D : List Deferred) : { a.put x v with defers := D } = { a with defers := D }.put x v := by
  cases x <;> rfl

def quietK (a : Kind) : Bool := a == .p || a == .s
def compat (a b : Kind) : Bool := quietK a || quietK b || (a == .r && b == .r)
theorem quietK_spec {a : Kind} (h : quietK a = true) : a = .p ∨ a = .s := by
  cases a <;> simp_all [quietK]

theorem swap (hap : oi.apart ops oj = true) (hsi : ∀ cs b, oi.op ≠ .select cs b) (hsj : ∀ cs b, oj.op ≠ .select cs b) (hc : compat (kindS P st oi.op) (kindS P st oj.op) = true)
    {K : Act → World → Prop} {a : Act} {w : World} (hS : S w) (h : opI P ops S st Q oi (opI P ops S st Q oj K) a w) : opI P ops S st Q oj (opI P ops S st Q oi K) a w := by
  obtain ⟨h1, h2, h3⟩ := Oper.apart_spec hap
  have ej : ∀ (a : Act) v, execOp (a.put oi.dst v).eval oj = execOp a.eval oj := fun a v => execOp_put oj hsj a _ v h1
  have wj : ∀ (a : Act) v, Region.wanted oj (yielded ops (a.put oi.dst v).tmps) = Region.wanted oj (yielded ops a.tmps) := fun a v => wanted_put oj a _ v h1
  have vj : ∀ (a : Act) v, okVals P oj.op (a.put oi.dst v) = okVals P oj.op a := fun a v => okVals_put h1
  have ei : ∀ (a : Act) v, execOp (a.put oj.dst v).eval oi = execOp a.eval oi := fun a v => execOp_put oi hsi a _ v h3
  have wi : ∀ (a : Act) v, Region.wanted oi (yielded ops (a.put oj.dst v).tmps) = Region.wanted oi (yielded ops a.tmps) := fun a v => wanted_put oi a _ v h3
  have vi : ∀ (a : Act) v, okVals P oi.op (a.put oj.dst v) = okVals P oi.op a := fun a v => okVals_put h3
  have hD : ∀ (o : Oper) (a : Act) D, execOp ({ a with defers := D } : Act).eval o = execOp a.eval o ∧ Region.wanted o (yielded ops ({ a with defers := D } : Act).tmps) = Region.wanted o (yielded ops a.tmps) ∧ okVals P o.op { a with defers := D } = okVals P o.op a := by
    intro o a D
    have he : ({ a with defers := D } : Act).eval = a.eval := by funext x; cases x <;> rfl
    exact ⟨by rw [he], rfl, okVals_congr fun x _ => by rw [he]⟩
  have comm : ∀ (a : Act) v u, (a.put oi.dst v).put oj.dst u = (a.put oj.dst u).put oi.dst v := fun a v u => Act.put_comm a v u h2
  by_cases hi : quietK (kindS P st oi.op) = true
  · obtain ⟨v, hg, hj⟩ := gives_of (quietK_spec hi) h
    refine opI_conv (a := a.put oi.dst v) hS (by cases oi.dst <;> rfl) (ej a v).symm (wj a v).symm (vj a v).symm hj ?_
    intro D u w' hS' hk
    rw [put_D, comm] at hk
    exact Gives.opI (hg.of_same ((ei _ u).trans (hD oi a D).1) ((wi _ u).trans (hD oi a D).2.1) ((vi _ u).trans (hD oi a D).2.2)) hS' hk
  · by_cases hj : quietK (kindS P st oj.op) = true
    · obtain ⟨D, u, w', hS', hk⟩ := opI_some hS h
      obtain ⟨v, hg, _⟩ := gives_of (quietK_spec hj) hk
      have hg' : Gives P ops S oj v a := hg.of_same (((ej _ u).trans (hD oj a D).1).symm) (((wj _ u).trans (hD oj a D).2.1).symm) (((vj _ u).trans (hD oj a D).2.2).symm)
      refine hg'.opI hS ?_
      refine opI_conv (a := a) hS (by cases oj.dst <;> rfl) (ei a v) (wi a v) (vi a v) h ?_
      intro D2 u2 w2 hS2 hk2
      obtain ⟨v2, hg2, hK2⟩ := gives_of (quietK_spec hj) hk2
      have : v2 = v := hg2.unique hS2 (hg'.of_same ((ej _ u2).trans (hD oj a D2).1) ((wj _ u2).trans (hD oj a D2).2.1) ((vj _ u2).trans (hD oj a D2).2.2))
      rw [this, comm] at hK2
      rw [put_D]
      exact hK2
    · have hir : kindS P st oi.op = .r := by
        cases hk : kindS P st oi.op <;> cases hk' : kindS P st oj.op <;> simp_all [compat, quietK]
      have hjr : kindS P st oj.op = .r := by
        cases hk : kindS P st oi.op <;> cases hk' : kindS P st oj.op <;> simp_all [compat, quietK]
      have hsi' : st oi.op = false := by
        unfold kindS at hir
        split at hir
        · cases hir
        · simp_all
      have hsj' : st oj.op = false := by
        unfold kindS at hjr
        split at hjr
        · cases hjr
        · simp_all
      obtain ⟨v, hg, hk⟩ := givesAt_of hir h
      obtain ⟨u, hgj, hK⟩ := givesAt_of hjr hk
      refine GivesAt.opI hsj' (hgj.of_same (ej a v).symm (wj a v).symm (vj a v).symm) hS ?_
      refine GivesAt.opI hsi' (hg.of_same (ei a u) (wi a u) (vi a u)) hS ?_
      rw [comm] at hK
      exact hK

def noS : World → Prop := fun _ => True
def noSt : Op → Bool := fun _ => false
def depsOf (ops : Array Oper) (i : Nat) : List Nat :=
  (List.range ops.size).foldl (fun acc j => if i < j && ((ops[j]?).map fun o => o.after.toList.any fun e => Region.binds .any e && (e.on == i || acc.contains e.on)).getD false then acc ++ [j] else acc) []

/-- the last operation stands behind each other one -/
def lastB (ops : Array Oper) : Bool := (List.range ops.size).all fun i => i + 1 == ops.size || (depsOf ops i).contains (ops.size - 1)

/-! ### Whatever order -/
def wpAnyI (P : Program) (ops : Array Oper) (S : World → Prop) (st : Op → Bool) (Q : Exit → Act → World → Prop) : Nat → Array Bool → Act → World → Prop
  | 0, listed, a, w => Region.ready .any ops listed = [] ∧ Q .normal a w
  | fuel + 1, listed, a, w =>
    (Region.ready .any ops listed = [] → Q .normal a w) ∧
    ∀ i ∈ Region.ready .any ops listed, ∃ oi, ops[i]? = some oi ∧ (opI P ops S st Q oi (wpAnyI P ops S st Q fuel (listed.setIfInBounds i true)) a w ∨
      (i + 1 = ops.size ∧ lastB ops = true ∧ Region.ready .any ops (listed.setIfInBounds i true) = [] ∧ opI P ops noS noSt Q oi (fun a w => Q .normal a w) a w))

theorem wp_of_onlyN {o : Oper} {a : Act} {w : World} {K : Act → World → Prop} (h : o.wp P a w K (OnlyN Q)) : o.wp P a w K Q := by
  unfold Oper.wp at *
  generalize (execOp a.eval o).run P w = r at *
  cases r with
  | halt e w' => cases e <;> simp only [Oper.upon] at h ⊢; exact h.elim
  | ok n w' =>
    cases n <;> simp only [Oper.upon] at h ⊢ <;> try exact h
    refine Calls.mono h fun e w'' he => ?_
    cases e with
    | returned v => exact he
    | panicked c => exact he.elim
    | outgrown => exact (onlyN_false he).elim

theorem wpAny_done {listed : Array Bool} {a : Act} {w : World} (hr : Region.ready .any ops listed = []) (h : Q .normal a w) : ∀ (fuel : Nat), wpAny P .any ops Q fuel listed a w
  | 0 => ⟨hr, h⟩
  | fuel + 1 => ⟨fun _ => h, fun i hi => by rw [hr] at hi; cases hi⟩

theorem wpAny_of_I : ∀ (fuel : Nat) (listed : Array Bool) (a : Act) (w : World), S w → wpAnyI P ops S st Q fuel listed a w → wpAny P .any ops Q fuel listed a w
  | 0, _, _, _, _, h => h
  | fuel + 1, listed, a, w, hS, h => by
    refine ⟨h.1, fun i hi => ?_⟩
    obtain ⟨oi, ho, hop⟩ := h.2 i hi
    unfold wpOp
    rw [ho]
    dsimp only
    rcases hop with hop | ⟨_, _, hr, hop⟩
    · unfold opI at hop
      split
      · rename_i hw
        rw [if_pos hw] at hop
        have h2 := hop.2
        split at h2
        · obtain ⟨v, hr, hk⟩ := h2
          refine .inl ?_
          unfold Oper.wp
          rw [hr w hS]
          exact wpAny_of_I fuel _ _ _ hS hk
        · exact .inl (Oper.wp_mono (fun a w hk => wpAny_of_I fuel _ a w hk.1 hk.2) (wp_of_onlyN h2))
      · rename_i hw
        rw [if_neg hw] at hop
        exact wpAny_of_I fuel _ _ _ hS hop
    · unfold opI at hop
      split
      · rename_i hw
        rw [if_pos hw] at hop
        have h2 := hop.2
        rw [if_neg (show ¬ noSt oi.op = true from Bool.false_ne_true)] at h2
        exact .inl (Oper.wp_mono (fun a w hk => wpAny_done hr hk.2 fuel) (wp_of_onlyN h2))
      · rename_i hw
        rw [if_neg hw] at hop
        exact wpAny_done hr hop fuel

theorem any_first {i : Nat} {oi : Oper} (hi : ops[i]? = some oi) (hsel : ∀ (j : Nat) (o : Oper) cs b, ops[j]? = some o → o.op ≠ .select cs b) (D : List Nat)
    (hD : ∀ j ∈ D, ∀ oj, ops[j]? = some oj → ∃ e ∈ oj.after, Region.binds .any e = true ∧ (e.on = i ∨ e.on ∈ D))
    (hlast : lastB ops = true → ∀ j, j + 1 = ops.size → j ≠ i → j ∈ D) :
    ∀ (fuel : Nat) (listed : Array Bool) (a : Act) (w : World), S w →
      (∀ j oj, ops[j]? = some oj → j ≠ i → listed.getD j true = false → j ∉ D → oi.apart ops oj = true ∧ compat (kindS P st oi.op) (kindS P st oj.op) = true) →
      (∀ j ∈ D, listed.getD j false = false) →
      i ∈ Region.ready .any ops listed → opI P ops S st Q oi (wpAnyI P ops S st Q fuel (listed.setIfInBounds i true)) a w → wpAnyI P ops S st Q (fuel + 1) listed a w := by
  intro fuel
  induction fuel with
  | zero =>
    intro listed a w hS _ _ hr H
    refine ⟨fun h => (by rw [h] at hr; cases hr), fun j hj => ?_⟩
    by_cases hji : j = i
    · subst hji; exact ⟨oi, hi, .inl H⟩
    · have h0 := ready_mono hj hji
      obtain ⟨_, _, _, _, hK⟩ := opI_some hS H
      rw [hK.1] at h0
      cases h0
  | succ fuel ih =>
    intro listed a w hS hfree hDl hr H
    refine ⟨fun h => (by rw [h] at hr; cases hr), fun j hj => ?_⟩
    by_cases hji : j = i
    · subst hji; exact ⟨oi, hi, .inl H⟩
    · obtain ⟨hjun, oj, hoj, hall⟩ := mem_ready.1 hj
      have hiun : listed.getD i false = true → False := fun h1 => by
        have h0 := (mem_ready.1 hr).1
        rcases Nat.lt_or_ge i listed.size with h' | h'
        · simp [h'] at h0 h1; rw [h0] at h1; cases h1
        · simp [Array.getElem?_eq_none h'] at h1
      have hjD : j ∉ D := fun hm => by
        obtain ⟨e, he, hb, h⟩ := hD j hm oj hoj
        have h1 := hall e he hb
        rcases h with h | h
        · rw [h] at h1; exact hiun h1
        · rw [hDl _ h] at h1; cases h1
      obtain ⟨hap, hco⟩ := hfree j oj hoj hji hjun hjD
      have hstep : opI P ops S st Q oi (opI P ops S st Q oj (wpAnyI P ops S st Q fuel ((listed.setIfInBounds i true).setIfInBounds j true))) a w := by
        refine opI_mono hS (fun a' w' _ hk => ?_) H
        obtain ⟨oj', hoj', h⟩ := hk.2 j (ready_mono hj hji)
        rw [hoj] at hoj'
        obtain rfl := Option.some.inj hoj'
        rcases h with h | ⟨hjs, hlb, _, _⟩
        · exact h
        · exact (hjD (hlast hlb j hjs hji)).elim
      have hsw := swap hap (fun cs b => hsel i oi cs b hi) (fun cs b => hsel j oj cs b hoj) hco hS hstep
      refine ⟨oj, hoj, .inl (opI_mono hS (fun a' w' hS' hk => ?_) hsw)⟩
      refine ih (listed.setIfInBounds j true) a' w' hS' ?_ ?_ (ready_mono hr (Ne.symm hji)) ?_
      · intro k ok hk' hki hun hkD
        refine hfree k ok hk' hki ?_ hkD
        by_cases hjk : j = k
        · subst hjk; exact hjun
        · rw [getD_set_ne true hjk] at hun; exact hun
      · intro k hk'
        have hjk : j ≠ k := fun h => hjD (h ▸ hk')
        rw [getD_set_ne false hjk]; exact hDl k hk'
      · rw [Array.setIfInBounds_comm _ _ hji]
        exact hk

/-- the walk in the order of the text -/
def wpI (P : Program) (ops : Array Oper) (S : World → Prop) (st : Op → Bool) (Q : Exit → Act → World → Prop) : List Oper → Act → World → Prop
  | [], a, w => Q .normal a w
  | o :: rest, a, w => opI P ops S st Q o (wpI P ops S st Q rest) a w ∨ (rest = [] ∧ lastB ops = true ∧ st o.op = false ∧ opI P ops noS noSt Q o (fun a w => Q .normal a w) a w)

def okB (P : Program) (st : Op → Bool) (ops : Array Oper) : Bool :=
  Region.noSelect ops && (List.range ops.size).all fun i =>
    match ops[i]? with
    | none => true
    | some oi =>
      let D := depsOf ops i
      (oi.after.toList.all fun e => !Region.binds .any e || e.on < i) &&
      (D.all fun j => i < j && match ops[j]? with | some oj => oj.after.toList.any (fun e => Region.binds .any e && (e.on == i || D.contains e.on)) | none => true) &&
      (List.range ops.size).all fun j => j ≤ i || D.contains j || match ops[j]? with | some oj => oi.apart ops oj && compat (kindS P st oi.op) (kindS P st oj.op) | none => true

theorem any_lex (hB : okB P st ops = true) : ∀ (l : List Oper) (k : Nat) (listed : Array Bool) (a : Act) (w : World), S w → k + l.length = ops.size → (∀ j, l[j]? = ops[k + j]?) → listed.size = ops.size →
    (∀ j, j < ops.size → listed[j]? = some (decide (j < k))) → wpI P ops S st Q l a w → wpAnyI P ops S st Q l.length listed a w
  | [], k, listed, a, w, _, hk, _, hs, hl, h => by
    refine ⟨?_, h⟩
    rw [List.eq_nil_iff_forall_not_mem]
    intro j hj
    obtain ⟨h0, o, ho, _⟩ := mem_ready.1 hj
    have hlt : j < ops.size := (Array.getElem?_eq_some_iff.1 ho).1
    have hjk : j < k := by simp at hk; omega
    have := hl j hlt
    simp [Array.getD_eq_getD_getElem?, this, hjk] at h0
  | o :: l, k, listed, a, w, hS, hk, hl0, hs, hl, h => by
    have h0 : ops[k]? = some o := by simpa using (hl0 0).symm
    have hklt : k < ops.size := (Array.getElem?_eq_some_iff.1 h0).1
    unfold okB at hB
    simp only [Bool.and_eq_true] at hB
    obtain ⟨hsel, hall⟩ := hB
    have hk1 := List.all_eq_true.1 hall k (List.mem_range.2 hklt)
    rw [h0] at hk1
    simp only [Bool.and_eq_true] at hk1
    obtain ⟨⟨he, hD⟩, hf⟩ := hk1
    have get : ∀ j d, j < ops.size → listed.getD j d = decide (j < k) := fun j d hj => by simp [Array.getD_eq_getD_getElem?, hl j hj]
    have hready : k ∈ Region.ready .any ops listed := by
      rw [mem_ready]
      refine ⟨by rw [get k true hklt]; simp, o, h0, fun e hem hb => ?_⟩
      have := List.all_eq_true.1 he e (by simpa using hem)
      simp only [hb, Bool.not_true, Bool.false_or, decide_eq_true_eq] at this
      rw [get e.on false (by omega)]; simpa using this
    rcases h with h | ⟨rfl, hlb, _, h⟩
    case inr =>
      have hks : k + 1 = ops.size := by simpa using hk
      refine ⟨fun hr => (by rw [hr] at hready; cases hready), fun i hi => ?_⟩
      obtain ⟨hi0, oi, hoi, _⟩ := mem_ready.1 hi
      have hilt : i < ops.size := (Array.getElem?_eq_some_iff.1 hoi).1
      rw [get i true hilt] at hi0
      have hik : ¬ i < k := by simpa using hi0
      obtain rfl : i = k := by omega
      refine ⟨o, h0, .inr ⟨hks, hlb, ?_, h⟩⟩
      rw [List.eq_nil_iff_forall_not_mem]
      intro j hj
      obtain ⟨hj0, oj, hoj, _⟩ := mem_ready.1 hj
      have hjlt : j < ops.size := (Array.getElem?_eq_some_iff.1 hoj).1
      by_cases hij : i = j
      · subst hij
        rw [Array.getD_eq_getD_getElem?, Array.getElem?_setIfInBounds, if_pos rfl, if_pos (by omega)] at hj0
        simp at hj0
      · rw [getD_set_ne true hij, get j true hjlt] at hj0
        have : ¬ j < i := by simpa using hj0
        omega
    refine any_first h0 (Region.noSelect_spec hsel) (depsOf ops k) ?_ ?_ l.length listed a w hS ?_ ?_ ?_ ?_
    · intro j hj oj hoj
      have := List.all_eq_true.1 hD j hj
      simp only [Bool.and_eq_true, hoj, List.any_eq_true, Bool.or_eq_true, beq_iff_eq, List.contains_iff_mem] at this
      obtain ⟨_, e, he1, he2, he3⟩ := this
      exact ⟨e, by simpa using he1, he2, he3⟩
    · intro hlb j hjs hjk
      have := List.all_eq_true.1 hlb k (List.mem_range.2 hklt)
      simp only [Bool.or_eq_true, beq_iff_eq, List.contains_iff_mem] at this
      rcases this with h' | h'
      · omega
      · rwa [show j = ops.size - 1 by omega]
    · intro j oj hoj hjk hun hjD
      have hjlt : j < ops.size := (Array.getElem?_eq_some_iff.1 hoj).1
      have h2 := get j true hjlt
      rw [hun] at h2
      have hge : ¬ j < k := by simpa using h2.symm
      have := List.all_eq_true.1 hf j (List.mem_range.2 hjlt)
      simp only [hoj, Bool.or_eq_true, Bool.and_eq_true, decide_eq_true_eq, List.contains_iff_mem] at this
      rcases this with (h3 | h3) | h3
      · omega
      · exact (hjD h3).elim
      · exact h3
    · intro j hj
      have := List.all_eq_true.1 hD j hj
      simp only [Bool.and_eq_true, decide_eq_true_eq] at this
      by_cases hjlt : j < ops.size
      · rw [get j false hjlt]; simp; omega
      · have : listed[j]? = none := Array.getElem?_eq_none (by omega)
        simp [Array.getD_eq_getD_getElem?, this]
    · exact hready
    · refine opI_mono hS (fun a' w' hS' hk' => ?_) h
      refine any_lex (by unfold okB; simp only [Bool.and_eq_true]; exact ⟨hsel, hall⟩) l (k + 1) _ a' w' hS' (by simp at hk; omega) (fun j => by have := hl0 (j + 1); simpa [Nat.add_assoc, Nat.add_comm 1 j] using this) (by simpa using hs) ?_ hk'
      intro j hj
      rw [Array.getElem?_setIfInBounds]
      by_cases hkj : k = j
      · subst hkj
        rw [if_pos rfl, if_pos (by omega)]
        simp
      · rw [if_neg hkj, hl j hj]
        congr 1
        apply decide_eq_decide.2
        omega

/-- **A REGION THAT DRAWS ITS ORDER, BY ONE WALK IN THE ORDER OF THE TEXT.** S holds of every world that is met; 'st' names the loads that yield one value in each such world. -/
theorem wp_region_textS (S : World → Prop) (st : Op → Bool) {id : Nat} {a : Act} {w : World} {l : List Oper} (hm : P.follows .mixedOrders = true) (hB : okB P st l.toArray = true) (hS : S w.drew)
    (h : wpI P l.toArray S st Q l a w.drew) : (Code.region id l.toArray true).wp P Q a w := by
  refine wp_region_any hm (wpAny_of_I (S := S) (st := st) _ _ _ _ hS ?_)
  have := any_lex (Q := Q) (S := S) hB l 0 (Array.replicate l.toArray.size false) a w.drew hS (by simp) (by simp) (by simp) (by intro j hj; simp at hj; simp [hj]) h
  simpa using this
theorem wp_region_text {id : Nat} {a : Act} {w : World} {l : List Oper} (hm : P.follows .mixedOrders = true) (hB : okB P noSt l.toArray = true)
    (h : wpI P l.toArray noS noSt Q l a w.drew) : (Code.region id l.toArray true).wp P Q a w := wp_region_textS noS noSt hm hB trivial h

/-! ### Steps of that walk -/
theorem wpI_nil {a : Act} {w : World} (h : Q .normal a w) : wpI P ops S st Q [] a w := h
theorem opI_step {o : Oper} {a : Act} {w : World} {K : Act → World → Prop} (hg : o.guard = none) (hs : st o.op = false) (hv : okVals P o.op a = true)
    (h1 : wpList P ops (OnlyN (fun _ a w => S w ∧ K a w)) [o] a w) : opI P ops S st Q o K a w := by
  unfold opI
  have hw : Region.wanted o (yielded ops a.tmps) = true := by simp [Region.wanted, hg]
  rw [if_pos hw]
  refine ⟨hv, ?_⟩
  rw [if_neg (by rw [hs]; exact Bool.false_ne_true)]
  unfold wpList at h1
  rw [if_pos hw] at h1
  rcases h1 with h1 | ⟨_, h1⟩
  · unfold Oper.wp at *
    generalize (execOp a.eval o).run P w = r at *
    cases r with
    | halt e w' => cases e <;> simp only [Oper.upon] at h1 ⊢; exact h1.elim
    | ok n w' =>
      cases n <;> simp only [Oper.upon] at h1 ⊢ <;> exact h1
  · exact (onlyN_false h1).elim
/-- an operation without a guard: by the laws of 'wpList' -/
theorem wpI_step {o : Oper} {rest : List Oper} {a : Act} {w : World} (hg : o.guard = none) (hs : st o.op = false) (hv : okVals P o.op a = true)
    (h : ∀ K : Act → World → Prop, (∀ a w, wpI P ops S st Q rest a w → K a w) → wpList P ops (OnlyN (fun _ a w => S w ∧ K a w)) [o] a w) : wpI P ops S st Q (o :: rest) a w :=
  .inl (opI_step hg hs hv (h (wpI P ops S st Q rest) (fun _ _ h => h)))
/-- the last operation, where all others stand ahead of it: it need not keep S -/
theorem wpI_last {o : Oper} {a : Act} {w : World} (hlb : lastB ops = true) (hs : st o.op = false) (hg : o.guard = none) (hv : okVals P o.op a = true)
    (h : ∀ K : Act → World → Prop, (∀ a w, Q .normal a w → K a w) → wpList P ops (OnlyN (fun _ a w => noS w ∧ K a w)) [o] a w) : wpI P ops S st Q [o] a w :=
  .inr ⟨rfl, hlb, hs, opI_step hg rfl hv (h (fun a w => Q .normal a w) (fun _ _ h => h))⟩
/-- an operation that yields one value in every world of S -/
theorem wpI_steady {o : Oper} {rest : List Oper} {a : Act} {w : World} (v : Value) (hg : o.guard = none) (hs : st o.op = true) (hv : okVals P o.op a = true)
    (hr : ∀ w', S w' → (execOp a.eval o).run P w' = .ok (.value v) w') (h : wpI P ops S st Q rest (a.put o.dst v) w) : wpI P ops S st Q (o :: rest) a w := by
  refine .inl ?_
  show opI P ops S st Q o _ a w
  unfold opI
  have hw : Region.wanted o (yielded ops a.tmps) = true := by simp [Region.wanted, hg]
  rw [if_pos hw]
  refine ⟨hv, ?_⟩
  rw [if_pos hs]
  exact ⟨v, hr, h⟩

/-- an operation whose guard says no, or yes -/
theorem wpI_skip {o : Oper} {rest : List Oper} {a : Act} {w : World} (hw : Region.wanted o (yielded ops a.tmps) = false) (h : wpI P ops S st Q rest (a.put o.dst undef) w) : wpI P ops S st Q (o :: rest) a w := by
  refine .inl ?_
  show opI P ops S st Q o _ a w
  unfold opI
  rw [if_neg (by rw [hw]; exact Bool.false_ne_true)]
  exact h
theorem wpI_want {d : Option Tmp} {op : Op} {ty : TypeId} {pos : String} {aft : Array Edge} {g : Nat × Bool} {rest : List Oper} {a : Act} {w : World} (hw : Region.wanted { dst := d, op := op, type := ty, pos := pos, after := aft, guard := some g } (yielded ops a.tmps) = true)
    (h : wpI P ops S st Q ({ dst := d, op := op, type := ty, pos := pos, after := aft, guard := none } :: rest) a w) :
    wpI P ops S st Q ({ dst := d, op := op, type := ty, pos := pos, after := aft, guard := some g } :: rest) a w := by
  have h2 : opI P ops S st Q { dst := d, op := op, type := ty, pos := pos, after := aft, guard := none } (wpI P ops S st Q rest) a w ∨ (rest = [] ∧ lastB ops = true ∧ st op = false ∧ opI P ops noS noSt Q { dst := d, op := op, type := ty, pos := pos, after := aft, guard := none } (fun a w => Q .normal a w) a w) := h
  refine h2.imp (fun h2 => ?_) (fun h2 => ⟨h2.1, h2.2.1, h2.2.2.1, ?_⟩)
  · show opI P ops S st Q _ _ a w
    unfold opI at *
    rw [if_pos hw]
    rw [if_pos (by simp [Region.wanted])] at h2
    exact h2
  · have h3 := h2.2.2.2
    unfold opI at *
    rw [if_pos hw]
    rw [if_pos (by simp [Region.wanted])] at h3
    exact h3

/-! gates and small facts for the walk's arms -/
theorem gI {o : Oper} {rest : List Oper} {a : Act} {w : World} (h : wpI P ops S st Q (o :: rest) a w) : wpI P ops S st Q (o :: rest) a w := h
theorem gOnly {K : Act → World → Prop} {a : Act} {w : World} (hS : S w) (h : K a w) : OnlyN (fun _ a w => S w ∧ K a w) .normal a w := ⟨hS, h⟩
theorem gOnly0 {K : Act → World → Prop} {a : Act} {w : World} (h : K a w) : OnlyN (fun _ a w => noS w ∧ K a w) .normal a w := ⟨trivial, h⟩
theorem ok_int {op : BinOp} {t yt : TypeId} {x y : Operand} {a : Act} {k k' : IntKind} {m n : Int} (hx : a.eval x = .int k m) (hy : a.eval y = .int k' n) : okVals P (.binOp op t x y yt) a = true := by
  simp [okVals, hx, hy]
theorem ok_bool {op : BinOp} {t yt : TypeId} {x y : Operand} {a : Act} {m n : Bool} (hx : a.eval x = .bool m) (hy : a.eval y = .bool n) : okVals P (.binOp op t x y yt) a = true := by
  simp [okVals, hx, hy]
theorem ok_str {op : BinOp} {t yt : TypeId} {x y : Operand} {a : Act} {m n : ByteArray} (hx : a.eval x = .string m) (hy : a.eval y = .string n) : okVals P (.binOp op t x y yt) a = true := by
  simp [okVals, hx, hy]
theorem ok_agg {op : BinOp} {t yt : TypeId} {x y : Operand} {a : Act} (h : flat P t = false) : okVals P (.binOp op t x y yt) a = true := by
  simp [okVals, h]
theorem ok_conv {s d : TypeId} {x : Operand} {a : Act} {k : IntKind} {m : Int} (hx : a.eval x = .int k m) : okVals P (.convert s d x) a = true := by
  simp [okVals, hx, isInt]
theorem ok_convS {s d : TypeId} {x : Operand} {a : Act} (h : flatInt P s = false) : okVals P (.convert s d x) a = true := by
  simp [okVals, h]


/-! what a load yields -/
def aggT (P : Program) (T : TypeId) : Option Bool := (P.underlying T).map fun d => match d with | .struct _ | .array _ _ => true | _ => false

theorem run_isAgg {T : TypeId} {b : Bool} (hT : aggT P T = some b) (w : World) : (isAgg T).run P w = .ok b w := by
  obtain ⟨d, hd, hb⟩ := Option.map_eq_some_iff.1 hT
  unfold isAgg
  rw [Sem.run_bind, run_underlying hd]
  subst hb
  cases d <;> rfl
theorem run_load_one {d : Option Tmp} {ty : TypeId} {pos : String} {aft : Array Edge} {gd : Option (Nat × Bool)} {T : TypeId} {x : Operand} {a : Act} {w : World} {ad : Addr} {v : Value}
    (hx : a.eval x = .pointer (some ad)) (hT : aggT P T = some false) (hc : w.cell? ad = some v) :
    (execOp a.eval { dst := d, op := .load T x, type := ty, pos := pos, after := aft, guard := gd }).run P w = .ok (.value v) w := by
  simp [execOp, Instr.loadAt, hx, Instr.sureAddr, loadVar, run_isAgg hT, hc]
theorem run_load_many {d : Option Tmp} {ty : TypeId} {pos : String} {aft : Array Edge} {gd : Option (Nat × Bool)} {T : TypeId} {x : Operand} {a : Act} {w : World} {ad : Addr} (cs : List Value)
    (hx : a.eval x = .pointer (some ad)) (hT : aggT P T = some true) (hi : (P.info? T).map (·.size) = some cs.length) (hc : ∀ j v, cs[j]? = some v → w.cell? (ad.add j) = some v) :
    (execOp a.eval { dst := d, op := .load T x, type := ty, pos := pos, after := aft, guard := gd }).run P w = .ok (.value (.agg cs.toArray)) w := by
  obtain ⟨inf, hinf, hs⟩ := Option.map_eq_some_iff.1 hi
  have hl := run_loadCells_list (P := P) w ad cs hc
  simp [execOp, Instr.loadAt, hx, Instr.sureAddr, loadVar, run_isAgg hT, sizeOf, typeInfo, hinf, hs, hl]

/-- a load of a whole variable, wherever it stands -/
theorem own_loadCells {d : Option Tmp} {ty : TypeId} {pos : String} {aft : Array Edge} {rest : List Oper} {T : TypeId} {x : Operand} {a : Act} {w : World} {ad : Addr} (cs : List Value)
    (hx : a.eval x = .pointer (some ad)) (hT : aggT P T = some true) (hi : (P.info? T).map (·.size) = some cs.length) (hc : ∀ j v, cs[j]? = some v → w.cell? (ad.add j) = some v)
    (h : wpList P ops Q rest (a.put d (.agg cs.toArray)) w) :
    wpList P ops Q ({ dst := d, op := .load T x, type := ty, pos := pos, after := aft, guard := none } :: rest) a w := by
  refine wpList_plain rfl fun K hK => ?_
  unfold Oper.wp
  rw [run_load_many cs hx hT hi hc]
  exact hK _ _ h


theorem run_value {d : Option Tmp} {ty : TypeId} {pos : String} {aft : Array Edge} {gd : Option (Nat × Bool)} {s t : TypeId} {x : Operand} {a : Act} {w : World} {u v : Value}
    (hx : a.eval x = u) (h : (convert s t u).run P w = .ok v w) : (execOp a.eval { dst := d, op := .convert s t x, type := ty, pos := pos, after := aft, guard := gd }).run P w = .ok (.value v) w := by
  simp [execOp, hx, h]
theorem run_arrayAt {arr e : TypeId} {n : Nat} (h : P.underlying arr = some (.array n e)) (a : Option Addr) (len cap : Nat) (hl : n ≤ len) (w : World) :
    (Instr.arrayAt arr (.slice a len cap)).run P w = .ok (.pointer a) w := by
  unfold Instr.arrayAt
  rw [Sem.run_bind, run_underlying h, Result.andThen_ok]
  simp [show ¬ len < n by omega]

end Go.Ord
