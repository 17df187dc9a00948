/- Arms whose values are read off the frame as they stand there ('tmpAt'): what they leave stays small. -/
import Derived.Test.YtekiloagckkneaaDoorG
namespace Go.Own
open Go.RowKit Go.Ord

def tmpAt (a : Act) (j : Nat) : Option Value := a.tmps.toList[j]?
theorem eval_tmp {a : Act} {j : Nat} {v : Value} (h : tmpAt a j = some v) : a.eval (.tmp j) = v := by
  unfold tmpAt at h
  rw [Array.getElem?_toList] at h
  simp [Act.eval, Array.getD_eq_getD_getElem?, h]

section
variable {P : Program} {ops : Array Oper} {Q : Exit → Act → World → Prop} {a : Act} {w w0 : World} {L : List Res} {rest : List Oper}
variable {d : Option Tmp} {ty : TypeId} {pos : String} {aft : Array Edge}

/-- a store of a whole variable -/
theorem stX (hO : Own w0 w L) (i : Nat) {T : TypeId} {p q : Tmp} {b : Nat} {C C' : Array Value} {t : TypeId}
    (hi : L[i]? = some (.blk b (.cells C t (0, 0)))) (hx : tmpAt a p = some (.pointer (some ⟨b, 0, none⟩))) (hy : tmpAt a q = some (.agg C'))
    (hsz : C'.size = C.size) (h1 : C'.toList.all (·.oneCell') = true) (hu : (P.info? T).map (·.size) = some C'.size)
    (h : ∀ w', Own w0 w' (L.set i (.blk b (.cells C' t (0, 0)))) → wpList P ops Q rest (a.put d undef) w') :
    wpList P ops Q ({ dst := d, op := .store T (.tmp p) (.tmp q), type := ty, pos := pos, after := aft, guard := none } :: rest) a w :=
  own_storeAll hO i T (.tmp p) (.tmp q) b C C' t (.agg C') hi (eval_tmp hx) (eval_tmp hy) rfl hu hsz h1 h
/-- a store of one cell -/
theorem stC (hO : Own w0 w L) (i : Nat) {T : TypeId} {p q : Tmp} {b off : Nat} {C : Array Value} {t : TypeId} {v : Value}
    (hi : L[i]? = some (.blk b (.cells C t (0, 0)))) (hx : tmpAt a p = some (.pointer (some ⟨b, off, none⟩))) (hy : tmpAt a q = some v) (hoff : off < C.size)
    (h1 : v.oneCell' = true) (hu : (P.info? T).map (·.size) = some 1)
    (h : ∀ w', Own w0 w' (L.set i (.blk b (.cells (C.setIfInBounds off v) t (0, 0)))) → wpList P ops Q rest (a.put d undef) w') :
    wpList P ops Q ({ dst := d, op := .store T (.tmp p) (.tmp q), type := ty, pos := pos, after := aft, guard := none } :: rest) a w :=
  own_store hO i T (.tmp p) (.tmp q) b off C t v hi (eval_tmp hx) (eval_tmp hy) hoff hu h1 h
/-- a variable that comes to lie in memory: a struct, an array -/
theorem bxA (hO : Own w0 w L) {T : TypeId} {p : Tmp} {C : Array Value} (hx : tmpAt a p = some (.agg C))
    (h : ∀ b w', Own w0 w' (.blk b (.cells C T (0, 0)) :: L) → wpList P ops Q rest (a.put d (.pointer (some ⟨b, 0, none⟩))) w') :
    wpList P ops Q ({ dst := d, op := .box T (.tmp p), type := ty, pos := pos, after := aft, guard := none } :: rest) a w :=
  own_box hO T (.tmp p) (.agg C) (eval_tmp hx) h
/-- .. a single cell -/
theorem bx1 (hO : Own w0 w L) {T : TypeId} {p : Tmp} {v : Value} (hx : tmpAt a p = some v) (h1 : v.oneCell' = true)
    (h : ∀ b w', Own w0 w' (.blk b (.cells #[v] T (0, 0)) :: L) → wpList P ops Q rest (a.put d (.pointer (some ⟨b, 0, none⟩))) w') :
    wpList P ops Q ({ dst := d, op := .box T (.tmp p), type := ty, pos := pos, after := aft, guard := none } :: rest) a w := by
  have hc : v.cells = #[v] := by cases v <;> simp_all [Value.cells, Value.oneCell']
  refine own_box hO T (.tmp p) v (eval_tmp hx) ?_
  rw [hc]
  exact h
/-- loads -/
theorem ldC (hO : Own w0 w L) (i : Nat) {T : TypeId} {p : Tmp} {b off : Nat} {C : Array Value} {t : TypeId} {fr : Nat × Nat} {v : Value}
    (hi : L[i]? = some (.blk b (.cells C t fr))) (hx : tmpAt a p = some (.pointer (some ⟨b, off, none⟩))) (hT : aggT P T = some false) (hv : C.toList[off]? = some v)
    (h : wpList P ops Q rest (a.put d v) w) :
    wpList P ops Q ({ dst := d, op := .load T (.tmp p), type := ty, pos := pos, after := aft, guard := none } :: rest) a w :=
  ld_blk hO i hi (eval_tmp hx) hv hT h
theorem ldX (hO : Own w0 w L) (i : Nat) {T : TypeId} {p : Tmp} {b : Nat} {C : Array Value} {t : TypeId} {fr : Nat × Nat}
    (hi : L[i]? = some (.blk b (.cells C t fr))) (hx : tmpAt a p = some (.pointer (some ⟨b, 0, none⟩))) (hT : aggT P T = some true) (hs : (P.info? T).map (·.size) = some C.size)
    (h : wpList P ops Q rest (a.put d (.agg C)) w) :
    wpList P ops Q ({ dst := d, op := .load T (.tmp p), type := ty, pos := pos, after := aft, guard := none } :: rest) a w :=
  ld_all hO i hi (eval_tmp hx) hT hs h
/-- '==', '!=' of two arrays: what is known of it is looked for behind this step -/
theorem eqD {t yt : TypeId} {p q : Tmp} {A B : Array Value} (hg : P.eqGuardType P.depth t = false) (hx : tmpAt a p = some (.agg A)) (hy : tmpAt a q = some (.agg B))
    (h : ∃ r, (∀ w, (binOp .eql t (.agg A) (.agg B)).run P w = .ok (.bool r) w) ∧ wpList P ops Q rest (a.put d (.bool r)) w) : wpList P ops Q ({ dst := d, op := .binOp .eql t (.tmp p) (.tmp q) yt, type := ty, pos := pos, after := aft, guard := none } :: rest) a w := by
  obtain ⟨r, hb, h⟩ := h
  exact eq_arr (eval_tmp hx) (eval_tmp hy) hb hg h
theorem neD {t yt : TypeId} {p q : Tmp} {A B : Array Value} (hg : P.eqGuardType P.depth t = false) (hx : tmpAt a p = some (.agg A)) (hy : tmpAt a q = some (.agg B))
    (h : ∃ r, (∀ w, (binOp .neq t (.agg A) (.agg B)).run P w = .ok (.bool r) w) ∧ wpList P ops Q rest (a.put d (.bool r)) w) : wpList P ops Q ({ dst := d, op := .binOp .neq t (.tmp p) (.tmp q) yt, type := ty, pos := pos, after := aft, guard := none } :: rest) a w := by
  obtain ⟨r, hb, h⟩ := h
  exact ne_arr (eval_tmp hx) (eval_tmp hy) hb hg h
end

/-- in a region that draws: '==' of two arrays, next to calls -/
theorem wpI_eqD {P : Program} {ops : Array Oper} {S : World → Prop} {st : Op → Bool} {Q : Exit → Act → World → Prop} {a : Act} {w : World} {rest : List Oper} {d : Option Tmp} {ty : TypeId} {pos : String} {aft : Array Edge}
    {t yt : TypeId} {p q : Tmp} {A B : Array Value} (hg : P.eqGuardType P.depth t = false) (hf : flat P t = false) (hst : st (.binOp .eql t (.tmp p) (.tmp q) yt) = true) (hx : tmpAt a p = some (.agg A)) (hy : tmpAt a q = some (.agg B))
    (h : ∃ r, (∀ w, (binOp .eql t (.agg A) (.agg B)).run P w = .ok (.bool r) w) ∧ wpI P ops S st Q rest (a.put d (.bool r)) w) : wpI P ops S st Q ({ dst := d, op := .binOp .eql t (.tmp p) (.tmp q) yt, type := ty, pos := pos, after := aft, guard := none } :: rest) a w := by
  obtain ⟨r, hb, h⟩ := h
  exact wpI_eqS (eval_tmp hx) (eval_tmp hy) hb hst hg hf h
theorem wpI_act {P : Program} {ops : Array Oper} {S : World → Prop} {st : Op → Bool} {Q : Exit → Act → World → Prop} {a a' : Act} {w : World} {rest : List Oper} (h : a = a') (k : wpI P ops S st Q rest a' w) : wpI P ops S st Q rest a w := h ▸ k
/-! a drawn region's operations, fast -/
theorem okI {P : Program} {op : BinOp} {t yt : TypeId} {i j : Tmp} {a : Act} {k k' : IntKind} {m n : Int} (hx : tmpAt a i = some (.int k m)) (hy : tmpAt a j = some (.int k' n)) : okVals P (.binOp op t (.tmp i) (.tmp j) yt) a = true := ok_int (eval_tmp hx) (eval_tmp hy)
theorem okIc {P : Program} {op : BinOp} {t yt : TypeId} {i : Tmp} {a : Act} {k k' : IntKind} {m n : Int} (hx : tmpAt a i = some (.int k m)) : okVals P (.binOp op t (.tmp i) (.const (.int k' n)) yt) a = true := ok_int (eval_tmp hx) rfl
theorem okcI {P : Program} {op : BinOp} {t yt : TypeId} {i : Tmp} {a : Act} {k k' : IntKind} {m n : Int} (hx : tmpAt a i = some (.int k m)) : okVals P (.binOp op t (.const (.int k' n)) (.tmp i) yt) a = true := ok_int rfl (eval_tmp hx)
theorem okBl {P : Program} {op : BinOp} {t yt : TypeId} {i j : Tmp} {a : Act} {m n : Bool} (hx : tmpAt a i = some (.bool m)) (hy : tmpAt a j = some (.bool n)) : okVals P (.binOp op t (.tmp i) (.tmp j) yt) a = true := ok_bool (eval_tmp hx) (eval_tmp hy)
theorem okSt {P : Program} {op : BinOp} {t yt : TypeId} {i j : Tmp} {a : Act} {m n : ByteArray} (hx : tmpAt a i = some (.string m)) (hy : tmpAt a j = some (.string n)) : okVals P (.binOp op t (.tmp i) (.tmp j) yt) a = true := ok_str (eval_tmp hx) (eval_tmp hy)
theorem okCv {P : Program} {s t : TypeId} {i : Tmp} {a : Act} {k : IntKind} {m : Int} (hx : tmpAt a i = some (.int k m)) : okVals P (.convert s t (.tmp i)) a = true := ok_conv (eval_tmp hx)
end Go.Own
