/- Of several texts of this claim, one behind the other: H Hs I Mt Mc V Mf Mk Ms Ml Mx. -/
import Derived.Test.YtnkpjmcgecdkfaaU1
import Derived.Test.YtnkpjmcgecdkfaaB
import Derived.Test.YtnkpjmcgecdkfaaW
import Derived.Deep.Grids
import Derived.Test.YtnkpjmcgecdkfaaRows
import Derived.Laws.StructEq
import Derived.Deep.CutRange
import Derived.Deep.CutBlock
import Derived.ScopeJumps

/- Arms whose values are read off the frame as they stand there ('tmpAt'): what they leave stays small. -/
namespace Go.Own
open Go.RowKit Go.Ord

def tmpAt (a : Act) (j : Nat) : Option Value := a.tmps.toList[j]?
theorem eval_tmp {a : Act} {j : Nat} {v : Value} (h : tmpAt a j = some v) : a.eval (.tmp j) = v := by
  unfold tmpAt at h
  rw [Array.getElem?_toList] at h
  simp [Act.eval, Array.getD_eq_getD_getElem?, h]

section
variable {P : Program} {ops : Array Oper} {Q : Exit → Act → World → Prop} {a : Act} {w w0 : World} {L : List Res} {rest : List Oper}
variable {d : Option Tmp} {ty : TypeId} {pos : String} {aft : Array Edge}

/-- a store of a whole variable -/
theorem stX (hO : Own w0 w L) (i : Nat) {T : TypeId} {p q : Tmp} {b : Nat} {C C' : Array Value} {t : TypeId}
    (hi : L[i]? = some (.blk b (.cells C t (0, 0)))) (hx : tmpAt a p = some (.pointer (some ⟨b, 0, none⟩))) (hy : tmpAt a q = some (.agg C'))
    (hsz : C'.size = C.size) (h1 : C'.toList.all (·.oneCell') = true) (hu : (P.info? T).map (·.size) = some C'.size)
    (h : ∀ w', Own w0 w' (L.set i (.blk b (.cells C' t (0, 0)))) → wpList P ops Q rest (a.put d undef) w') :
    wpList P ops Q ({ dst := d, op := .store T (.tmp p) (.tmp q), type := ty, pos := pos, after := aft, guard := none } :: rest) a w :=
  own_storeAll hO i T (.tmp p) (.tmp q) b C C' t (.agg C') hi (eval_tmp hx) (eval_tmp hy) rfl hu hsz h1 h
/-- a store of one cell -/
theorem stC (hO : Own w0 w L) (i : Nat) {T : TypeId} {p q : Tmp} {b off : Nat} {C : Array Value} {t : TypeId} {v : Value}
    (hi : L[i]? = some (.blk b (.cells C t (0, 0)))) (hx : tmpAt a p = some (.pointer (some ⟨b, off, none⟩))) (hy : tmpAt a q = some v) (hoff : off < C.size)
    (h1 : v.oneCell' = true) (hu : (P.info? T).map (·.size) = some 1)
    (h : ∀ w', Own w0 w' (L.set i (.blk b (.cells (C.setIfInBounds off v) t (0, 0)))) → wpList P ops Q rest (a.put d undef) w') :
    wpList P ops Q ({ dst := d, op := .store T (.tmp p) (.tmp q), type := ty, pos := pos, after := aft, guard := none } :: rest) a w :=
  own_store hO i T (.tmp p) (.tmp q) b off C t v hi (eval_tmp hx) (eval_tmp hy) hoff hu h1 h
/-- a variable that comes to lie in memory: a struct, an array -/
theorem bxA (hO : Own w0 w L) {T : TypeId} {p : Tmp} {C : Array Value} (hx : tmpAt a p = some (.agg C))
    (h : ∀ b w', Own w0 w' (.blk b (.cells C T (0, 0)) :: L) → wpList P ops Q rest (a.put d (.pointer (some ⟨b, 0, none⟩))) w') :
    wpList P ops Q ({ dst := d, op := .box T (.tmp p), type := ty, pos := pos, after := aft, guard := none } :: rest) a w :=
  own_box hO T (.tmp p) (.agg C) (eval_tmp hx) h
/-- .. a single cell -/
theorem bx1 (hO : Own w0 w L) {T : TypeId} {p : Tmp} {v : Value} (hx : tmpAt a p = some v) (h1 : v.oneCell' = true)
    (h : ∀ b w', Own w0 w' (.blk b (.cells #[v] T (0, 0)) :: L) → wpList P ops Q rest (a.put d (.pointer (some ⟨b, 0, none⟩))) w') :
    wpList P ops Q ({ dst := d, op := .box T (.tmp p), type := ty, pos := pos, after := aft, guard := none } :: rest) a w := by
  have hc : v.cells = #[v] := by cases v <;> simp_all [Value.cells, Value.oneCell']
  refine own_box hO T (.tmp p) v (eval_tmp hx) ?_
  rw [hc]
  exact h
/-- loads -/
theorem ldC (hO : Own w0 w L) (i : Nat) {T : TypeId} {p : Tmp} {b off : Nat} {C : Array Value} {t : TypeId} {fr : Nat × Nat} {v : Value}
    (hi : L[i]? = some (.blk b (.cells C t fr))) (hx : tmpAt a p = some (.pointer (some ⟨b, off, none⟩))) (hT : aggT P T = some false) (hv : C.toList[off]? = some v)
    (h : wpList P ops Q rest (a.put d v) w) :
    wpList P ops Q ({ dst := d, op := .load T (.tmp p), type := ty, pos := pos, after := aft, guard := none } :: rest) a w :=
  ld_blk hO i hi (eval_tmp hx) hv hT h
theorem ldX (hO : Own w0 w L) (i : Nat) {T : TypeId} {p : Tmp} {b : Nat} {C : Array Value} {t : TypeId} {fr : Nat × Nat}
    (hi : L[i]? = some (.blk b (.cells C t fr))) (hx : tmpAt a p = some (.pointer (some ⟨b, 0, none⟩))) (hT : aggT P T = some true) (hs : (P.info? T).map (·.size) = some C.size)
    (h : wpList P ops Q rest (a.put d (.agg C)) w) :
    wpList P ops Q ({ dst := d, op := .load T (.tmp p), type := ty, pos := pos, after := aft, guard := none } :: rest) a w :=
  ld_all hO i hi (eval_tmp hx) hT hs h
/-- '==', '!=' of two arrays: what is known of it is looked for behind this step -/
theorem eqD {t yt : TypeId} {p q : Tmp} {A B : Array Value} (hg : P.eqGuardType P.depth t = false) (hx : tmpAt a p = some (.agg A)) (hy : tmpAt a q = some (.agg B))
    (h : ∃ r, (∀ w, (binOp .eql t (.agg A) (.agg B)).run P w = .ok (.bool r) w) ∧ wpList P ops Q rest (a.put d (.bool r)) w) : wpList P ops Q ({ dst := d, op := .binOp .eql t (.tmp p) (.tmp q) yt, type := ty, pos := pos, after := aft, guard := none } :: rest) a w := by
  obtain ⟨r, hb, h⟩ := h
  exact eq_arr (eval_tmp hx) (eval_tmp hy) hb hg h
theorem neD {t yt : TypeId} {p q : Tmp} {A B : Array Value} (hg : P.eqGuardType P.depth t = false) (hx : tmpAt a p = some (.agg A)) (hy : tmpAt a q = some (.agg B))
    (h : ∃ r, (∀ w, (binOp .neq t (.agg A) (.agg B)).run P w = .ok (.bool r) w) ∧ wpList P ops Q rest (a.put d (.bool r)) w) : wpList P ops Q ({ dst := d, op := .binOp .neq t (.tmp p) (.tmp q) yt, type := ty, pos := pos, after := aft, guard := none } :: rest) a w := by
  obtain ⟨r, hb, h⟩ := h
  exact ne_arr (eval_tmp hx) (eval_tmp hy) hb hg h
end

/-- in a region that draws: '==' of two arrays, next to calls -/
theorem wpI_eqD {P : Program} {ops : Array Oper} {S : World → Prop} {st : Op → Bool} {Q : Exit → Act → World → Prop} {a : Act} {w : World} {rest : List Oper} {d : Option Tmp} {ty : TypeId} {pos : String} {aft : Array Edge}
    {t yt : TypeId} {p q : Tmp} {A B : Array Value} (hg : P.eqGuardType P.depth t = false) (hf : flat P t = false) (hst : st (.binOp .eql t (.tmp p) (.tmp q) yt) = true) (hx : tmpAt a p = some (.agg A)) (hy : tmpAt a q = some (.agg B))
    (h : ∃ r, (∀ w, (binOp .eql t (.agg A) (.agg B)).run P w = .ok (.bool r) w) ∧ wpI P ops S st Q rest (a.put d (.bool r)) w) : wpI P ops S st Q ({ dst := d, op := .binOp .eql t (.tmp p) (.tmp q) yt, type := ty, pos := pos, after := aft, guard := none } :: rest) a w := by
  obtain ⟨r, hb, h⟩ := h
  exact wpI_eqS (eval_tmp hx) (eval_tmp hy) hb hst hg hf h
theorem wpI_act {P : Program} {ops : Array Oper} {S : World → Prop} {st : Op → Bool} {Q : Exit → Act → World → Prop} {a a' : Act} {w : World} {rest : List Oper} (h : a = a') (k : wpI P ops S st Q rest a' w) : wpI P ops S st Q rest a w := h ▸ k
/-! a drawn region's operations, fast -/
theorem okI {P : Program} {op : BinOp} {t yt : TypeId} {i j : Tmp} {a : Act} {k k' : IntKind} {m n : Int} (hx : tmpAt a i = some (.int k m)) (hy : tmpAt a j = some (.int k' n)) : okVals P (.binOp op t (.tmp i) (.tmp j) yt) a = true := ok_int (eval_tmp hx) (eval_tmp hy)
theorem okIc {P : Program} {op : BinOp} {t yt : TypeId} {i : Tmp} {a : Act} {k k' : IntKind} {m n : Int} (hx : tmpAt a i = some (.int k m)) : okVals P (.binOp op t (.tmp i) (.const (.int k' n)) yt) a = true := ok_int (eval_tmp hx) rfl
theorem okcI {P : Program} {op : BinOp} {t yt : TypeId} {i : Tmp} {a : Act} {k k' : IntKind} {m n : Int} (hx : tmpAt a i = some (.int k m)) : okVals P (.binOp op t (.const (.int k' n)) (.tmp i) yt) a = true := ok_int rfl (eval_tmp hx)
theorem okBl {P : Program} {op : BinOp} {t yt : TypeId} {i j : Tmp} {a : Act} {m n : Bool} (hx : tmpAt a i = some (.bool m)) (hy : tmpAt a j = some (.bool n)) : okVals P (.binOp op t (.tmp i) (.tmp j) yt) a = true := ok_bool (eval_tmp hx) (eval_tmp hy)
theorem okSt {P : Program} {op : BinOp} {t yt : TypeId} {i j : Tmp} {a : Act} {m n : ByteArray} (hx : tmpAt a i = some (.string m)) (hy : tmpAt a j = some (.string n)) : okVals P (.binOp op t (.tmp i) (.tmp j) yt) a = true := ok_str (eval_tmp hx) (eval_tmp hy)
theorem okCv {P : Program} {s t : TypeId} {i : Tmp} {a : Act} {k : IntKind} {m : Int} (hx : tmpAt a i = some (.int k m)) : okVals P (.convert s t (.tmp i)) a = true := ok_conv (eval_tmp hx)
end Go.Own

/- Arms on variables of several parts: a part of four cells loaded, stored; make with room behind; three results. -/
namespace Go.Own
open Go.RowKit Go.Ord

section
variable {P : Program} {ops : Array Oper} {Q : Exit → Act → World → Prop} {a : Act} {w w0 : World} {L : List Res} {rest : List Oper}
variable {d : Option Tmp} {ty : TypeId} {pos : String} {aft : Array Edge}

theorem storeCells_shift (b off : Nat) : ∀ (vs : List Value) (i : Nat), storeCells ⟨b, off, none⟩ vs i = storeCells ⟨b, 0, none⟩ vs (off + i)
  | [], _ => rfl
  | v :: vs, i => by
    show (do store ((⟨b, off, none⟩ : Addr).add i) v; storeCells ⟨b, off, none⟩ vs (i + 1)) = (do store ((⟨b, 0, none⟩ : Addr).add (off + i)) v; storeCells ⟨b, 0, none⟩ vs (off + i + 1))
    rw [storeCells_shift b off vs (i + 1), Addr.add_lit, Addr.add_lit, Nat.zero_add]
    rfl
/-- a store of the last cells of a block -/
theorem stP (hO : Own w0 w L) (i : Nat) {T : TypeId} {p q : Tmp} {b off : Nat} {C C' V : Array Value} {t : TypeId}
    (hi : L[i]? = some (.blk b (.cells C t (0, 0)))) (hx : tmpAt a p = some (.pointer (some ⟨b, off, none⟩))) (hy : tmpAt a q = some (.agg V))
    (hsz : off + V.size = C.size) (h1 : V.toList.all (·.oneCell') = true) (hu : (P.info? T).map (·.size) = some V.size) (hC : (C.toList.take off ++ V.toList).toArray = C')
    (h : ∀ w', Own w0 w' (L.set i (.blk b (.cells C' t (0, 0)))) → wpList P ops Q rest (a.put d undef) w') :
    wpList P ops Q ({ dst := d, op := .store T (.tmp p) (.tmp q), type := ty, pos := pos, after := aft, guard := none } :: rest) a w := by
  refine wpList_plain rfl fun K hK => ?_
  obtain ⟨inf, hinf, hs⟩ := Option.map_eq_some_iff.1 hu
  have hg := hO.blk i hi
  have hst : (storeCells ⟨b, off, none⟩ V.toList 0).run P w = .ok () (w.setRow b (C.toList.take off ++ V.toList).toArray) := by
    rw [storeCells_shift, Nat.add_zero]
    exact run_storeCells_from (P := P) b t V.toList off C w hg (by simpa using hsz) (fun v hv => List.all_eq_true.1 h1 v hv)
  have hx' := eval_tmp hx
  have hy' := eval_tmp hy
  rw [hC] at hst
  unfold Oper.wp
  simp [execOp, Instr.storeAt, Instr.sureAddr, storeVar, hx', hy', sizeOf, typeInfo, hinf, hs, Value.cells, hst]
  refine hK _ _ (h _ (hO.setBlk i hi rfl rfl rfl (by simp) ?_ ?_))
  · intro k hk; exact setRow_other _ _ _ _ hk
  · rw [setRow_heap w b C _ t _ hg]
/-- a load of some cells of a block -/
theorem ldP (hO : Own w0 w L) (i : Nat) {T : TypeId} {p : Tmp} {b off : Nat} {C : Array Value} {t : TypeId} {fr : Nat × Nat} (V : List Value)
    (hi : L[i]? = some (.blk b (.cells C t fr))) (hx : tmpAt a p = some (.pointer (some ⟨b, off, none⟩))) (hT : aggT P T = some true) (hs : (P.info? T).map (·.size) = some V.length)
    (hV : (C.toList.drop off).take V.length = V)
    (h : wpList P ops Q rest (a.put d (.agg V.toArray)) w) :
    wpList P ops Q ({ dst := d, op := .load T (.tmp p), type := ty, pos := pos, after := aft, guard := none } :: rest) a w := by
  refine own_loadCells V (eval_tmp hx) hT hs (fun j v hj => ?_) h
  have hl := (List.getElem?_eq_some_iff.1 hj).1
  rw [Addr.add_lit, cell_of_row w b _ C t fr (hO.blk i hi), ← Array.getElem?_toList]
  rw [← hV, List.getElem?_take_of_lt hl, List.getElem?_drop] at hj
  exact hj
theorem ldA (hO : Own w0 w L) (i : Nat) {T : TypeId} {p : Tmp} {b off : Nat} {C : Array Value} {t : TypeId} {fr : Nat × Nat} (V : Array Value)
    (hi : L[i]? = some (.blk b (.cells C t fr))) (hx : tmpAt a p = some (.pointer (some ⟨b, off, none⟩))) (hT : aggT P T = some true) (hs : (P.info? T).map (·.size) = some V.size)
    (hV : (C.toList.drop off).take V.size = V.toList)
    (h : wpList P ops Q rest (a.put d (.agg V)) w) :
    wpList P ops Q ({ dst := d, op := .load T (.tmp p), type := ty, pos := pos, after := aft, guard := none } :: rest) a w :=
  ldP hO i V.toList hi hx hT (by simpa using hs) (by simpa using hV) (by simpa using h)
theorem gBld {T : TypeId} {parts : Array (Nat × Operand)} (h : wpList P ops Q ({ dst := d, op := .build T parts, type := ty, pos := pos, after := aft, guard := none } :: rest) a w) :
    wpList P ops Q ({ dst := d, op := .build T parts, type := ty, pos := pos, after := aft, guard := none } :: rest) a w := h
/-- 'T{..}' -/
theorem own_bld {T : TypeId} {parts : Array (Nat × Operand)} (cells : Array Value) (hb : P.built T (parts.map fun (i, x) => (i, a.eval x)).toList = some cells)
    (h : wpList P ops Q rest (a.put d (.agg cells)) w) : wpList P ops Q ({ dst := d, op := .build T parts, type := ty, pos := pos, after := aft, guard := none } :: rest) a w := by
  refine wpList_plain rfl fun K hK => ?_
  have hr := run_build (P := P) w T (parts.map fun (i, x) => (i, a.eval x)) cells hb
  unfold Oper.wp
  simp only [execOp, Sem.run_bind, hr, Result.andThen_ok, Sem.run_pure]
  exact hK _ _ h
/-- 'make([]T, n, c)' -/
theorem own_makeC (hO : Own w0 w L) (l c : Operand) (t : TypeId) {e : TypeId} {z : Value} {bytes : Nat} (hE : Elem P t e z 1 bytes)
    {kl kc : IntKind} {N C : Int} (n m : Nat) (hl : a.eval l = .int kl N) (hc : a.eval c = .int kc C) (hN : N = (n : Int)) (hC : C = (m : Int)) (hnm : n ≤ m) (hbytes : bytes * m ≤ 281474976710656) (h63 : m ≤ maxLen)
    (h : ∀ g w', Own w0 w' (.sl e 1 (.slice (some ⟨g, 0, none⟩) n m) n ((madeCells z.cells m).toList.take n) :: L) → wpList P ops Q rest (a.put d (.slice (some ⟨g, 0, none⟩) n m)) w') :
    wpList P ops Q ({ dst := d, op := .makeSlice t l c, type := ty, pos := pos, after := aft, guard := none } :: rest) a w := by
  refine wpList_plain rfl fun K hK => ?_
  obtain ⟨inf, hinf, hz, hsz, hby⟩ := info_parts hE.info
  subst hN
  subst hC
  have h63' : (m : Int) ≤ 9223372036854775807 := by
    have h := h63
    simp [maxLen] at h
    omega
  have hb' : (inf.bytes : Int) * (m : Int) ≤ 281474976710656 := by
    have h : ((inf.bytes * m : Nat) : Int) ≤ 281474976710656 := by rw [hby]; omega
    rwa [Int.natCast_mul] at h
  have hr := run_make (P := P) w t e inf z hE.slice hinf hz kl kc n m (by omega) (by omega) hb' h63'
  simp only [Int.toNat_natCast, hsz, Nat.mul_one] at hr
  have hrow : (w.alloc (.cells (madeCells z.cells m) e)).ownsRow w.heap.size e 1 (.slice (some ⟨w.heap.size, 0, none⟩) n m) n ((madeCells z.cells m).toList.take n) :=
    ⟨by rw [List.length_take, Array.length_toList, size_madeCells]; omega, .inr ⟨w.heap.size, m, _, rfl, Nat.le_refl _, heap_alloc_new w _, hnm, h63, by rw [size_madeCells, Nat.mul_one], by rw [Nat.mul_one]⟩⟩
  have hO' : Own w0 _ (.sl e 1 (.slice (some ⟨w.heap.size, 0, none⟩) n m) n ((madeCells z.cells m).toList.take n) :: L) := hO.add ((Below.refl _ _).alloc (Nat.le_refl _) _) hrow
  unfold Oper.wp
  simp [execOp, hl, hc, hr, Result.andThen]
  exact hK _ _ (h _ _ hO')
end
section
variable {P : Program}
/-- three results: two blocks and a slot -/
theorem res_cct {fn : Func} {p q u : Tmp} {ty tz : TypeId} (h : fn.results = #[.cell p ty, .cell q tz, .tmp u]) (tmps : Array Value) (w : World) (g g' : Nat) (t t' : TypeId) (cs cs' : Array Value) (fr fr' : Nat × Nat) (d d' : TypeDesc)
    (hp : tmps.getD p undef = .pointer (some ⟨g, 0, none⟩)) (hg : w.heap[g]? = some (.cells cs t fr))
    (hu : P.underlying ty = some d) (hd : (match d with | .struct _ | .array _ _ => true | _ => false) = true) (hi : (P.info? ty).map (·.size) = some cs.size)
    (hp' : tmps.getD q undef = .pointer (some ⟨g', 0, none⟩)) (hg' : w.heap[g']? = some (.cells cs' t' fr'))
    (hu' : P.underlying tz = some d') (hd' : (match d' with | .struct _ | .array _ _ => true | _ => false) = true) (hi' : (P.info? tz).map (·.size) = some cs'.size) :
    (results fn tmps).run P w = .ok (.tuple #[.agg cs, .agg cs', tmps.getD u undef]) w := by
  have e : tmps[p]?.getD undef = .pointer (some ⟨g, 0, none⟩) := by simpa using hp
  have e' : tmps[q]?.getD undef = .pointer (some ⟨g', 0, none⟩) := by simpa using hp'
  simp [results, h, e, e', asAddr, run_loadVar_row w g t ty cs fr d hg hu hd hi, run_loadVar_row w g' t' tz cs' fr' d' hg' hu' hd' hi']
end
section
variable {P : Program} {ops : Array Oper} {S : World → Prop} {st : Op → Bool} {Q : Exit → Act → World → Prop} {a : Act} {w : World} {rest : List Oper}
variable {d : Option Tmp} {ty : TypeId} {pos : String} {aft : Array Edge}
/-- in a region that draws: a load of some cells of a block that stands in every world of S -/
theorem wpI_ldpS {T : TypeId} {x : Operand} {b off : Nat} {C : Array Value} {t : TypeId} {fr : Nat × Nat} (V : List Value) (hS : ∀ w', S w' → w'.heap[b]? = some (.cells C t fr))
    (hx : a.eval x = .pointer (some ⟨b, off, none⟩)) (hst : st (.load T x) = true) (hT : aggT P T = some true) (hs : (P.info? T).map (·.size) = some V.length) (hV : (C.toList.drop off).take V.length = V)
    (h : wpI P ops S st Q rest (a.put d (.agg V.toArray)) w) : wpI P ops S st Q ({ dst := d, op := .load T x, type := ty, pos := pos, after := aft, guard := none } :: rest) a w := by
  refine wpI_steady (.agg V.toArray) rfl hst rfl (fun w' hw => ?_) h
  exact run_load_many (P := P) (d := d) (ty := ty) (pos := pos) (aft := aft) (gd := none) V hx hT hs
    (fun j v hj => by
      have hl := (List.getElem?_eq_some_iff.1 hj).1
      rw [Addr.add_lit, cell_of_row w' b _ C t fr (hS w' hw), ← Array.getElem?_toList]
      rw [← hV, List.getElem?_take_of_lt hl, List.getElem?_drop] at hj
      exact hj)
end
end Go.Own

/- Rows of integers and of bools that came in, read by the walk's own form. -/
namespace Go.Opn
open Go.RowKit Go.Own Go.Bv

theorem rd_of_cells {w : World} {x : Addr} {len cap : Nat} {xs : List Value} (hn : xs.length = len) (hl : len ≤ cap) (hm : cap ≤ maxLen) (hc : ∀ i, i < len → w.cell? (x.add i) = xs[i]?) : Rd w 1 (some x) len cap xs := by
  refine ⟨by omega, hl, hm, fun h => by simp at h, fun hne => ?_⟩
  have h0 := hc 0 (by omega)
  rw [Addr.add_zero', List.getElem?_eq_getElem (by omega)] at h0
  have hlt := World.block_lt_of_cell? w x h0
  have hspot : x.spot = none := by
    cases hs : x.spot with
    | none => rfl
    | some s =>
      exfalso
      simp only [World.cell?, hs] at h0
      split at h0 <;> simp at h0
  obtain ⟨b, off, sp⟩ := x
  dsimp only at hspot hlt
  subst hspot
  refine ⟨b, off, rfl, hlt, fun j hj => ?_⟩
  have hcj := hc j (by omega)
  rw [Addr.add_lit] at hcj
  exact hcj

def i64s (l : List Int) : List Value := l.map (.int .i64)
theorem i64s_length (l : List Int) : (i64s l).length = l.length := by simp [i64s]
theorem i64s_get (l : List Int) (j : Nat) (h : j < l.length) : (i64s l)[j]? = some (.int .i64 l[j]) := by simp [i64s, h]
theorem i64s_one (l : List Int) : ∀ u ∈ i64s l, u.oneCell' = true := by
  intro u hu
  obtain ⟨x, _, rfl⟩ := List.mem_map.1 hu
  rfl
theorem i64s_append (a b : List Int) : i64s (a ++ b) = i64s a ++ i64s b := by simp [i64s]
def bls (l : List Bool) : List Value := l.map .bool
theorem bls_length (l : List Bool) : (bls l).length = l.length := by simp [bls]
theorem bls_get (l : List Bool) (j : Nat) (h : j < l.length) : (bls l)[j]? = some (.bool l[j]) := by simp [bls, h]

theorem rd_of_i64 {w : World} {a : Option Addr} {len cap : Nat} {zs : List Int} (h : IsRow .i64 w a len cap zs) : ∃ l : List Int, Rd w 1 a len cap (i64s l) ∧ ∀ n ∈ l, (Lit.int .i64 n).wf = true := by
  rcases h with ⟨rfl, rfl, rfl, rfl⟩ | ⟨x, rfl, hl, hm, hz, hc, hwf⟩
  · exact ⟨[], ⟨rfl, Nat.le_refl _, by simp [maxLen], fun _ => ⟨rfl, rfl⟩, fun h => absurd rfl h⟩, by simp⟩
  · refine ⟨zs.take len, rd_of_cells (by simp [i64s]; omega) hl hm (fun i hi => ?_), fun n hn => hwf n (List.mem_of_mem_take hn)⟩
    rw [hc i (by omega)]
    have : i < zs.length := by omega
    simp [i64s, hi, this, List.getD]

/-- WHAT THE WALK IS TOLD OF A SLICE OF BOOLS THAT CAME IN -/
def IsBools (w : World) (a : Option Addr) (len cap : Nat) (zs : List Bool) : Prop := Rd w 1 a len cap (bls zs)
theorem open_bls {H : Type} {enc : TypeId × Value → H} {P : Program} {w : World} {base : Nat} {held : Bool} {t e : TypeId} {a : Option Addr} {len cap : Nat} {d : DataW H} {ps : List MemPlace} (ht : P.underlying t = some (.slice e)) (he : P.underlying e = some .bool) (hc : P.cellsOf e = 1)
    (hd : DataW.Trod enc P w base (fun _ => true) held t (.slice a len cap) d ps) : ∃ zs, IsBools w a len cap zs := by
  obtain ⟨fuel, hf⟩ := hd
  rcases Go.Deep.open_bools ht he hc hf with ⟨hcs, _⟩ | ⟨x, l, c, B, hcs, _, hl, hm, _, hcell⟩
  · simp [Value.cells] at hcs
    obtain ⟨rfl, rfl, rfl⟩ := hcs
    exact ⟨[], rfl, Nat.le_refl _, by simp [maxLen], fun _ => ⟨rfl, rfl⟩, fun h => absurd rfl h⟩
  · simp [Value.cells] at hcs
    obtain ⟨rfl, rfl, rfl⟩ := hcs
    refine ⟨(List.range len).map B, rd_of_cells (by simp [bls]) hl hm (fun i hi => ?_)⟩
    rw [hcell i (by omega)]
    simp [bls, hi]
end Go.Opn

/- Tokens as they lie: their cells, a row of them; '==' of two. -/
namespace Go.Mt
open Go.RowKit

def Tok.C (t : Tok) : Array Value := #[.int .u8 (t.lit.toNat : Int), .int .i64 t.len, .int .i64 t.dist]
def tks : List Tok → List Value
  | [] => []
  | t :: r => .int .u8 (t.lit.toNat : Int) :: .int .i64 t.len :: .int .i64 t.dist :: tks r
theorem tks_length : ∀ l : List Tok, (tks l).length = l.length * 3
  | [] => rfl
  | t :: r => by simp only [tks, List.length_cons, tks_length r]; omega
theorem tks_append : ∀ l r : List Tok, tks (l ++ r) = tks l ++ tks r
  | [], r => rfl
  | t :: l, r => by simp only [tks, List.cons_append, tks_append l r]
theorem tks_one' (t : Tok) : tks [t] = t.C.toList := rfl
theorem tks_cons (t : Tok) (r : List Tok) : tks (t :: r) = t.C.toList ++ tks r := rfl
theorem tks_get : ∀ (l : List Tok) (k : Nat) (h : k < l.length) (j : Nat) (v : Value), l[k].C.toList[j]? = some v → (tks l)[k * 3 + j]? = some v
  | t :: r, 0, _, j, v, hv => by
    have hj : j < 3 := (List.getElem?_eq_some_iff.1 hv).1
    rw [tks_cons, Nat.zero_mul, Nat.zero_add, List.getElem?_append_left (by exact hj)]
    exact hv
  | t :: r, k + 1, h, j, v, hv => by
    rw [tks_cons, List.getElem?_append_right (by show 3 ≤ _; omega)]
    have := tks_get r k (by simpa using h) j v (by simpa using hv)
    rw [← this]
    congr 1
    show (k + 1) * 3 + j - 3 = _
    omega
theorem tks_take : ∀ (l : List Tok) (k : Nat), (tks l).take (k * 3) = tks (l.take k)
  | [], k => by simp [tks]
  | t :: r, 0 => by simp [tks]
  | t :: r, k + 1 => by
    rw [List.take_succ_cons, tks_cons, tks_cons, show (k + 1) * 3 = t.C.toList.length + k * 3 by show _ = 3 + _; omega, List.take_length_add_append, tks_take r k]
theorem tks_one (l : List Tok) : ∀ u ∈ tks l, u.oneCell' = true := by
  induction l with
  | nil => simp [tks]
  | cons t r ih =>
    intro u hu
    simp only [tks, List.mem_cons] at hu
    rcases hu with rfl | rfl | rfl | hu
    · rfl
    · rfl
    · rfl
    · exact ih u hu
theorem Tok.C_inj {s t : Tok} (h : s.C = t.C) : s = t := by
  cases s; cases t
  simp only [Tok.C, Array.mk.injEq, List.cons.injEq, Value.int.injEq, true_and, and_true] at h
  obtain ⟨h1, h2, h3⟩ := h
  have h1 := BitVec.eq_of_toNat_eq (Int.ofNat.inj h1)
  simp_all
theorem tks_inj : ∀ {l r : List Tok}, tks l = tks r → l = r
  | [], [], _ => rfl
  | [], t :: r, h => by simp [tks] at h
  | t :: l, [], h => by simp [tks] at h
  | s :: l, t :: r, h => by
    rw [tks_cons, tks_cons] at h
    have h' := List.append_inj h rfl
    have := Tok.C_inj (s := s) (t := t) (by apply Array.toList_inj.1; exact h'.1)
    rw [this, tks_inj h'.2]
def zT : Tok := ⟨0, 0, 0⟩
end Go.Mt
namespace Go.Proofs.Ytnkpjmcgecdkfaa
open Go.RowKit Go.Own Go.Bv Go.Ord Go.Eq Go.Mt

theorem eu8m : Elem Try.prog 34 5 (.int .u8 0) 1 1 := ⟨Try.underlying34, by kernel_rfl, rfl, by decide⟩
theorem iu8s : (Try.prog.info? 5).map (·.size) = some 1 := by kernel_rfl
theorem itz : (Try.prog.info? 30).bind (·.zero) = some (.agg zT.C) := by kernel_rfl
theorem its : (Try.prog.info? 30).map (·.size) = some 3 := by kernel_rfl
theorem its' (t : Tok) : (Try.prog.info? 30).map (·.size) = some t.C.size := its
theorem etk : Elem Try.prog 22 30 (.agg zT.C) 3 24 := ⟨Try.underlying22, by kernel_rfl, rfl, by decide⟩
theorem t_egT : Try.prog.eqGuardType Try.prog.depth 30 = false := by kernel_rfl
theorem t_flT : flat Try.prog 30 = false := by kernel_rfl
theorem eqTok (s t : Tok) (w : World) : (binOp .eql 30 (.agg s.C) (.agg t.C)).run Try.prog w = .ok (.bool (decide (s = t))) w := by
  have u3 := Try.underlying3
  have u5 := Try.underlying5
  have hS : Try.prog.underlying 30 = some (.struct (Try.prog.fieldsOf 30)) := by kernel_rfl
  have hp : Try.prog.stoodInHeld 30 = false := by kernel_rfl
  rw [run_eql_struct, show (10000 : Nat) = 9999 + 1 from rfl, run_equalIn_agg w 9999 30 _ _ hS hp]
  have hd : decide (s = t) = ((s.lit.toNat : Int) == (t.lit.toNat : Int) && s.len == t.len && s.dist == t.dist) := by
    rw [Bool.eq_iff_iff]
    simp only [decide_eq_true_eq, Bool.and_eq_true, beq_iff_eq]
    constructor
    · rintro rfl; exact ⟨⟨rfl, rfl⟩, rfl⟩
    · rintro ⟨⟨h1, h2⟩, h3⟩
      exact Tok.C_inj (by simp only [Tok.C, h1, h2, h3])
  rw [hd]
  simp only [Program.fieldsOf, Try.underlying30, Tok.C]
  go_simp
  by_cases h1 : (s.lit.toNat : Int) = t.lit.toNat <;> by_cases h2 : s.len = t.len <;> by_cases h3 : s.dist = t.dist <;> simp [h1, h2, h3]
theorem neTok (s t : Tok) (w : World) : (binOp .neq 30 (.agg s.C) (.agg t.C)).run Try.prog w = .ok (.bool (!decide (s = t))) w := by
  have h := eqTok s t w
  rw [run_eql_struct] at h
  rw [run_neq_struct]
  revert h
  generalize (Op.equalIn 10000 30 (.agg s.C) (.agg t.C)).run Try.prog w = r
  cases r with
  | ok b w2 => simp +contextual [Result.andThen]
  | halt x w2 => simp [Result.andThen]
end Go.Proofs.Ytnkpjmcgecdkfaa

/- Walks: match.size, common, find. -/
namespace Go.Proofs.Ytnkpjmcgecdkfaa
open Go.RowKit Go.Own Go.Bv Go.Ord Go.Eq Go.Mt

set_option maxHeartbeats 1000000 in
theorem size_calls (t : Tok) (w : World) (h0 : 0 ≤ t.len) :
    Calls Try.prog 35 #[.agg t.C] w fun e w' => e = .returned (.int .i64 (t.size : Nat)) ∧ Below w.heap.size w w' := by
  have hO := Own.start w
  have HS : Hid ((t.size : Int) = if t.len = 0 then 1 else t.len) := by show _ = _; unfold Tok.size; split <;> simp; omega
  generalize hW : w = wn at hO ⊢
  clear hW w h0
  obtain ⟨lit, len, dist⟩ := t
  dsimp only at HS
  by_cases hz : len = 0
  · have d1 : (len == (0 : Int)) = true := by simp [hz]
    rw [HS.out, if_pos hz]
    clear hz HS
    go_enter Try.func35, Try.ntmps35
    go_wp2_with (first | ((with_reducible refine gBox ?_); first | (refine bxA hO rfl ?_; clear hO; intro b ww hO) | (refine bx1 hO rfl rfl ?_; clear hO; intro b ww hO)) | ((with_reducible refine gLoad ?_); first | refine ldX hO 0 rfl rfl (tA rfl) (tS rfl) ?_ | refine ldC hO 0 rfl rfl (tA rfl) rfl ?_))
    go_ret
    exact ⟨rfl, hO.below⟩
  · have d1 : (len == (0 : Int)) = false := by simp [hz]
    rw [HS.out, if_neg hz]
    clear hz HS
    go_enter Try.func35, Try.ntmps35
    go_wp2_with (first | ((with_reducible refine gBox ?_); first | (refine bxA hO rfl ?_; clear hO; intro b ww hO) | (refine bx1 hO rfl rfl ?_; clear hO; intro b ww hO)) | ((with_reducible refine gLoad ?_); first | refine ldX hO 0 rfl rfl (tA rfl) (tS rfl) ?_ | refine ldC hO 0 rfl rfl (tA rfl) rfl ?_))
    go_ret
    exact ⟨rfl, hO.below⟩

theorem com_not {b : List (BitVec 8)} {d at_ k : Nat} (h : ¬ (b.getD (at_ + k) 0 = b.getD (at_ + k - d) 0)) : ¬ agree b d at_ (k + 1) := fun h1 => h (h1 k (by omega)).2

set_option maxHeartbeats 2000000 in
set_option maxRecDepth 100000 in
theorem common_calls (a : Option Addr) (n cap : Nat) (bs : List (BitVec 8)) (f d at_ : Nat) (w : World) (hR : Rd w 1 a n cap (u8s bs)) (hd : 1 ≤ d) (hf : f + d = at_) (hat : at_ < n) (hn : n ≤ 65536) :
    Calls Try.prog 58 #[.slice a n cap, .int .i64 (f : Int), .int .i64 (at_ : Int)] w fun e w' => e = .returned (.int .i64 (com bs d at_ 18 : Nat)) ∧ Below w.heap.size w w' := by
  have hO := Own.start w
  have hlen : bs.length = n := by have := hR.len; rw [u8s_length] at this; omega
  obtain ⟨b0, off, rfl⟩ := hR.place (by omega)
  have HR := Lib.hid hR
  have HL := Lib.hid hlen
  have HF := Lib.hid hf
  clear hR hlen hf
  generalize hW : w = wn at hO HR ⊢
  clear hW w
  obtain ⟨R, hRR⟩ : ∃ R : Nat, com bs d at_ 18 = R := ⟨_, rfl⟩
  have HRR := Lib.hid hRR
  rw [hRR]
  clear hRR
  go_enter Try.func58, Try.ntmps58
  go_wp2
  go_loopg [6] 19 (fun m c wr => ∃ k : Nat, m = 19 - k ∧ k ≤ 18 ∧ c = .int .i64 (k : Int) ∧ agree bs d at_ k ∧ Own wn wr [])
  case atStart => exact ⟨0, rfl, by omega, rfl, agree_zero _ _ _, hO⟩
  case round =>
    obtain ⟨k, rfl, hk, rfl, hA, hO1⟩ := hrel
    clear hO
    have hO := hO1
    have HA := Lib.hid hA
    clear hO1 hA
    by_cases c1 : k < 18
    · have d1 : decide ((k : Int) < 18) = true := by simp; omega
      have e1 : IntKind.i64.wrap ((at_ : Int) + (k : Int)) = (at_ : Int) + (k : Int) := by rw [IntKind.wrap_i64]; omega
      by_cases c2 : at_ + k < n
      · have d2 : decide ((at_ : Int) + (k : Int) < (n : Int)) = true := by simp; omega
        have hxy : ∃ x y : BitVec 8, (u8s bs)[f + k]? = some (.int .u8 (x.toNat : Int)) ∧ (u8s bs)[at_ + k]? = some (.int .u8 (y.toNat : Int)) ∧ ((x.toNat : Int) = y.toNat → agree bs d at_ (k + 1)) ∧ (¬ (x.toNat : Int) = y.toNat → ¬ agree bs d at_ (k + 1)) := by
          have h1 : f + k < bs.length := by rw [HL.out]; have := HF.out; omega
          have h2 : at_ + k < bs.length := by rw [HL.out]; omega
          have hx : bs.getD (at_ + k) 0 = bs[at_ + k] := by rw [List.getD_eq_getElem?_getD, List.getElem?_eq_getElem h2]; rfl
          have hy : bs.getD (at_ + k - d) 0 = bs[f + k] := by
            rw [List.getD_eq_getElem?_getD, show at_ + k - d = f + k by have := HF.out; omega, List.getElem?_eq_getElem h1]; rfl
          refine ⟨bs[f + k], bs[at_ + k], u8s_get bs _ h1, u8s_get bs _ h2, fun h => agree_succ HA.out h2 (by rw [hx, hy]; exact BitVec.eq_of_toNat_eq (by omega)), fun h => com_not (by rw [hx, hy]; intro h2; exact h (by rw [h2]))⟩
        have e2 : IntKind.i64.wrap ((f : Int) + (k : Int)) = (f : Int) + (k : Int) := by have := HF.out; rw [IntKind.wrap_i64]; omega
        obtain ⟨x, y, hx, hy, hn, hm⟩ := hxy
        have HX := Lib.hid hx
        have HY := Lib.hid hy
        have HN := Lib.hid hn
        have HM := Lib.hid hm
        clear hx hy hn hm
        have cx : wr.cell? ⟨b0, off + (f + k), none⟩ = some (.int .u8 (x.toNat : Int)) := (((hO.rd HR.out).at' (by omega)).elim fun b' h => h.elim fun o' h => by
          simp only [Option.some.injEq, Addr.mk.injEq, and_true] at h
          obtain ⟨⟨rfl, rfl⟩, _, hc⟩ := h
          rw [hc _ (by have := HF.out; omega)]; exact HX.out)
        have cy : wr.cell? ⟨b0, off + (at_ + k), none⟩ = some (.int .u8 (y.toNat : Int)) := (((hO.rd HR.out).at' (by omega)).elim fun b' h => h.elim fun o' h => by
          simp only [Option.some.injEq, Addr.mk.injEq, and_true] at h
          obtain ⟨⟨rfl, rfl⟩, _, hc⟩ := h
          rw [hc _ (by omega)]; exact HY.out)
        have hfk : f + k < n := by have := HF.out; omega
        by_cases c3 : (x.toNat : Int) = y.toNat
        · have d3 : ((x.toNat : Int) == (y.toNat : Int)) = true := by simp [c3]
          have HN := Lib.hid (HN.out c3)
          clear HM c3
          go_wp2
          go_quiet (fail)
          all_goals go_wp2
          go_roundg (19 - (k + 1))
          case measure => omega
          case rel => exact ⟨k + 1, rfl, by omega, by go_num, HN.out, hO.drewN _⟩
        · have d3 : ((x.toNat : Int) == (y.toNat : Int)) = false := by simp [c3]
          have HM := Lib.hid (HM.out c3)
          have HE := Lib.hid (com_eq HA.out hk (.inr HM.out))
          clear HN c3
          go_wp2
          go_quiet (fail)
          all_goals go_wp2
          go_ret
          exact ⟨by rw [← HRR.out, HE.out]; rfl, (hO.drewN _).below⟩
      · have d2 : decide ((at_ : Int) + (k : Int) < (n : Int)) = false := by simp; omega
        have HE : Hid (com bs d at_ 18 = k) := com_eq HA.out hk (.inr fun h => c2 (by have := (h k (by omega)).1; rw [HL.out] at this; exact this))
        go_wp2
        go_quiet (fail)
        all_goals go_wp2
        go_ret
        exact ⟨by rw [← HRR.out, HE.out]; rfl, (hO.drewN _).below⟩
    · obtain rfl : k = 18 := by omega
      have HE : Hid (com bs d at_ 18 = 18) := com_eq HA.out hk (.inl rfl)
      go_wp2
      go_quiet (fail)
      all_goals go_wp2
      go_ret
      exact ⟨by rw [← HRR.out, HE.out]; rfl, (hO.drewN _).below⟩
end Go.Proofs.Ytnkpjmcgecdkfaa

/- Arms on numbers as bit vectors. -/
namespace Go.Bva
open Go.RowKit Go.Bv

section
variable {P : Program} {ops : Array Oper} {Q : Exit → Act → World → Prop} {a : Act} {w : World} {rest : List Oper}
variable {d : Option Tmp} {ty : TypeId} {pos : String} {aft : Array Edge}

theorem gBin {op : BinOp} {t yt : TypeId} {x y : Operand} (h : wpList P ops Q ({ dst := d, op := .binOp op t x y yt, type := ty, pos := pos, after := aft, guard := none } :: rest) a w) :
    wpList P ops Q ({ dst := d, op := .binOp op t x y yt, type := ty, pos := pos, after := aft, guard := none } :: rest) a w := h
theorem gCnv {s t : TypeId} {x : Operand} (h : wpList P ops Q ({ dst := d, op := .convert s t x, type := ty, pos := pos, after := aft, guard := none } :: rest) a w) :
    wpList P ops Q ({ dst := d, op := .convert s t x, type := ty, pos := pos, after := aft, guard := none } :: rest) a w := h

theorem step_val {o : Op} {v : Value} (hr : (execOp a.eval { dst := d, op := o, type := ty, pos := pos, after := aft, guard := none }).run P w = .ok (.value v) w)
    (h : wpList P ops Q rest (a.put d v) w) : wpList P ops Q ({ dst := d, op := o, type := ty, pos := pos, after := aft, guard := none } :: rest) a w := by
  refine wpList_plain rfl fun K hK => ?_
  unfold Oper.wp
  rw [hr]
  exact hK _ _ h

/-- the whole numbers of a kind, as bit vectors -/
theorem kint {k : IntKind} {n : Nat} {u : BitVec n} {m : Int} (h : m = (u.toNat : Int)) : Value.int k m = .int k (u.toNat : Int) := by rw [h]

/-- the operations behind words that the walk's simp does not open -/
def badd (u v : BitVec 32) : BitVec 32 := u + v
def bsub (u v : BitVec 32) : BitVec 32 := u - v
def bmul (u v : BitVec 32) : BitVec 32 := u * v
def bxor (u v : BitVec 32) : BitVec 32 := u ^^^ v
def bor (u v : BitVec 32) : BitVec 32 := u ||| v
def bshl (u : BitVec 32) (n : Nat) : BitVec 32 := u <<< n
def bshr (u : BitVec 32) (n : Nat) : BitVec 32 := u >>> n
def bw32 (u : BitVec 8) : BitVec 32 := u.setWidth 32
def bw8 (u : BitVec 32) : BitVec 8 := u.setWidth 8
def bk (m : Int) : BitVec 32 := BitVec.ofInt 32 m

theorem add_u32 {t yt : TypeId} {x y : Operand} {u v : BitVec 32} (hx : a.eval x = .int .u32 (u.toNat : Int)) (hy : a.eval y = .int .u32 (v.toNat : Int))
    (h : wpList P ops Q rest (a.put d (.int .u32 ((badd u v).toNat : Int))) w) : wpList P ops Q ({ dst := d, op := .binOp .add t x y yt, type := ty, pos := pos, after := aft, guard := none } :: rest) a w := by
  unfold badd at h
  refine step_val ?_ h
  simp only [execOp, hx, hy]
  simp [go_sem, binOp, eqGuard, Op.intArith, IntKind.wrap_u32', BitVec.toNat_add]
theorem sub_u32 {t yt : TypeId} {x y : Operand} {u v : BitVec 32} (hx : a.eval x = .int .u32 (u.toNat : Int)) (hy : a.eval y = .int .u32 (v.toNat : Int))
    (h : wpList P ops Q rest (a.put d (.int .u32 ((bsub u v).toNat : Int))) w) : wpList P ops Q ({ dst := d, op := .binOp .sub t x y yt, type := ty, pos := pos, after := aft, guard := none } :: rest) a w := by
  unfold bsub at h
  refine step_val ?_ h
  simp only [execOp, hx, hy]
  simp [go_sem, binOp, eqGuard, Op.intArith, IntKind.wrap_u32', sub32]
theorem mul_u32 {t yt : TypeId} {x y : Operand} {u v : BitVec 32} (hx : a.eval x = .int .u32 (u.toNat : Int)) (hy : a.eval y = .int .u32 (v.toNat : Int))
    (h : wpList P ops Q rest (a.put d (.int .u32 ((bmul u v).toNat : Int))) w) : wpList P ops Q ({ dst := d, op := .binOp .mul t x y yt, type := ty, pos := pos, after := aft, guard := none } :: rest) a w := by
  unfold bmul at h
  refine step_val ?_ h
  simp only [execOp, hx, hy]
  simp [go_sem, binOp, eqGuard, Op.intArith, IntKind.wrap_u32', BitVec.toNat_mul]
theorem xor_u32 {t yt : TypeId} {x y : Operand} {u v : BitVec 32} (hx : a.eval x = .int .u32 (u.toNat : Int)) (hy : a.eval y = .int .u32 (v.toNat : Int))
    (h : wpList P ops Q rest (a.put d (.int .u32 ((bxor u v).toNat : Int))) w) : wpList P ops Q ({ dst := d, op := .binOp .xor t x y yt, type := ty, pos := pos, after := aft, guard := none } :: rest) a w := by
  unfold bxor at h
  refine step_val ?_ h
  simp only [execOp, hx, hy]
  simp [go_sem, binOp, eqGuard, Op.intArith, xor32]
theorem or_u32 {t yt : TypeId} {x y : Operand} {u v : BitVec 32} (hx : a.eval x = .int .u32 (u.toNat : Int)) (hy : a.eval y = .int .u32 (v.toNat : Int))
    (h : wpList P ops Q rest (a.put d (.int .u32 ((bor u v).toNat : Int))) w) : wpList P ops Q ({ dst := d, op := .binOp .or t x y yt, type := ty, pos := pos, after := aft, guard := none } :: rest) a w := by
  unfold bor at h
  refine step_val ?_ h
  simp only [execOp, hx, hy]
  simp [go_sem, binOp, eqGuard, Op.intArith, or32]
/-- a constant as a bit vector -/
theorem cu32 {x : Operand} {m : Int} (v : BitVec 32) (hx : a.eval x = .int .u32 m) (hm : m = (v.toNat : Int)) : a.eval x = .int .u32 (v.toNat : Int) := by rw [hx, hm]
theorem ku32 {x : Operand} {m : Int} (hx : a.eval x = .int .u32 m) (hm : 0 ≤ m ∧ m < 4294967296) : a.eval x = .int .u32 ((bk m).toNat : Int) := by
  unfold bk
  rw [hx, BitVec.toNat_ofInt]
  congr 1
  omega
theorem w8 {x : Operand} {u : BitVec 8} (hx : a.eval x = .int .u32 (u.toNat : Int)) : a.eval x = .int .u32 ((bw32 u).toNat : Int) := by
  unfold bw32
  rw [hx, BitVec.toNat_setWidth]
  congr 1
  have := u.isLt
  omega
theorem shl_u32 {t yt : TypeId} {x y : Operand} {u : BitVec 32} {k : IntKind} {n : Nat} (hx : a.eval x = .int .u32 (u.toNat : Int)) (hy : a.eval y = .int k (n : Int)) (hn : n < 32)
    (h : wpList P ops Q rest (a.put d (.int .u32 ((bshl u n).toNat : Int))) w) : wpList P ops Q ({ dst := d, op := .binOp .shl t x y yt, type := ty, pos := pos, after := aft, guard := none } :: rest) a w := by
  unfold bshl at h
  refine step_val ?_ h
  simp only [execOp, hx, hy]
  have h0 : ¬ ((n : Int) < 0) := by omega
  have hm : min n 32 = n := by omega
  simp [go_sem, binOp, eqGuard, Op.shift, IntKind.wrap_u32', Nat.shiftLeft_eq, hm, h0]
theorem shr_u32 {t yt : TypeId} {x y : Operand} {u : BitVec 32} {k : IntKind} {n : Nat} (hx : a.eval x = .int .u32 (u.toNat : Int)) (hy : a.eval y = .int k (n : Int)) (hn : n < 32)
    (h : wpList P ops Q rest (a.put d (.int .u32 ((bshr u n).toNat : Int))) w) : wpList P ops Q ({ dst := d, op := .binOp .shr t x y yt, type := ty, pos := pos, after := aft, guard := none } :: rest) a w := by
  unfold bshr at h
  refine step_val ?_ h
  simp only [execOp, hx, hy]
  have h0 : ¬ ((n : Int) < 0) := by omega
  have hm : min n 32 = n := by omega
  simp [go_sem, binOp, eqGuard, Op.shift, IntKind.wrap_u32', Nat.shiftRight_eq_div_pow, hm, h0, Int.fdiv_eq_ediv_of_nonneg _ (show (0 : Int) ≤ 2 ^ n by exact_mod_cast Nat.zero_le _)]
theorem cnv_8_32 {s t : TypeId} {x : Operand} {u : BitVec 8} (hs : P.underlying s = some (.int .u8)) (ht : P.underlying t = some (.int .u32)) (hx : a.eval x = .int .u8 (u.toNat : Int))
    (h : wpList P ops Q rest (a.put d (.int .u32 ((bw32 u).toNat : Int))) w) : wpList P ops Q ({ dst := d, op := .convert s t x, type := ty, pos := pos, after := aft, guard := none } :: rest) a w := by
  unfold bw32 at h
  refine step_val ?_ h
  have e : IntKind.u32.wrap (u.toNat : Int) = ((u.setWidth 32).toNat : Int) := by
    rw [IntKind.wrap_u32', BitVec.toNat_setWidth]; have := u.isLt; omega
  simp only [execOp, hx]
  have hc : (convert s t (.int IntKind.u8 (u.toNat : Int))).run P w = .ok (.int IntKind.u32 (IntKind.u32.wrap (u.toNat : Int))) w := by simp [convert, run_underlying hs, run_underlying ht, Conv.intToInt]
  simp [hc, e]
theorem cnv_32_8 {s t : TypeId} {x : Operand} {u : BitVec 32} (hs : P.underlying s = some (.int .u32)) (ht : P.underlying t = some (.int .u8)) (hx : a.eval x = .int .u32 (u.toNat : Int))
    (h : wpList P ops Q rest (a.put d (.int .u8 ((bw8 u).toNat : Int))) w) : wpList P ops Q ({ dst := d, op := .convert s t x, type := ty, pos := pos, after := aft, guard := none } :: rest) a w := by
  unfold bw8 at h
  refine step_val ?_ h
  have e : IntKind.u8.wrap (u.toNat : Int) = ((u.setWidth 8).toNat : Int) := by
    rw [IntKind.wrap_u8', BitVec.toNat_setWidth]; omega
  simp only [execOp, hx]
  have hc : (convert s t (.int IntKind.u32 (u.toNat : Int))).run P w = .ok (.int IntKind.u8 (IntKind.u8.wrap (u.toNat : Int))) w := by simp [convert, run_underlying hs, run_underlying ht, Conv.intToInt]
  simp [hc, e]
end
end Go.Bva

/- Walks: match.find, Find. -/
namespace Go.Own
open Go.RowKit Go.Ord
section
variable {P : Program} {ops : Array Oper} {Q : Exit → Act → World → Prop} {a : Act} {w : World} {rest : List Oper}
variable {d : Option Tmp} {ty : TypeId} {pos : String} {aft : Array Edge}
theorem gMin {args : Array Operand} {ats : Array TypeId} (h : wpList P ops Q ({ dst := d, op := .call { callee := .builtin .min, args := args, argTypes := ats }, type := ty, pos := pos, after := aft, guard := none } :: rest) a w) :
    wpList P ops Q ({ dst := d, op := .call { callee := .builtin .min, args := args, argTypes := ats }, type := ty, pos := pos, after := aft, guard := none } :: rest) a w := h
/-- 'min(x, y)' of two numbers: what it is, is told -/
theorem minV {x y : Operand} {ats : Array TypeId} {k k' : IntKind} {m n : Int} (r : Int) (hr : (if n < m then n else m) = r) (hx : a.eval x = .int k m) (hy : a.eval y = .int k' n)
    (h : wpList P ops Q rest (a.put d (.int k r)) w) :
    wpList P ops Q ({ dst := d, op := .call { callee := .builtin .min, args := #[x, y], argTypes := ats }, type := ty, pos := pos, after := aft, guard := none } :: rest) a w := by
  refine Go.Bva.step_val ?_ h
  subst hr
  simp [execOp, invoke, resolve, builtin, hx, hy, run_min_int2]
end
end Go.Own
namespace Go.Proofs.Ytnkpjmcgecdkfaa
open Go.RowKit Go.Own Go.Bv Go.Ord Go.Eq Go.Mt

def bestT (bs : List (BitVec 8)) (at_ k : Nat) : Tok := ⟨0, ((best bs at_ k).1 : Nat), ((best bs at_ k).2 : Nat)⟩

set_option maxHeartbeats 2000000 in
set_option maxRecDepth 100000 in
theorem find_calls (a : Option Addr) (n cap : Nat) (bs : List (BitVec 8)) (at_ : Nat) (w : World) (hR : Rd w 1 a n cap (u8s bs)) (hat : at_ < n) (hn : n ≤ 65536) :
    Calls Try.prog 37 #[.slice a n cap, .int .i64 (at_ : Int)] w fun e w' => e = .returned (.tuple #[.agg (bestT bs at_ (min 256 at_)).C, .bool (decide (3 ≤ (found bs at_).1))]) ∧ Below w.heap.size w w' := by
  have hO := Own.start w
  have HR := Lib.hid hR
  clear hR
  generalize hW : w = wn at hO HR ⊢
  clear hW w
  obtain ⟨M, hM⟩ : ∃ M, min 256 at_ = M := ⟨_, rfl⟩
  have HM := Lib.hid hM
  have hM256 : M ≤ 256 := by omega
  have HMI : Hid ((if (at_ : Int) < 256 then (at_ : Int) else 256) = (M : Int)) := by show _ = _; split <;> omega
  rw [hM]
  clear hM
  go_enter Try.func37, Try.ntmps37
  go_wp2_with (first
    | ((with_reducible refine gAlloc (T := 30) ?_); refine own_alloc hO _ _ itz ?_; clear hO; intro bx ww hO))
  go_loopg [6] 257 (fun m c wr => ∃ k : Nat, m = 257 - k ∧ k ≤ M ∧ c = .int .i64 ((k + 1 : Nat) : Int) ∧ Own wn wr [.blk bx (.cells (bestT bs at_ k).C 30 (0,0))])
  case atStart => exact ⟨0, rfl, by omega, rfl, hO⟩
  case round =>
    obtain ⟨k, rfl, hk, rfl, hO1⟩ := hrel
    clear hO
    have hO := hO1
    clear hO1
    by_cases c1 : k < M
    · have d1 : decide (((k : Int) + 1) ≤ (M : Int)) = true := by have := HM.out; simp; omega
      obtain ⟨R, hRR⟩ : ∃ R : Nat, com bs (k + 1) at_ 18 = R := ⟨_, rfl⟩
      have HB : Hid (best bs at_ (k + 1) = if (best bs at_ k).1 < R then (R, k + 1) else best bs at_ k) := by show _ = _; rw [← hRR]; rfl
      have hc := fun w h => common_calls a n cap bs (at_ - (k + 1)) (k + 1) at_ w h (by omega) (by have := HM.out; omega) hat hn
      rw [hRR] at hc
      have e1 : ((at_ - (k + 1) : Nat) : Int) = (at_ : Int) - ((k : Int) + 1) := by have := HM.out; omega
      rw [e1] at hc
      have HC := Lib.hid hc
      clear hc hRR e1
      have e2 : wrap64 ((at_ : Int) - ((k : Int) + 1)) = (at_ : Int) - ((k : Int) + 1) := by unfold wrap64; have := HM.out; omega
      unfold bestT at hO
      obtain ⟨q, hq⟩ : ∃ q, (best bs at_ k).1 = q := ⟨_, rfl⟩
      obtain ⟨r, hr⟩ : ∃ r, (best bs at_ k).2 = r := ⟨_, rfl⟩
      have HB1 : Hid (bestT bs at_ (k + 1) = if q < R then ⟨0, (R : Int), ((k + 1 : Nat) : Int)⟩ else ⟨0, (q : Int), (r : Int)⟩) := by
        show _ = _
        unfold bestT
        rw [HB.out, hq]
        split
        · rfl
        · rw [hq, hr]
      rw [hq, hr] at hO
      clear hq hr HB
      by_cases c2 : q < R
      · have d2 : decide (q < R) = true := by simp; omega
        have HB2 : Hid (bestT bs at_ (k + 1) = ⟨0, (R : Int), ((k + 1 : Nat) : Int)⟩) := by show _ = _; rw [HB1.out, if_pos c2]
        clear HB1
        go_wp2_with (first
          | (go_at_call 58; refine (HC.out _ (hO.rd HR.out)).mono ?_; rintro e ww ⟨rfl, hb⟩; replace hO := hO.call hb; clear hb)
          | ((with_reducible refine gBld (T := 30) ?_); refine own_bld (Tok.C ⟨0, (R : Int), ((k : Int) + 1)⟩) (by kernel_rfl) ?_)
          | ((with_reducible refine gMin ?_); refine minV _ HMI.out rfl rfl ?_)
          | ((with_reducible refine gLoad ?_); first | refine ldX hO 0 rfl rfl (tA rfl) (tS rfl) ?_ | refine ldC hO 0 rfl rfl (tA rfl) rfl ?_)
          | ((with_reducible refine gStore ?_); first | (refine stX hO 0 rfl rfl rfl rfl rfl (tS rfl) ?_; clear hO; intro ww hO) | (refine stC hO 0 rfl rfl rfl (ltb rfl) rfl (tS rfl) ?_; clear hO; intro ww hO)))
        go_roundg (257 - (k + 1))
        case measure => omega
        case rel => exact ⟨k + 1, rfl, by omega, by go_num, by rw [HB2.out]; exact hO⟩
      · have d2 : decide (q < R) = false := by simp; omega
        have HB2 : Hid (bestT bs at_ (k + 1) = ⟨0, (q : Int), (r : Int)⟩) := by show _ = _; rw [HB1.out, if_neg c2]
        clear HB1
        go_wp2_with (first
          | (go_at_call 58; refine (HC.out _ (hO.rd HR.out)).mono ?_; rintro e ww ⟨rfl, hb⟩; replace hO := hO.call hb; clear hb)
          | ((with_reducible refine gMin ?_); refine minV _ HMI.out rfl rfl ?_)
          | ((with_reducible refine gLoad ?_); first | refine ldX hO 0 rfl rfl (tA rfl) (tS rfl) ?_ | refine ldC hO 0 rfl rfl (tA rfl) rfl ?_)
          | ((with_reducible refine gStore ?_); first | (refine stX hO 0 rfl rfl rfl rfl rfl (tS rfl) ?_; clear hO; intro ww hO) | (refine stC hO 0 rfl rfl rfl (ltb rfl) rfl (tS rfl) ?_; clear hO; intro ww hO)))
        go_roundg (257 - (k + 1))
        case measure => omega
        case rel => exact ⟨k + 1, rfl, by omega, by go_num, by rw [HB2.out]; exact hO⟩
    · obtain rfl : k = M := by omega
      have HF : Hid ((best bs at_ k).1 = (found bs at_).1) := by show _ = _; unfold found; rw [HM.out]
      unfold bestT at hO
      obtain ⟨q, hq⟩ : ∃ q, (best bs at_ k).1 = q := ⟨_, rfl⟩
      obtain ⟨r, hr⟩ : ∃ r, (best bs at_ k).2 = r := ⟨_, rfl⟩
      rw [hq, hr] at hO
      have HQ : Hid (bestT bs at_ k = ⟨0, (q : Int), (r : Int)⟩) := by show _ = _; unfold bestT; rw [hq, hr]
      have HF2 : Hid ((found bs at_).1 = q) := by show _ = _; rw [← HF.out, hq]
      clear hq hr HF
      go_wp2_with (first
        | ((with_reducible refine gMin ?_); refine minV _ HMI.out rfl rfl ?_)
        | ((with_reducible refine gLoad ?_); first | refine ldX hO 0 rfl rfl (tA rfl) (tS rfl) ?_ | refine ldC hO 0 rfl rfl (tA rfl) rfl ?_)
        | ((with_reducible refine gStore ?_); first | (refine stX hO 0 rfl rfl rfl rfl rfl (tS rfl) ?_; clear hO; intro ww hO) | (refine stC hO 0 rfl rfl rfl (ltb rfl) rfl (tS rfl) ?_; clear hO; intro ww hO)))
      refine bodyPost_ret (res_ct rfl _ _ bx 30 (Tok.C ⟨0, (q : Int), (r : Int)⟩) (0,0) _ rfl (hO.blk 0 rfl) Try.underlying30 rfl (its' _)) rfl ⟨?_, hO.below⟩
      rw [HQ.out, HF2.out]
      simp
      omega
end Go.Proofs.Ytnkpjmcgecdkfaa

/- Walks: slices.Clip, match.Tokens. -/
namespace Go
/-- 'wp_scope_jumps' with a number of the proof's own, what is handed on behind a name; what stands behind the label is walked once -/
theorem wp_scope_ghost {P : Program} {Q : Exit → Act → World → Prop} {a : Act} {w : World} {c X : Code} (l : Nat) (I : Nat → Act → World → Prop) (hf : findLabel c l = some (.seq .skip X))
    (first : ∀ K : Act → World → Prop, (∀ n a w, I n a w → X.wp P (Exit.jump l K Q) a w) → c.wp P (Exit.jump l K Q) a w)
    (pass : ∀ n a w, I n a w → ∀ K : Act → World → Prop, (∀ m a w, m < n → I m a w → K a w) → X.wp P (Exit.jump l K Q) a w) : (Code.scope c).wp P Q a w := by
  refine wp_scope_jumps l (fun a w => ∃ n, I n a w) (fun a w => leastOf (fun n => I n a w)) hf (first _ fun n a w h => pass n a w h _ fun m a' w' _ h' => ⟨m, h'⟩) ?_
  intro a w hI
  have hs := leastOf_spec hI
  refine wp_seq (wp_skip ?_)
  exact pass _ a w hs.1 _ fun m a' w' hlt hI' => ⟨⟨m, hI'⟩, Nat.lt_of_le_of_lt ((leastOf_spec ⟨m, hI'⟩).2 m hI') hlt⟩
@[go_sem] theorem Exit.jump_normal {l : Nat} {J : Act → World → Prop} {Q : Exit → Act → World → Prop} {a : Act} {w : World} : Exit.jump l J Q .normal a w = Q .normal a w := rfl
@[go_sem] theorem Exit.jump_ret {l : Nat} {J : Act → World → Prop} {Q : Exit → Act → World → Prop} {a : Act} {w : World} : Exit.jump l J Q .ret a w = Q .ret a w := rfl
end Go
namespace Go.Own
/-- of what a call has made, one thing -/
theorem Own.mem1 {w0 w : World} {L : List Res} (h : Own w0 w L) {r : Res} (hr : r ∈ L) : Own w0 w [r] :=
  ⟨h.below, fun q hq => by rw [List.mem_singleton] at hq; rw [hq]; exact h.mem r hr, List.pairwise_singleton _ _⟩
end Go.Own
namespace Go.Mt
theorem tokens_step {bs : List (BitVec 8)} {n p : Nat} {L : List Tok} (hn : bs.length = n) (hp : p < n) (h : tokens bs = L ++ toksFrom bs n p) : tokens bs = (L ++ [tokAt bs p]) ++ toksFrom bs n (p + (tokAt bs p).size) := by
  obtain ⟨f, rfl⟩ : ∃ f, n = f + 1 := ⟨n - 1, by omega⟩
  have hs := Tok.ok_size (tokAt_ok (b := bs) (at_ := p))
  rw [h, toksFrom, if_pos (by omega), List.append_assoc, toksFrom_fuel f (f + 1) _ (by omega) (by omega)]
  rfl
theorem tokAt_len (b : List (BitVec 8)) (p : Nat) : 0 ≤ (tokAt b p).len := (Tok.ok_len (tokAt_ok (b := b) (at_ := p))).1
end Go.Mt
namespace Go.Proofs.Ytnkpjmcgecdkfaa
open Go.RowKit Go.Own Go.Bv Go.Ord Go.Eq Go.Mt

set_option maxHeartbeats 1000000 in
theorem clip_calls (a : Option Addr) (n cap : Nat) (h : n ≤ cap) (w : World) (hn : a = none → n = 0 ∧ cap = 0) :
    Calls Try.prog 36 #[.slice a n cap] w fun e w' => e = .returned (.slice a n n) ∧ w = w' := by
  cases a with
  | none =>
    obtain ⟨rfl, rfl⟩ := hn rfl
    clear hn h
    go_enter Try.func36, Try.ntmps36
    go_wp2
    go_ret
    exact ⟨rfl, rfl⟩
  | some ad =>
    clear hn
    go_enter Try.func36, Try.ntmps36
    go_wp2
    go_ret
    exact ⟨rfl, rfl⟩

theorem rd_clip {w : World} {sz n cap : Nat} {a : Option Addr} {xs : List Value} (h : Rd w sz a n cap xs) : Rd w sz a n n xs :=
  ⟨h.len, Nat.le_refl _, Nat.le_trans h.le h.max, fun ha => ⟨(h.nil ha).1, (h.nil ha).1⟩, h.at'⟩

set_option maxHeartbeats 4000000 in
set_option maxRecDepth 100000 in
theorem tokens_calls (a : Option Addr) (n cap : Nat) (bs : List (BitVec 8)) (w : World) (hR : Rd w 1 a n cap (u8s bs)) (hn : n ≤ 65536) :
    Calls Try.prog 23 #[.slice a n cap] w fun e w' => ∃ a' T c', T = (tokens bs).length ∧ e = .returned (.tuple #[.slice a' T T, .int .i64 0]) ∧ Below w.heap.size w w' ∧ w'.ownsRow w.heap.size 30 3 (.slice a' T c') T (tks (tokens bs)) := by
  have hO := Own.start w
  have hlen : bs.length = n := by have := hR.len; rw [u8s_length] at this; omega
  have HL := Lib.hid hlen
  have HR := Lib.hid hR
  clear hR hlen
  have d1 : decide ((65536 : Int) < (n : Int)) = false := by simp; omega
  generalize hW : w = wn at hO HR ⊢
  clear hW w
  go_enter Try.func23, Try.ntmps23
  go_wp2
  refine wp_scope_ghost 0 (fun m a' w' => ∃ (p : Nat) (L : List Tok) (aO : Option Addr) (T cO : Nat), m = n - p ∧ p ≤ n ∧ T = L.length ∧ T ≤ p ∧ tokens bs = L ++ toksFrom bs n p ∧ Own wn w' [.sl 30 3 (.slice aO T cO) T (tks L)] ∧
    ∃ (u6 u7 u8 u9 u10 u11 u12 u13 u14 u15 u16 u17 u18 u19 u20 u21 u22 u23 u24 u25 u26 u27 u28 u29 u30 u31 u32 u33 u34 u35 u36 u37 : Value), a' = { tmps := #[.slice a n cap, undef, .slice none 0 0, .int .i64 0, .slice aO T cO, .int .i64 (p : Int), u6, u7, u8, u9, u10, u11, u12, u13, u14, u15, u16, u17, u18, u19, u20, u21, u22, u23, u24, u25, u26, u27, u28, u29, u30, u31, u32, u33, u34, u35, u36, u37], defers := [] }) rfl ?_ ?_
  · intro K hX
    have HX := Lib.hid hX
    clear hX
    go_wp2
    go_step3
    go_step
    go_step
    exact HX.out _ _ _ ⟨0, [], none, 0, 0, rfl, by omega, rfl, by omega, by rw [HL.out.symm]; rfl, hO.add (Below.refl _ _) (World.ownsRow_nil _ _ _ _), _, _, _, _, _, _, _, _, _, _, _, _, _, _, _, _, _, _, _, _, _, _, _, _, _, _, _, _, _, _, _, _, rfl⟩
  · rintro m a' w' ⟨p, L, aO, T, cO, rfl, hp, hT, hTp, hL, hO1, u6, u7, u8, u9, u10, u11, u12, u13, u14, u15, u16, u17, u18, u19, u20, u21, u22, u23, u24, u25, u26, u27, u28, u29, u30, u31, u32, u33, u34, u35, u36, u37, rfl⟩ K hK
    have HK := Lib.hid hK
    have HTT := Lib.hid hT
    clear hK hO hT
    have hO := hO1
    clear hO1
    dsimp only
    by_cases c1 : p < n
    · have d2 : ((p : Int) == (n : Int)) = false := by simp; omega
      have HS := Lib.hid (tokens_step HL.out c1 hL)
      have HLen := Lib.hid (tokAt_tell (b := bs) (at_ := p) (by rw [HL.out]; exact c1)).1
      have H0 := Lib.hid (Tok.ok_size (tokAt_ok (b := bs) (at_ := p)))
      have hz := fun w => size_calls (tokAt bs p) w (tokAt_len bs p)
      have hx := u8s_get bs p (by rw [HL.out]; exact c1)
      have HX0 : Hid ((if decide (3 ≤ (found bs p).1) = true then bestT bs p (min 256 p) else ⟨bs[p]'(by rw [HL.out]; exact c1), 0, 0⟩) = tokAt bs p) := by
        show _ = _
        unfold tokAt bestT found
        simp only [decide_eq_true_eq]
        split
        · rfl
        · rw [List.getD_eq_getElem?_getD, List.getElem?_eq_getElem (by rw [HL.out]; exact c1)]; rfl
      generalize bs[p]'(by rw [HL.out]; exact c1) = x at HX0 hx
      obtain ⟨tt, ht⟩ : ∃ tt, tokAt bs p = tt := ⟨_, rfl⟩
      obtain ⟨bt, hb⟩ : ∃ bt, bestT bs p (min 256 p) = bt := ⟨_, rfl⟩
      obtain ⟨B, hB⟩ : ∃ B, decide (3 ≤ (found bs p).1) = B := ⟨_, rfl⟩
      have hf := fun w h => find_calls a n cap bs p w h c1 hn
      rw [ht] at HS HLen H0 hz HX0
      rw [hb, hB] at hf HX0
      rw [HL.out] at HLen
      obtain ⟨sz, hsz⟩ : ∃ sz, tt.size = sz := ⟨_, rfl⟩
      rw [hsz] at HS HLen H0 hz
      have HF := Lib.hid hf
      have HZ := Lib.hid hz
      have HX := Lib.hid hx
      clear hf hz hx ht hb hB hL hsz
      have e1 : wrap64 ((p : Int) + (sz : Int)) = ((p + sz : Nat) : Int) := by unfold wrap64; have := HLen.out; omega
      obtain ⟨b0, off, rfl⟩ := HR.out.place (by omega)
      cases B
      all_goals
        simp only [Bool.false_eq_true, if_true, if_false] at HX0
        have HX1 := Lib.hid HX0.out
        go_wp2_with (first
          | (go_at_call 37; refine (HF.out _ (hO.rd HR.out)).mono ?_; rintro e ww ⟨rfl, hb⟩; replace hO := hO.call hb; clear hb)
          | ((with_reducible refine gAlloc (T := 30) ?_); refine own_alloc hO _ _ itz ?_; clear hO; intro bx ww hO)
          | ((with_reducible refine gBld (T := 30) ?_); refine own_bld (Tok.C ⟨x, 0, 0⟩) (by kernel_rfl) ?_)
          | ((with_reducible refine gLoad ?_); refine ld_rd (hO.rd HR.out) rfl (HX.out) (tA rfl) ?_)
          | ((with_reducible refine gStore ?_); first | (refine stX hO 0 rfl rfl rfl rfl rfl (tS rfl) ?_; clear hO; intro ww hO) | (refine stC hO 0 rfl rfl rfl (ltb rfl) rfl (tS rfl) ?_; clear hO; intro ww hO)))
        rw [HX1.out] at hO
        change Own wn _ [.blk bx (.cells tt.C 30 (0, 0)), .sl 30 3 (.slice aO T cO) T (tks L)] at hO
        refine wp_region_textS (fun w' => Own wn w' [.blk bx (.cells tt.C 30 (0,0))]) (fun op => match op with | .load _ _ => true | _ => false) (by kernel_rfl) (by kernel_rfl) (hO.drew.mem1 (by simp)) ?_
        replace hO := hO.drew
        generalize World.drew _ = wd at hO ⊢
        go_wp2_with (first
          | (((with_reducible refine gIL ?_); first | refine wpI_ldS (fun w' hS => hS.blk 0 rfl) rfl rfl (tA rfl) (tS rfl) ?_); first | (refine wpI_act (by simp only [Act.put, List.setIfInBounds_toArray, List.set_cons_succ, List.set_cons_zero]; rfl) ?_) | skip)
          | ((with_reducible refine gBuild ?_); refine own_build hO 22 1 _ etk tt.C (by omega) (by omega) (by kernel_rfl) rfl ?_; clear hO; intro g ww hO)
          | ((with_reducible refine gAppend ?_); refine own_append hO 2 _ _ 22 etk rfl rfl rfl (hO.rdAt 0 rfl) (tks_one [tt]) (T + 1) rfl (by simp [maxLen]; omega) (by omega) ?_; clear hO; intro a2 c2 ww hO)
          | (go_at_call 35; refine (HZ.out _).mono ?_; rintro e ww ⟨rfl, hb⟩; replace hO := hO.call hb; clear hb)
          | ((with_reducible refine gI ?_); refine wpI_step rfl rfl (by kernel_rfl) ?_; intro K hK; have HK := Lib.hid hK; clear hK) | ((with_reducible refine gI ?_); first | refine wpI_skip rfl ?_ | refine wpI_want rfl ?_) | ((with_reducible refine gOnlyK HK.out ?_ ?_); exact hO.mem1 (by simp); clear HK K; first | (refine wpI_act (by simp only [Act.put, List.setIfInBounds_toArray, List.set_cons_succ, List.set_cons_zero]; rfl) ?_) | skip) | (with_reducible refine wpI_nil ?_))
        go_step3
        have hm := HLen.out
        have h0 := H0.out
        rw [e1]
        refine ⟨rfl, HK.out (n - (p + sz)) _ _ (by omega) ⟨p + sz, L ++ [tt], a2, T + 1, c2, rfl, HLen.out, by rw [List.length_append, HTT.out]; rfl, by omega, HS.out, ?_, _, _, _, _, _, _, _, _, _, _, _, _, _, _, _, _, _, _, _, _, _, _, _, _, _, _, _, _, _, _, _, _, rfl⟩⟩
        rw [tks_append]
        exact hO.sub (by repeat first | exact List.Sublist.refl _ | apply List.Sublist.cons)
    · obtain rfl : p = n := by omega
      have HT : Hid (tokens bs = L) := by show _ = _; rw [hL, toksFrom_stop (by rw [HL.out]; exact Nat.le_refl _), List.append_nil]
      have hcl := fun w => clip_calls aO T cO (hO.rdAt 0 rfl).le w (hO.rdAt 0 rfl).nil
      have HCL := Lib.hid hcl
      clear hcl hL
      go_wp2_with (first
          | (go_at_call 36; refine (HCL.out _).mono ?_; rintro e ww ⟨rfl, rfl⟩))
      simp only [Exit.jump]
      go_ret2
      exact ⟨aO, T, cO, by rw [HT.out]; exact HTT.out, rfl, hO.below, by rw [HT.out]; exact hO.row 0 rfl⟩
theorem tokens_callsN (a : Option Addr) (n cap : Nat) (bs : List (BitVec 8)) (T : Nat) (hT : (tokens bs).length = T) (w : World) (hR : Rd w 1 a n cap (u8s bs)) (hn : n ≤ 65536) :
    Calls Try.prog 23 #[.slice a n cap] w fun e w' => ∃ a' c', e = .returned (.tuple #[.slice a' T T, .int .i64 0]) ∧ Below w.heap.size w w' ∧ w'.ownsRow w.heap.size 30 3 (.slice a' T c') T (tks (tokens bs)) := by
  subst hT
  refine (tokens_calls a n cap bs w hR hn).mono ?_
  rintro e w' ⟨a', N, c', rfl, he, hb, hr⟩
  exact ⟨a', c', he, hb, hr⟩
end Go.Proofs.Ytnkpjmcgecdkfaa

/- Walks: the document's Same; the law's live. -/
namespace Go.Own
open Go.RowKit Go.Ord Go.Mt
section
variable {P : Program} {ops : Array Oper} {Q : Exit → Act → World → Prop} {a : Act} {w : World} {rest : List Oper}
variable {d : Option Tmp} {ty : TypeId} {pos : String} {aft : Array Edge}
/-- a token out of a row of them -/
theorem ld_tok {T : TypeId} {x : Operand} {b off j k n cap : Nat} {l : List Tok} {t : Tok} (hR : Rd w 3 (some ⟨b, off, none⟩) n cap (tks l)) (ht : l[k]? = some t)
    (hx : a.eval x = .pointer (some ⟨b, j, none⟩)) (hj : j = off + k * 3) (hT : aggT P T = some true) (hs : (P.info? T).map (·.size) = some 3)
    (h : wpList P ops Q rest (a.put d (.agg t.C)) w) :
    wpList P ops Q ({ dst := d, op := .load T x, type := ty, pos := pos, after := aft, guard := none } :: rest) a w := by
  obtain ⟨hk, he⟩ := List.getElem?_eq_some_iff.1 ht
  subst hj
  exact ld_rds t.C.toList hR hx (fun i v hv => tks_get l k hk i v (by rw [he]; exact hv)) hT hs (by show 0 < 3; omega) h
end
end Go.Own
namespace Go.Mt
theorem take_same {l r : List Tok} {k : Nat} (h : l.take k = r.take k) {s : Tok} (h1 : l[k]? = some s) (h2 : r[k]? = some s) : l.take (k + 1) = r.take (k + 1) := by
  rw [List.take_add_one, List.take_add_one, h, h1, h2]
theorem tokens_live : tokens [97, 97, 97, 97, 97] = [⟨97, 0, 0⟩, ⟨0, 4, 1⟩] := by decide +kernel
end Go.Mt
namespace Go.Proofs.Ytnkpjmcgecdkfaa
open Go.RowKit Go.Own Go.Bv Go.Ord Go.Eq Go.Mt

end Go.Proofs.Ytnkpjmcgecdkfaa

/- Walks: match.Long, Check. -/
namespace Go.Mt
theorem Tok.kinds (t : Tok) (M : Nat) : (t.ok M ∧ 3 ≤ t.len ∧ t.len ≤ 18 ∧ 0 < t.dist ∧ t.dist ≤ 256 ∧ t.dist ≤ (M : Int) ∧ t.lit = 0) ∨ (t.ok M ∧ t.len = 0 ∧ t.dist = 0 ∧ t = ⟨t.lit, 0, 0⟩) ∨
    (¬ t.ok M ∧ t ≠ ⟨t.lit, 0, 0⟩ ∧ (t.len < 3 ∨ (3 ≤ t.len ∧ 18 < t.len) ∨ (3 ≤ t.len ∧ t.len ≤ 18 ∧ t.dist ≤ 0) ∨ (3 ≤ t.len ∧ t.len ≤ 18 ∧ 0 < t.dist ∧ (256 < t.dist ∨ (M : Int) < t.dist)) ∨
      (3 ≤ t.len ∧ t.len ≤ 18 ∧ 0 < t.dist ∧ t.dist ≤ 256 ∧ t.dist ≤ (M : Int) ∧ t.lit ≠ 0))) := by
  by_cases h : t.ok M
  · rcases h with ⟨h1, h2⟩ | ⟨h1, h2, h3, h4, h5, h6⟩
    · exact .inr (.inl ⟨.inl ⟨h1, h2⟩, h1, h2, by cases t; simp_all⟩)
    · exact .inl ⟨.inr ⟨h1, h2, h3, h4, h5, h6⟩, h1, h2, by omega, h4, h5, h6⟩
  · refine .inr (.inr ⟨h, fun he => h (.inl ⟨by rw [he], by rw [he]⟩), ?_⟩)
    by_cases h1 : t.len < 3
    · exact .inl h1
    by_cases h2 : 18 < t.len
    · exact .inr (.inl ⟨by omega, h2⟩)
    by_cases h3 : t.dist ≤ 0
    · exact .inr (.inr (.inl ⟨by omega, by omega, h3⟩))
    by_cases h4 : 256 < t.dist ∨ (M : Int) < t.dist
    · exact .inr (.inr (.inr (.inl ⟨by omega, by omega, by omega, h4⟩)))
    · refine .inr (.inr (.inr (.inr ⟨by omega, by omega, by omega, by omega, by omega, fun h6 => h (.inr ⟨by omega, by omega, by omega, by omega, by omega, h6⟩)⟩)))
theorem lit_zero {c : BitVec 8} : ((c.toNat : Int) == 0) = decide (c = 0) := by
  rw [Bool.eq_iff_iff]
  simp only [beq_iff_eq, decide_eq_true_eq]
  constructor
  · intro h; exact BitVec.eq_of_toNat_eq (by simpa using h)
  · rintro rfl; rfl
theorem told_bound {l : List Tok} {k : Nat} (h : okFrom 0 (l.take k)) : told (l.take k) ≤ 18 * k := by
  have := (told_bounds 0 _ h).2
  rw [List.length_take] at this; omega
end Go.Mt
namespace Go.Proofs.Ytnkpjmcgecdkfaa
open Go.RowKit Go.Own Go.Bv Go.Ord Go.Eq Go.Mt

set_option maxHeartbeats 8000000 in
set_option maxRecDepth 100000 in
theorem long_calls (a : Option Addr) (n c : Nat) (l : List Tok) (w : World) (hR : Rd w 3 a n c (tks l)) (N E : Int) (hok : n ≤ 65536 → okFrom 0 l → N = told l ∧ E = 0) (hno : 65536 < n ∨ ¬ okFrom 0 l → N = 0 ∧ E = 1) :
    Calls Try.prog 22 #[.slice a n c] w fun e w' => e = .returned (.tuple #[.int .i64 N, .int .i64 E]) ∧ Below w.heap.size w w' := by
  have hO := Own.start w
  have hl : l.length = n := by have := hR.len; rw [tks_length] at this; omega
  have HR := Lib.hid hR
  clear hR
  by_cases hn : 65536 < n
  · have d1 : decide ((65536 : Int) < (n : Int)) = true := by simp; omega
    obtain ⟨rfl, rfl⟩ := hno (.inl hn)
    generalize hW : w = wn at hO ⊢
    clear hW w hok hno hl HR
    go_enter Try.func22, Try.ntmps22
    go_wp2
    go_ret2
    exact ⟨rfl, hO.below⟩
  have d1 : decide ((65536 : Int) < (n : Int)) = false := by simp; omega
  have HL := Lib.hid hl
  have HOK := Lib.hid (hok (by omega))
  have HNO : Hid (¬ okFrom 0 l → N = 0 ∧ E = 1) := fun h => hno (.inr h)
  generalize hW : w = wn at hO HR ⊢
  clear hW w hok hno hl
  go_enter Try.func22, Try.ntmps22
  go_wp2
  go_loopg [2, 12] n (fun m s2 s12 wr => ∃ (k : Nat) (M : Nat), m = n - k ∧ k ≤ n ∧ s12 = .int .i64 (k : Int) ∧ s2 = .int .i64 (M : Int) ∧ M = told (l.take k) ∧ okFrom 0 (l.take k) ∧ Own wn wr [])
  case atStart => exact ⟨0, 0, rfl, by omega, rfl, rfl, rfl, by simp [okFrom], hO⟩
  case round =>
    obtain ⟨k, M, rfl, hk, rfl, rfl, hM, hF, hO1⟩ := hrel
    clear hO
    have hO := hO1
    have HM := Lib.hid hM
    have HF := Lib.hid hF
    clear hO1 hM hF
    by_cases c1 : k < n
    · have d2 : decide ((k : Int) < (n : Int)) = true := by simp; omega
      have hMb : M ≤ 18 * k := by rw [HM.out]; exact told_bound HF.out
      have hkl : k < l.length := by rw [HL.out]; exact c1
      have ht := List.getElem?_eq_getElem (l := l) (i := k) hkl
      have hok1 := okFrom_next hkl
      have hto1 := told_next hkl
      have hnot : ¬ (l[k]).ok M → ¬ okFrom 0 l := fun h h0 => h (by
        have := okFrom_take (k + 1) h0
        rw [okFrom_next hkl, ← HM.out] at this
        exact this.2)
      rw [← HM.out] at hok1 hto1
      obtain ⟨t, hte⟩ : ∃ t, l[k] = t := ⟨_, rfl⟩
      rw [hte] at ht hok1 hto1 hnot
      have hsz := fun w h => size_calls t w h
      have HT := Lib.hid ht
      clear ht hte hkl
      obtain ⟨b0, off, rfl⟩ := HR.out.place (by omega)
      have hl2 := lit_zero (c := t.lit)
      have HMN : Hid ((if (M : Int) < 256 then (M : Int) else 256) = min 256 (M : Int)) := by show _ = _; split <;> omega
      rcases Tok.kinds t M with ⟨h0, h1, h2, h3, h4, h5, h6⟩ | ⟨h0, h1, h2, h3⟩ | ⟨h0, h1, hc⟩
      · have hz := Tok.ok_size h0
        have HOK1 := Lib.hid (hok1.2 ⟨HF.out, h0⟩)
        have HZ := Lib.hid (fun w => hsz w (by omega))
        obtain ⟨sz, hs⟩ : ∃ sz, t.size = sz := ⟨_, rfl⟩
        rw [hs] at HZ hz hto1
        have HTO := Lib.hid hto1
        have hw : wrap64 ((M : Int) + (sz : Int)) = ((M + sz : Nat) : Int) := by unfold wrap64; omega
        obtain ⟨lit, len, dist⟩ := t
        dsimp only at h1 h2 h3 h4 h5 h6 hl2
        subst h6
        have e1 : decide ((3 : Int) ≤ len) = true := by simp; omega
        have e2 : decide (len ≤ (18 : Int)) = true := by simp; omega
        have e3 : decide ((0 : Int) < dist) = true := by simp; omega
        have e4 : decide (dist ≤ min 256 (M : Int)) = true := by simp; omega
        clear hok1 hto1 hnot hsz h0 h1 h2 h3 h4 h5 hs
        go_wp2_with (first
          | ((with_reducible refine gAlloc (T := 30) ?_); refine own_alloc hO _ _ itz ?_; clear hO; intro bx ww hO)
          | ((with_reducible refine gG ?_); refine wpList_want rfl ?_)
          | ((with_reducible refine gMin ?_); refine minV _ HMN.out rfl rfl ?_)
          | ((with_reducible refine gLoad (T := 30) ?_); first | refine ldX hO 0 rfl rfl (tA rfl) (tS rfl) ?_ | refine ld_tok (hO.rd HR.out) HT.out rfl (by omega) (tA rfl) (tS rfl) ?_)
          | ((with_reducible refine gLoad ?_); first | refine ldX hO 0 rfl rfl (tA rfl) (tS rfl) ?_ | refine ldC hO 0 rfl rfl (tA rfl) rfl ?_)
          | ((with_reducible refine gStore ?_); first | (refine stX hO 0 rfl rfl rfl rfl rfl (tS rfl) ?_; clear hO; intro ww hO) | (refine stC hO 0 rfl rfl rfl (ltb rfl) rfl (tS rfl) ?_; clear hO; intro ww hO))
          | (go_at_call 35; refine (HZ.out _).mono ?_; rintro e ww ⟨rfl, hb⟩; replace hO := hO.call hb; clear hb))
        go_roundg (n - (k + 1))
        case measure => omega
        case rel => exact ⟨k + 1, M + sz, rfl, by omega, by go_num, by go_num, by rw [HTO.out], HOK1.out, hO.sub (by repeat first | exact List.Sublist.refl _ | apply List.Sublist.cons)⟩
      · have hz := Tok.ok_size h0
        have HOK1 := Lib.hid (hok1.2 ⟨HF.out, h0⟩)
        have HZ := Lib.hid (fun w => hsz w (by omega))
        obtain ⟨sz, hs⟩ : ∃ sz, t.size = sz := ⟨_, rfl⟩
        rw [hs] at HZ hz hto1
        have HTO := Lib.hid hto1
        have hw : wrap64 ((M : Int) + (sz : Int)) = ((M + sz : Nat) : Int) := by unfold wrap64; omega
        clear hok1 hto1 hnot hsz h0 hs h3
        obtain ⟨lit, len, dist⟩ := t
        dsimp only at h1 h2 hl2
        subst h1 h2
        have HN : Hid (∀ w, (binOp .neq 30 (.agg (Tok.C ⟨lit, 0, 0⟩)) (.agg (Tok.C ⟨lit, 0, 0⟩))).run Try.prog w = .ok (.bool false) w) := fun w => by rw [neTok, decide_eq_true rfl]; rfl
        go_wp2_with (first
          | ((with_reducible refine gAlloc (T := 30) ?_); refine own_alloc hO _ _ itz ?_; clear hO; intro bx ww hO)
          | ((with_reducible refine gG ?_); refine wpList_want rfl ?_)
          | ((with_reducible refine gMin ?_); refine minV _ HMN.out rfl rfl ?_)
          | ((with_reducible refine gLoad (T := 30) ?_); first | refine ldX hO 0 rfl rfl (tA rfl) (tS rfl) ?_ | refine ld_tok (hO.rd HR.out) HT.out rfl (by omega) (tA rfl) (tS rfl) ?_)
          | ((with_reducible refine gLoad ?_); first | refine ldX hO 0 rfl rfl (tA rfl) (tS rfl) ?_ | refine ldC hO 0 rfl rfl (tA rfl) rfl ?_)
          | ((with_reducible refine gStore ?_); first | (refine stX hO 0 rfl rfl rfl rfl rfl (tS rfl) ?_; clear hO; intro ww hO) | (refine stC hO 0 rfl rfl rfl (ltb rfl) rfl (tS rfl) ?_; clear hO; intro ww hO))
          | (go_at_call 35; refine (HZ.out _).mono ?_; rintro e ww ⟨rfl, hb⟩; replace hO := hO.call hb; clear hb)
          | ((with_reducible refine gBld (T := 30) ?_); refine own_bld (Tok.C ⟨lit, 0, 0⟩) (by kernel_rfl) ?_)
          | ((with_reducible refine gNeq (t := 30) ?_); refine neD t_egT rfl rfl ?_; (with_reducible refine ⟨_, HN.out, ?_⟩)))
        go_roundg (n - (k + 1))
        case measure => omega
        case rel => exact ⟨k + 1, M + sz, rfl, by omega, by go_num, by go_num, by rw [HTO.out], HOK1.out, hO.sub (by repeat first | exact List.Sublist.refl _ | apply List.Sublist.cons)⟩
      · obtain ⟨hN0, hE1⟩ := HNO.out (hnot h0)
        clear hok1 hto1 hnot hsz h0
        obtain ⟨lit, len, dist⟩ := t
        dsimp only at h1 hc hl2
        have HN : Hid (∀ w, (binOp .neq 30 (.agg (Tok.C ⟨lit, len, dist⟩)) (.agg (Tok.C ⟨lit, 0, 0⟩))).run Try.prog w = .ok (.bool true) w) := fun w => by rw [neTok, decide_eq_false h1]; rfl
        have HNE := Lib.hid (And.intro hN0 hE1)
        clear h1 hN0 hE1
        rcases hc with h1 | ⟨h1, h2⟩ | ⟨h1, h2, h3⟩ | ⟨h1, h2, h3, h4⟩ | ⟨h1, h2, h3, h4, h5, h6⟩
        · have e1 : decide ((3 : Int) ≤ len) = false := by simp; omega
          clear h1
          have HX := Lib.hid e1
          go_wp2_with (first
            | ((with_reducible refine gAlloc (T := 30) ?_); refine own_alloc hO _ _ itz ?_; clear hO; intro bx ww hO)
            | ((with_reducible refine gG ?_); refine wpList_want rfl ?_)
            | ((with_reducible refine gMin ?_); refine minV _ HMN.out rfl rfl ?_)
            | ((with_reducible refine gLoad (T := 30) ?_); first | refine ldX hO 0 rfl rfl (tA rfl) (tS rfl) ?_ | refine ld_tok (hO.rd HR.out) HT.out rfl (by omega) (tA rfl) (tS rfl) ?_)
            | ((with_reducible refine gLoad ?_); first | refine ldX hO 0 rfl rfl (tA rfl) (tS rfl) ?_ | refine ldC hO 0 rfl rfl (tA rfl) rfl ?_)
            | ((with_reducible refine gStore ?_); first | (refine stX hO 0 rfl rfl rfl rfl rfl (tS rfl) ?_; clear hO; intro ww hO) | (refine stC hO 0 rfl rfl rfl (ltb rfl) rfl (tS rfl) ?_; clear hO; intro ww hO))
            | ((with_reducible refine gBld (T := 30) ?_); refine own_bld (Tok.C ⟨lit, 0, 0⟩) (by kernel_rfl) ?_)
            | ((with_reducible refine gNeq (t := 30) ?_); refine neD t_egT rfl rfl ?_; (with_reducible refine ⟨_, HN.out, ?_⟩)))
          go_ret2
          exact ⟨by rw [HNE.out.1, HNE.out.2]; rfl, hO.below⟩
        · have e1 : decide ((3 : Int) ≤ len) = true := by simp; omega
          have e2 : decide (len ≤ (18 : Int)) = false := by simp; omega
          clear h1 h2
          go_wp2_with (first
            | ((with_reducible refine gAlloc (T := 30) ?_); refine own_alloc hO _ _ itz ?_; clear hO; intro bx ww hO)
            | ((with_reducible refine gG ?_); refine wpList_want rfl ?_)
            | ((with_reducible refine gMin ?_); refine minV _ HMN.out rfl rfl ?_)
            | ((with_reducible refine gLoad (T := 30) ?_); first | refine ldX hO 0 rfl rfl (tA rfl) (tS rfl) ?_ | refine ld_tok (hO.rd HR.out) HT.out rfl (by omega) (tA rfl) (tS rfl) ?_)
            | ((with_reducible refine gLoad ?_); first | refine ldX hO 0 rfl rfl (tA rfl) (tS rfl) ?_ | refine ldC hO 0 rfl rfl (tA rfl) rfl ?_)
            | ((with_reducible refine gStore ?_); first | (refine stX hO 0 rfl rfl rfl rfl rfl (tS rfl) ?_; clear hO; intro ww hO) | (refine stC hO 0 rfl rfl rfl (ltb rfl) rfl (tS rfl) ?_; clear hO; intro ww hO))
            | ((with_reducible refine gBld (T := 30) ?_); refine own_bld (Tok.C ⟨lit, 0, 0⟩) (by kernel_rfl) ?_)
            | ((with_reducible refine gNeq (t := 30) ?_); refine neD t_egT rfl rfl ?_; (with_reducible refine ⟨_, HN.out, ?_⟩)))
          go_ret2
          exact ⟨by rw [HNE.out.1, HNE.out.2]; rfl, hO.below⟩
        · have e1 : decide ((3 : Int) ≤ len) = true := by simp; omega
          have e2 : decide (len ≤ (18 : Int)) = true := by simp; omega
          have e3 : decide ((0 : Int) < dist) = false := by simp; omega
          clear h1 h2 h3
          go_wp2_with (first
            | ((with_reducible refine gAlloc (T := 30) ?_); refine own_alloc hO _ _ itz ?_; clear hO; intro bx ww hO)
            | ((with_reducible refine gG ?_); refine wpList_want rfl ?_)
            | ((with_reducible refine gMin ?_); refine minV _ HMN.out rfl rfl ?_)
            | ((with_reducible refine gLoad (T := 30) ?_); first | refine ldX hO 0 rfl rfl (tA rfl) (tS rfl) ?_ | refine ld_tok (hO.rd HR.out) HT.out rfl (by omega) (tA rfl) (tS rfl) ?_)
            | ((with_reducible refine gLoad ?_); first | refine ldX hO 0 rfl rfl (tA rfl) (tS rfl) ?_ | refine ldC hO 0 rfl rfl (tA rfl) rfl ?_)
            | ((with_reducible refine gStore ?_); first | (refine stX hO 0 rfl rfl rfl rfl rfl (tS rfl) ?_; clear hO; intro ww hO) | (refine stC hO 0 rfl rfl rfl (ltb rfl) rfl (tS rfl) ?_; clear hO; intro ww hO))
            | ((with_reducible refine gBld (T := 30) ?_); refine own_bld (Tok.C ⟨lit, 0, 0⟩) (by kernel_rfl) ?_)
            | ((with_reducible refine gNeq (t := 30) ?_); refine neD t_egT rfl rfl ?_; (with_reducible refine ⟨_, HN.out, ?_⟩)))
          go_ret2
          exact ⟨by rw [HNE.out.1, HNE.out.2]; rfl, hO.below⟩
        · have e1 : decide ((3 : Int) ≤ len) = true := by simp; omega
          have e2 : decide (len ≤ (18 : Int)) = true := by simp; omega
          have e3 : decide ((0 : Int) < dist) = true := by simp; omega
          have e4 : decide (dist ≤ min 256 (M : Int)) = false := by simp; omega
          clear h1 h2 h3 h4
          go_wp2_with (first
            | ((with_reducible refine gAlloc (T := 30) ?_); refine own_alloc hO _ _ itz ?_; clear hO; intro bx ww hO)
            | ((with_reducible refine gG ?_); refine wpList_want rfl ?_)
            | ((with_reducible refine gMin ?_); refine minV _ HMN.out rfl rfl ?_)
            | ((with_reducible refine gLoad (T := 30) ?_); first | refine ldX hO 0 rfl rfl (tA rfl) (tS rfl) ?_ | refine ld_tok (hO.rd HR.out) HT.out rfl (by omega) (tA rfl) (tS rfl) ?_)
            | ((with_reducible refine gLoad ?_); first | refine ldX hO 0 rfl rfl (tA rfl) (tS rfl) ?_ | refine ldC hO 0 rfl rfl (tA rfl) rfl ?_)
            | ((with_reducible refine gStore ?_); first | (refine stX hO 0 rfl rfl rfl rfl rfl (tS rfl) ?_; clear hO; intro ww hO) | (refine stC hO 0 rfl rfl rfl (ltb rfl) rfl (tS rfl) ?_; clear hO; intro ww hO))
            | ((with_reducible refine gBld (T := 30) ?_); refine own_bld (Tok.C ⟨lit, 0, 0⟩) (by kernel_rfl) ?_)
            | ((with_reducible refine gNeq (t := 30) ?_); refine neD t_egT rfl rfl ?_; (with_reducible refine ⟨_, HN.out, ?_⟩)))
          go_ret2
          exact ⟨by rw [HNE.out.1, HNE.out.2]; rfl, hO.below⟩
        · have e1 : decide ((3 : Int) ≤ len) = true := by simp; omega
          have e2 : decide (len ≤ (18 : Int)) = true := by simp; omega
          have e3 : decide ((0 : Int) < dist) = true := by simp; omega
          have e4 : decide (dist ≤ min 256 (M : Int)) = true := by simp; omega
          have e5 : ((lit.toNat : Int) == 0) = false := by rw [hl2]; exact decide_eq_false h6
          clear h1 h2 h3 h4 h5 h6 hl2
          go_wp2_with (first
            | ((with_reducible refine gAlloc (T := 30) ?_); refine own_alloc hO _ _ itz ?_; clear hO; intro bx ww hO)
            | ((with_reducible refine gG ?_); refine wpList_want rfl ?_)
            | ((with_reducible refine gMin ?_); refine minV _ HMN.out rfl rfl ?_)
            | ((with_reducible refine gLoad (T := 30) ?_); first | refine ldX hO 0 rfl rfl (tA rfl) (tS rfl) ?_ | refine ld_tok (hO.rd HR.out) HT.out rfl (by omega) (tA rfl) (tS rfl) ?_)
            | ((with_reducible refine gLoad ?_); first | refine ldX hO 0 rfl rfl (tA rfl) (tS rfl) ?_ | refine ldC hO 0 rfl rfl (tA rfl) rfl ?_)
            | ((with_reducible refine gStore ?_); first | (refine stX hO 0 rfl rfl rfl rfl rfl (tS rfl) ?_; clear hO; intro ww hO) | (refine stC hO 0 rfl rfl rfl (ltb rfl) rfl (tS rfl) ?_; clear hO; intro ww hO))
            | ((with_reducible refine gBld (T := 30) ?_); refine own_bld (Tok.C ⟨lit, 0, 0⟩) (by kernel_rfl) ?_)
            | ((with_reducible refine gNeq (t := 30) ?_); refine neD t_egT rfl rfl ?_; (with_reducible refine ⟨_, HN.out, ?_⟩)))
          go_ret2
          exact ⟨by rw [HNE.out.1, HNE.out.2]; rfl, hO.below⟩
    · obtain rfl : k = n := by omega
      have HA : Hid (l.take k = l) := List.take_of_length_le (by rw [HL.out]; exact Nat.le_refl _)
      have hNE := HOK.out (by have := HF.out; rwa [HA.out] at this)
      have HNE : Hid (N = (M : Int) ∧ E = 0) := ⟨by rw [hNE.1, HM.out, HA.out], hNE.2⟩
      clear hNE
      go_wp2
      go_ret2
      exact ⟨by rw [HNE.out.1, HNE.out.2]; rfl, hO.below⟩
end Go.Proofs.Ytnkpjmcgecdkfaa

/- Walks: SameBytes, match.Check, Text. -/
namespace Go.Mt
theorem again_next (d j : Nat) (b : List (BitVec 8)) (M : Nat) (hb : b.length = M) (hd : 1 ≤ d) (hdM : d ≤ M) : ∃ x, (again d j b)[M - d + j]? = some x ∧ again d (j + 1) b = again d j b ++ [x] := by
  have hl := again_length d j b
  have h : M - d + j < (again d j b).length := by rw [hl, hb]; omega
  refine ⟨(again d j b)[M - d + j], List.getElem?_eq_getElem h, ?_⟩
  rw [again_succ, hl, hb, show M + j - d = M - d + j by omega, List.getD_eq_getElem?_getD, List.getElem?_eq_getElem h]
  rfl
end Go.Mt
namespace Go.Proofs.Ytnkpjmcgecdkfaa
open Go.RowKit Go.Own Go.Bv Go.Ord Go.Eq Go.Mt

set_option maxHeartbeats 1000000 in
theorem msame_calls (a1 a2 : Option Addr) (n1 c1 n2 c2 : Nat) (b1 b2 : List (BitVec 8)) (w : World) (h1 : Rd w 1 a1 n1 c1 (u8s b1)) (h2 : Rd w 1 a2 n2 c2 (u8s b2)) :
    Calls Try.prog 18 #[.slice a1 n1 c1, .slice a2 n2 c2] w fun e w' => e = .returned (.bool (decide (b1 = b2))) ∧ w = w' := by
  have r1 := run_bytes_string (P := Try.prog) w Try.underlying34 Try.underlying5 Try.underlying9 h1
  have r2 := run_bytes_string (P := Try.prog) w Try.underlying34 Try.underlying5 Try.underlying9 h2
  clear h1 h2
  go_enter Try.func18, Try.ntmps18
  go_wp2
  go_ret
  exact ⟨by rw [strB_beq]; rfl, rfl⟩

set_option maxHeartbeats 1000000 in
theorem check_calls (a : Option Addr) (n c : Nat) (l : List Tok) (w : World) (hR : Rd w 3 a n c (tks l)) (E : Int) (hok : n ≤ 65536 → okFrom 0 l → E = 0) (hno : 65536 < n ∨ ¬ okFrom 0 l → E = 1) :
    Calls Try.prog 11 #[.slice a n c] w fun e w' => e = .returned (.int .i64 E) ∧ Below w.heap.size w w' := by
  have hO := Own.start w
  obtain ⟨N, hN⟩ : ∃ N : Int, (n ≤ 65536 → okFrom 0 l → N = told l ∧ E = 0) ∧ (65536 < n ∨ ¬ okFrom 0 l → N = 0 ∧ E = 1) := by
    by_cases h : n ≤ 65536 ∧ okFrom 0 l
    · exact ⟨told l, fun h1 h2 => ⟨rfl, hok h1 h2⟩, fun h1 => by rcases h1 with h1 | h1; omega; exact absurd h.2 h1⟩
    · exact ⟨0, fun h1 h2 => absurd ⟨h1, h2⟩ h, fun h1 => ⟨rfl, hno h1⟩⟩
  have HC := Lib.hid (fun w h => long_calls a n c l w h N E hN.1 hN.2)
  have HR := Lib.hid hR
  clear hN hok hno hR
  generalize hW : w = wn at hO HR ⊢
  clear hW w
  go_enter Try.func11, Try.ntmps11
  go_wp2_with (first
    | (go_at_call 22; refine (HC.out _ (hO.rd HR.out)).mono ?_; rintro e ww ⟨rfl, hb⟩; replace hO := hO.call hb; clear hb))
  go_ret
  exact ⟨rfl, hO.below⟩

end Go.Proofs.Ytnkpjmcgecdkfaa
