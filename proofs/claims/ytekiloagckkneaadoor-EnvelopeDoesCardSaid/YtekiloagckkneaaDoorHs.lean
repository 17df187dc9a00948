/- Arms on variables of several parts: a part of four cells loaded, stored; make with room behind; three results. -/
import Derived.Test.YtekiloagckkneaaDoorH
namespace Go.Own
open Go.RowKit Go.Ord

section
variable {P : Program} {ops : Array Oper} {Q : Exit → Act → World → Prop} {a : Act} {w w0 : World} {L : List Res} {rest : List Oper}
variable {d : Option Tmp} {ty : TypeId} {pos : String} {aft : Array Edge}

theorem storeCells_shift (b off : Nat) : ∀ (vs : List Value) (i : Nat), storeCells ⟨b, off, none⟩ vs i = storeCells ⟨b, 0, none⟩ vs (off + i)
  | [], _ => rfl
  | v :: vs, i => by
    show (do store ((⟨b, off, none⟩ : Addr).add i) v; storeCells ⟨b, off, none⟩ vs (i + 1)) = (do store ((⟨b, 0, none⟩ : Addr).add (off + i)) v; storeCells ⟨b, 0, none⟩ vs (off + i + 1))
    rw [storeCells_shift b off vs (i + 1), Addr.add_lit, Addr.add_lit, Nat.zero_add]
    rfl
/-- a store of the last cells of a block -/
theorem stP (hO : Own w0 w L) (i : Nat) {T : TypeId} {p q : Tmp} {b off : Nat} {C C' V : Array Value} {t : TypeId}
    (hi : L[i]? = some (.blk b (.cells C t (0, 0)))) (hx : tmpAt a p = some (.pointer (some ⟨b, off, none⟩))) (hy : tmpAt a q = some (.agg V))
    (hsz : off + V.size = C.size) (h1 : V.toList.all (·.oneCell') = true) (hu : (P.info? T).map (·.size) = some V.size) (hC : (C.toList.take off ++ V.toList).toArray = C')
    (h : ∀ w', Own w0 w' (L.set i (.blk b (.cells C' t (0, 0)))) → wpList P ops Q rest (a.put d undef) w') :
    wpList P ops Q ({ dst := d, op := .store T (.tmp p) (.tmp q), type := ty, pos := pos, after := aft, guard := none } :: rest) a w := by
  refine wpList_plain rfl fun K hK => ?_
  obtain ⟨inf, hinf, hs⟩ := Option.map_eq_some_iff.1 hu
  have hg := hO.blk i hi
  have hst : (storeCells ⟨b, off, none⟩ V.toList 0).run P w = .ok () (w.setRow b (C.toList.take off ++ V.toList).toArray) := by
    rw [storeCells_shift, Nat.add_zero]
    exact run_storeCells_from (P := P) b t V.toList off C w hg (by simpa using hsz) (fun v hv => List.all_eq_true.1 h1 v hv)
  have hx' := eval_tmp hx
  have hy' := eval_tmp hy
  rw [hC] at hst
  unfold Oper.wp
  simp [execOp, Instr.storeAt, Instr.sureAddr, storeVar, hx', hy', sizeOf, typeInfo, hinf, hs, Value.cells, hst]
  refine hK _ _ (h _ (hO.setBlk i hi rfl rfl rfl (by simp) ?_ ?_))
  · intro k hk; exact setRow_other _ _ _ _ hk
  · rw [setRow_heap w b C _ t _ hg]
/-- a load of some cells of a block -/
theorem ldP (hO : Own w0 w L) (i : Nat) {T : TypeId} {p : Tmp} {b off : Nat} {C : Array Value} {t : TypeId} {fr : Nat × Nat} (V : List Value)
    (hi : L[i]? = some (.blk b (.cells C t fr))) (hx : tmpAt a p = some (.pointer (some ⟨b, off, none⟩))) (hT : aggT P T = some true) (hs : (P.info? T).map (·.size) = some V.length)
    (hV : (C.toList.drop off).take V.length = V)
    (h : wpList P ops Q rest (a.put d (.agg V.toArray)) w) :
    wpList P ops Q ({ dst := d, op := .load T (.tmp p), type := ty, pos := pos, after := aft, guard := none } :: rest) a w := by
  refine own_loadCells V (eval_tmp hx) hT hs (fun j v hj => ?_) h
  have hl := (List.getElem?_eq_some_iff.1 hj).1
  rw [Addr.add_lit, cell_of_row w b _ C t fr (hO.blk i hi), ← Array.getElem?_toList]
  rw [← hV, List.getElem?_take_of_lt hl, List.getElem?_drop] at hj
  exact hj
theorem ldA (hO : Own w0 w L) (i : Nat) {T : TypeId} {p : Tmp} {b off : Nat} {C : Array Value} {t : TypeId} {fr : Nat × Nat} (V : Array Value)
    (hi : L[i]? = some (.blk b (.cells C t fr))) (hx : tmpAt a p = some (.pointer (some ⟨b, off, none⟩))) (hT : aggT P T = some true) (hs : (P.info? T).map (·.size) = some V.size)
    (hV : (C.toList.drop off).take V.size = V.toList)
    (h : wpList P ops Q rest (a.put d (.agg V)) w) :
    wpList P ops Q ({ dst := d, op := .load T (.tmp p), type := ty, pos := pos, after := aft, guard := none } :: rest) a w :=
  ldP hO i V.toList hi hx hT (by simpa using hs) (by simpa using hV) (by simpa using h)
theorem gBld {T : TypeId} {parts : Array (Nat × Operand)} (h : wpList P ops Q ({ dst := d, op := .build T parts, type := ty, pos := pos, after := aft, guard := none } :: rest) a w) :
    wpList P ops Q ({ dst := d, op := .build T parts, type := ty, pos := pos, after := aft, guard := none } :: rest) a w := h
/-- 'T{..}' -/
theorem own_bld {T : TypeId} {parts : Array (Nat × Operand)} (cells : Array Value) (hb : P.built T (parts.map fun (i, x) => (i, a.eval x)).toList = some cells)
    (h : wpList P ops Q rest (a.put d (.agg cells)) w) : wpList P ops Q ({ dst := d, op := .build T parts, type := ty, pos := pos, after := aft, guard := none } :: rest) a w := by
  refine wpList_plain rfl fun K hK => ?_
  have hr := run_build (P := P) w T (parts.map fun (i, x) => (i, a.eval x)) cells hb
  unfold Oper.wp
  simp only [execOp, Sem.run_bind, hr, Result.andThen_ok, Sem.run_pure]
  exact hK _ _ h
/-- 'make([]T, n, c)' -/
theorem own_makeC (hO : Own w0 w L) (l c : Operand) (t : TypeId) {e : TypeId} {z : Value} {bytes : Nat} (hE : Elem P t e z 1 bytes)
    {kl kc : IntKind} {N C : Int} (n m : Nat) (hl : a.eval l = .int kl N) (hc : a.eval c = .int kc C) (hN : N = (n : Int)) (hC : C = (m : Int)) (hnm : n ≤ m) (hbytes : bytes * m ≤ 281474976710656) (h63 : m ≤ maxLen)
    (h : ∀ g w', Own w0 w' (.sl e 1 (.slice (some ⟨g, 0, none⟩) n m) n ((madeCells z.cells m).toList.take n) :: L) → wpList P ops Q rest (a.put d (.slice (some ⟨g, 0, none⟩) n m)) w') :
    wpList P ops Q ({ dst := d, op := .makeSlice t l c, type := ty, pos := pos, after := aft, guard := none } :: rest) a w := by
  refine wpList_plain rfl fun K hK => ?_
  obtain ⟨inf, hinf, hz, hsz, hby⟩ := info_parts hE.info
  subst hN
  subst hC
  have h63' : (m : Int) ≤ 9223372036854775807 := by
    have h := h63
    simp [maxLen] at h
    omega
  have hb' : (inf.bytes : Int) * (m : Int) ≤ 281474976710656 := by
    have h : ((inf.bytes * m : Nat) : Int) ≤ 281474976710656 := by rw [hby]; omega
    rwa [Int.natCast_mul] at h
  have hr := run_make (P := P) w t e inf z hE.slice hinf hz kl kc n m (by omega) (by omega) hb' h63'
  simp only [Int.toNat_natCast, hsz, Nat.mul_one] at hr
  have hrow : (w.alloc (.cells (madeCells z.cells m) e)).ownsRow w.heap.size e 1 (.slice (some ⟨w.heap.size, 0, none⟩) n m) n ((madeCells z.cells m).toList.take n) :=
    ⟨by rw [List.length_take, Array.length_toList, size_madeCells]; omega, .inr ⟨w.heap.size, m, _, rfl, Nat.le_refl _, heap_alloc_new w _, hnm, h63, by rw [size_madeCells, Nat.mul_one], by rw [Nat.mul_one]⟩⟩
  have hO' : Own w0 _ (.sl e 1 (.slice (some ⟨w.heap.size, 0, none⟩) n m) n ((madeCells z.cells m).toList.take n) :: L) := hO.add ((Below.refl _ _).alloc (Nat.le_refl _) _) hrow
  unfold Oper.wp
  simp [execOp, hl, hc, hr, Result.andThen]
  exact hK _ _ (h _ _ hO')
end
section
variable {P : Program}
/-- three results: two blocks and a slot -/
theorem res_cct {fn : Func} {p q u : Tmp} {ty tz : TypeId} (h : fn.results = #[.cell p ty, .cell q tz, .tmp u]) (tmps : Array Value) (w : World) (g g' : Nat) (t t' : TypeId) (cs cs' : Array Value) (fr fr' : Nat × Nat) (d d' : TypeDesc)
    (hp : tmps.getD p undef = .pointer (some ⟨g, 0, none⟩)) (hg : w.heap[g]? = some (.cells cs t fr))
    (hu : P.underlying ty = some d) (hd : (match d with | .struct _ | .array _ _ => true | _ => false) = true) (hi : (P.info? ty).map (·.size) = some cs.size)
    (hp' : tmps.getD q undef = .pointer (some ⟨g', 0, none⟩)) (hg' : w.heap[g']? = some (.cells cs' t' fr'))
    (hu' : P.underlying tz = some d') (hd' : (match d' with | .struct _ | .array _ _ => true | _ => false) = true) (hi' : (P.info? tz).map (·.size) = some cs'.size) :
    (results fn tmps).run P w = .ok (.tuple #[.agg cs, .agg cs', tmps.getD u undef]) w := by
  have e : tmps[p]?.getD undef = .pointer (some ⟨g, 0, none⟩) := by simpa using hp
  have e' : tmps[q]?.getD undef = .pointer (some ⟨g', 0, none⟩) := by simpa using hp'
  simp [results, h, e, e', asAddr, run_loadVar_row w g t ty cs fr d hg hu hd hi, run_loadVar_row w g' t' tz cs' fr' d' hg' hu' hd' hi']
end
section
variable {P : Program} {ops : Array Oper} {S : World → Prop} {st : Op → Bool} {Q : Exit → Act → World → Prop} {a : Act} {w : World} {rest : List Oper}
variable {d : Option Tmp} {ty : TypeId} {pos : String} {aft : Array Edge}
/-- in a region that draws: a load of some cells of a block that stands in every world of S -/
theorem wpI_ldpS {T : TypeId} {x : Operand} {b off : Nat} {C : Array Value} {t : TypeId} {fr : Nat × Nat} (V : List Value) (hS : ∀ w', S w' → w'.heap[b]? = some (.cells C t fr))
    (hx : a.eval x = .pointer (some ⟨b, off, none⟩)) (hst : st (.load T x) = true) (hT : aggT P T = some true) (hs : (P.info? T).map (·.size) = some V.length) (hV : (C.toList.drop off).take V.length = V)
    (h : wpI P ops S st Q rest (a.put d (.agg V.toArray)) w) : wpI P ops S st Q ({ dst := d, op := .load T x, type := ty, pos := pos, after := aft, guard := none } :: rest) a w := by
  refine wpI_steady (.agg V.toArray) rfl hst rfl (fun w' hw => ?_) h
  exact run_load_many (P := P) (d := d) (ty := ty) (pos := pos) (aft := aft) (gd := none) V hx hT hs
    (fun j v hj => by
      have hl := (List.getElem?_eq_some_iff.1 hj).1
      rw [Addr.add_lit, cell_of_row w' b _ C t fr (hS w' hw), ← Array.getElem?_toList]
      rw [← hV, List.getElem?_take_of_lt hl, List.getElem?_drop] at hj
      exact hj)
end
end Go.Own
