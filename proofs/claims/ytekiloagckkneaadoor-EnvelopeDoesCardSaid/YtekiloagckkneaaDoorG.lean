/- Generic arms of the walk: loads out of what the call has made, out of what came in. -/
import Derived.Test.YtekiloagckkneaaDoorO
import Derived.Test.YtekiloagckkneaaDoorA
namespace Go.Own
open Go.RowKit Go.Ord

section
variable {P : Program} {ops : Array Oper} {Q : Exit → Act → World → Prop} {a : Act} {w w0 : World} {L : List Res} {rest : List Oper}
variable {d : Option Tmp} {ty : TypeId} {pos : String} {aft : Array Edge}

/-- one cell, wherever it stands -/
theorem ld_one {T : TypeId} {x : Operand} {ad : Addr} {v : Value} (hx : a.eval x = .pointer (some ad)) (hc : w.cell? ad = some v) (hT : aggT P T = some false)
    (h : wpList P ops Q rest (a.put d v) w) :
    wpList P ops Q ({ dst := d, op := .load T x, type := ty, pos := pos, after := aft, guard := none } :: rest) a w := by
  refine wpList_plain rfl fun K hK => ?_
  unfold Oper.wp
  rw [run_load_one hx hT hc]
  exact hK _ _ h
/-- one cell of a block of the list -/
theorem ld_blk (hO : Own w0 w L) (i : Nat) {T : TypeId} {x : Operand} {b off : Nat} {C : Array Value} {t : TypeId} {fr : Nat × Nat} {v : Value}
    (hi : L[i]? = some (.blk b (.cells C t fr))) (hx : a.eval x = .pointer (some ⟨b, off, none⟩)) (hv : C.toList[off]? = some v) (hT : aggT P T = some false)
    (h : wpList P ops Q rest (a.put d v) w) :
    wpList P ops Q ({ dst := d, op := .load T x, type := ty, pos := pos, after := aft, guard := none } :: rest) a w :=
  ld_one hx (by rw [cell_of_row w b off C t fr (hO.blk i hi), ← Array.getElem?_toList]; exact hv) hT h
/-- a whole block of the list -/
theorem ld_all (hO : Own w0 w L) (i : Nat) {T : TypeId} {x : Operand} {b : Nat} {C : Array Value} {t : TypeId} {fr : Nat × Nat}
    (hi : L[i]? = some (.blk b (.cells C t fr))) (hx : a.eval x = .pointer (some ⟨b, 0, none⟩)) (hT : aggT P T = some true) (hs : (P.info? T).map (·.size) = some C.size)
    (h : wpList P ops Q rest (a.put d (.agg C)) w) :
    wpList P ops Q ({ dst := d, op := .load T x, type := ty, pos := pos, after := aft, guard := none } :: rest) a w := by
  refine own_loadAll T x b C t fr (hO.blk i hi) hx ?_ hs h
  obtain ⟨dd, hd, hdd⟩ := Option.map_eq_some_iff.1 hT
  rw [hd]
  simp only [Option.map_some, Option.some.injEq]
  exact hdd
/-- a cell of a row of the list -/
theorem ld_sl (hO : Own w0 w L) (i : Nat) {T : TypeId} {x : Operand} {g j n cap sz : Nat} {e : TypeId} {xs : List Value} {v : Value}
    (hi : L[i]? = some (.sl e sz (.slice (some ⟨g, 0, none⟩) n cap) n xs)) (hx : a.eval x = .pointer (some ⟨g, j, none⟩)) (hv : xs[j]? = some v) (hT : aggT P T = some false)
    (h : wpList P ops Q rest (a.put d v) w) :
    wpList P ops Q ({ dst := d, op := .load T x, type := ty, pos := pos, after := aft, guard := none } :: rest) a w := by
  have hr := hO.row i hi
  have hj : j < n * sz := by rw [← hr.1]; exact (List.getElem?_eq_some_iff.1 hv).1
  exact ld_one hx (by rw [hr.cellAt j hj]; exact hv) hT h
/-- a cell of a slice that can be read -/
theorem ld_rd {T : TypeId} {x : Operand} {b off j n cap sz : Nat} {xs : List Value} {v : Value} (hR : Rd w sz (some ⟨b, off, none⟩) n cap xs)
    (hx : a.eval x = .pointer (some ⟨b, off + j, none⟩)) (hv : xs[j]? = some v) (hT : aggT P T = some false)
    (h : wpList P ops Q rest (a.put d v) w) :
    wpList P ops Q ({ dst := d, op := .load T x, type := ty, pos := pos, after := aft, guard := none } :: rest) a w := by
  have hj : j < xs.length := (List.getElem?_eq_some_iff.1 hv).1
  rw [hR.len] at hj
  obtain ⟨b', off', he, _, hc⟩ := hR.at' (by omega)
  simp only [Option.some.injEq, Addr.mk.injEq, and_true] at he
  obtain ⟨rfl, rfl⟩ := he
  exact ld_one hx ((hc j hj).trans hv) hT h
/-- some cells of a slice that can be read, as one value -/
theorem ld_rds {T : TypeId} {x : Operand} {b off j n cap sz : Nat} {xs : List Value} (cs : List Value) (hR : Rd w sz (some ⟨b, off, none⟩) n cap xs)
    (hx : a.eval x = .pointer (some ⟨b, off + j, none⟩)) (hv : ∀ i v, cs[i]? = some v → xs[j + i]? = some v) (hT : aggT P T = some true) (hs : (P.info? T).map (·.size) = some cs.length) (h0 : 0 < cs.length)
    (h : wpList P ops Q rest (a.put d (.agg cs.toArray)) w) :
    wpList P ops Q ({ dst := d, op := .load T x, type := ty, pos := pos, after := aft, guard := none } :: rest) a w := by
  have hj : j < xs.length := by
    have := hv 0 cs[0] (List.getElem?_eq_getElem h0)
    exact (List.getElem?_eq_some_iff.1 this).1
  rw [hR.len] at hj
  obtain ⟨b', off', he, _, hc⟩ := hR.at' (by omega)
  simp only [Option.some.injEq, Addr.mk.injEq, and_true] at he
  obtain ⟨rfl, rfl⟩ := he
  refine own_loadCells cs hx hT hs (fun i v hi => ?_) h
  have h1 := hv i v hi
  have hl : j + i < n * sz := by rw [← hR.len]; exact (List.getElem?_eq_some_iff.1 h1).1
  rw [Addr.add_lit, Nat.add_assoc, hc _ hl]
  exact h1
/-- some cells of a row of the list, as one value -/
theorem ld_sls (hO : Own w0 w L) (i : Nat) {T : TypeId} {x : Operand} {g j n cap sz : Nat} {e : TypeId} {xs : List Value} (cs : List Value)
    (hi : L[i]? = some (.sl e sz (.slice (some ⟨g, 0, none⟩) n cap) n xs)) (hx : a.eval x = .pointer (some ⟨g, j, none⟩)) (hv : ∀ i v, cs[i]? = some v → xs[j + i]? = some v)
    (hT : aggT P T = some true) (hs : (P.info? T).map (·.size) = some cs.length) (h0 : 0 < cs.length)
    (h : wpList P ops Q rest (a.put d (.agg cs.toArray)) w) :
    wpList P ops Q ({ dst := d, op := .load T x, type := ty, pos := pos, after := aft, guard := none } :: rest) a w :=
  ld_rds (off := 0) cs (hO.rdAt i hi) (by rw [hx, Nat.zero_add]) hv hT hs h0 h

/-- a store of one cell into a block of the list: its block known by place -/
theorem st_blk (hO : Own w0 w L) (i : Nat) {T : TypeId} {x y : Operand} {b off : Nat} {C : Array Value} {t : TypeId} {v : Value}
    (hi : L[i]? = some (.blk b (.cells C t (0, 0)))) (hx : a.eval x = .pointer (some ⟨b, off, none⟩)) (hy : a.eval y = v) (hoff : off < C.size)
    (h1 : v.oneCell' = true) (hu : (P.info? T).map (·.size) = some 1)
    (h : ∀ w', Own w0 w' (L.set i (.blk b (.cells (C.setIfInBounds off v) t (0, 0)))) → wpList P ops Q rest (a.put d undef) w') :
    wpList P ops Q ({ dst := d, op := .store T x y, type := ty, pos := pos, after := aft, guard := none } :: rest) a w :=
  own_store hO i T x y b off C t v hi hx hy hoff hu h1 h
theorem st_all (hO : Own w0 w L) (i : Nat) {T : TypeId} {x y : Operand} {b : Nat} {C C' : Array Value} {t : TypeId} {v : Value}
    (hi : L[i]? = some (.blk b (.cells C t (0, 0)))) (hx : a.eval x = .pointer (some ⟨b, 0, none⟩)) (hy : a.eval y = v) (hv : v.cells = C')
    (hsz : C'.size = C.size) (h1 : C'.toList.all (·.oneCell') = true) (hu : (P.info? T).map (·.size) = some C'.size)
    (h : ∀ w', Own w0 w' (L.set i (.blk b (.cells C' t (0, 0)))) → wpList P ops Q rest (a.put d undef) w') :
    wpList P ops Q ({ dst := d, op := .store T x y, type := ty, pos := pos, after := aft, guard := none } :: rest) a w :=
  own_storeAll hO i T x y b C C' t v hi hx hy hv hu hsz h1 h
end

section
variable {P : Program} {ops : Array Oper} {S : World → Prop} {st : Op → Bool} {Q : Exit → Act → World → Prop} {a : Act} {w : World} {rest : List Oper}
variable {d : Option Tmp} {ty : TypeId} {pos : String} {aft : Array Edge}
/-- in a region that draws: a load of a block that stands in every world of S -/
theorem wpI_ldS {T : TypeId} {x : Operand} {b : Nat} {C : Array Value} {t : TypeId} {fr : Nat × Nat} (hS : ∀ w', S w' → w'.heap[b]? = some (.cells C t fr))
    (hx : a.eval x = .pointer (some ⟨b, 0, none⟩)) (hst : st (.load T x) = true) (hT : aggT P T = some true) (hs : (P.info? T).map (·.size) = some C.size)
    (h : wpI P ops S st Q rest (a.put d (.agg C)) w) : wpI P ops S st Q ({ dst := d, op := .load T x, type := ty, pos := pos, after := aft, guard := none } :: rest) a w := by
  refine wpI_steady (.agg C) rfl hst rfl (fun w' hw => ?_) h
  have := run_load_many (P := P) (d := d) (ty := ty) (pos := pos) (aft := aft) (gd := none) (T := T) (x := x) (a := a) (w := w') (ad := ⟨b, 0, none⟩) C.toList hx hT (by simpa using hs)
    (fun j v hj => by rw [Addr.add_lit, cell_of_row w' b _ C t fr (hS w' hw), Nat.zero_add, ← Array.getElem?_toList]; exact hj)
  simpa using this
/-- .. of one cell of it -/
theorem wpI_ldcS {T : TypeId} {x : Operand} {b off : Nat} {C : Array Value} {t : TypeId} {fr : Nat × Nat} {v : Value} (hS : ∀ w', S w' → w'.heap[b]? = some (.cells C t fr))
    (hx : a.eval x = .pointer (some ⟨b, off, none⟩)) (hst : st (.load T x) = true) (hT : aggT P T = some false) (hv : C.toList[off]? = some v)
    (h : wpI P ops S st Q rest (a.put d v) w) : wpI P ops S st Q ({ dst := d, op := .load T x, type := ty, pos := pos, after := aft, guard := none } :: rest) a w := by
  refine wpI_steady v rfl hst rfl (fun w' hw => ?_) h
  exact run_load_one (P := P) (d := d) (ty := ty) (pos := pos) (aft := aft) (gd := none) hx hT (by rw [cell_of_row w' b off C t fr (hS w' hw), ← Array.getElem?_toList]; exact hv)
/-- .. a comparison of two arrays -/
theorem wpI_eqS {t yt : TypeId} {x y : Operand} {A B : Array Value} {r : Bool} (hx : a.eval x = .agg A) (hy : a.eval y = .agg B) (hb : ∀ w, (binOp .eql t (.agg A) (.agg B)).run P w = .ok (.bool r) w)
    (hst : st (.binOp .eql t x y yt) = true) (hg : P.eqGuardType P.depth t = false) (hf : flat P t = false)
    (h : wpI P ops S st Q rest (a.put d (.bool r)) w) : wpI P ops S st Q ({ dst := d, op := .binOp .eql t x y yt, type := ty, pos := pos, after := aft, guard := none } :: rest) a w := by
  refine wpI_steady (.bool r) rfl hst (ok_agg hf) (fun w' _ => ?_) h
  have h1 := run_eqGuard_agg (P := P) (w := w') .eql t x y A B hg
  simp [execOp, Sem.run_bind, hx, hy, h1, hb]
/-- the operation's continuation is used up -/
theorem gOnlyK {K R : Act → World → Prop} (hK : ∀ a w, R a w → K a w) (hS : S w) (h : R a w) : OnlyN (fun _ a w => S w ∧ K a w) .normal a w := ⟨hS, hK _ _ h⟩
theorem gOnlyK0 {K R : Act → World → Prop} (hK : ∀ a w, R a w → K a w) (h : R a w) : OnlyN (fun _ a w => noS w ∧ K a w) .normal a w := ⟨trivial, hK _ _ h⟩
/-- gates -/
theorem gIL {T : TypeId} {x : Operand} (h : wpI P ops S st Q ({ dst := d, op := .load T x, type := ty, pos := pos, after := aft, guard := none } :: rest) a w) : wpI P ops S st Q ({ dst := d, op := .load T x, type := ty, pos := pos, after := aft, guard := none } :: rest) a w := h
theorem gIS1 {T : TypeId} {x y : Operand} (h : wpI P ops S st Q [{ dst := d, op := .store T x y, type := ty, pos := pos, after := aft, guard := none }] a w) : wpI P ops S st Q [{ dst := d, op := .store T x y, type := ty, pos := pos, after := aft, guard := none }] a w := h
theorem gIE {t yt : TypeId} {x y : Operand} (h : wpI P ops S st Q ({ dst := d, op := .binOp .eql t x y yt, type := ty, pos := pos, after := aft, guard := none } :: rest) a w) : wpI P ops S st Q ({ dst := d, op := .binOp .eql t x y yt, type := ty, pos := pos, after := aft, guard := none } :: rest) a w := h
end

/-- a slice that is not nil has a place -/
theorem Rd.place {w : World} {sz n cap : Nat} {a : Option Addr} {xs : List Value} (h : Rd w sz a n cap xs) (hn : n * sz ≠ 0) : ∃ b off, a = some ⟨b, off, none⟩ := by
  obtain ⟨b, off, he, _⟩ := h.at' hn
  exact ⟨b, off, he⟩
theorem Own.slPlace {w0 w : World} {L : List Res} (hO : Own w0 w L) (i : Nat) {e : TypeId} {sz n cap : Nat} {ao : Option Addr} {xs : List Value} (hi : L[i]? = some (.sl e sz (.slice ao n cap) n xs)) (hn : 0 < n) : ∃ g, ao = some ⟨g, 0, none⟩ := by
  obtain ⟨g, cap, he, _⟩ := hO.slForm i hi hn
  simp only [Value.slice.injEq] at he
  exact ⟨g, he.1⟩
/-- for looking: the walk stops there -/
def StopAt (p : Prop) : Prop := p
theorem stopAt {p : Prop} (h : StopAt p) : p := h
end Go.Own
namespace Go.Own
theorem ltb {a b : Nat} (h : Nat.blt a b = true) : a < b := Nat.lt_of_succ_le (by simpa [Nat.blt] using h)
/-- a piece of a slice of single cells -/
theorem Rd.cut {w : World} {b off n cap : Nat} {xs : List Value} (h : Rd w 1 (some ⟨b, off, none⟩) n cap xs) (i m : Nat) (hi : i + m ≤ n) : Rd w 1 (some ⟨b, off + i, none⟩) m (cap - i) ((xs.drop i).take m) := by
  have h1 := h.len
  have h2 := h.le
  have h3 := h.max
  refine ⟨by simp; omega, by omega, by omega, fun h => by simp at h, fun hm => ?_⟩
  obtain ⟨b', off', ha, hb, hc⟩ := h.at' (by omega)
  simp only [Option.some.injEq, Addr.mk.injEq, and_true] at ha
  obtain ⟨rfl, rfl⟩ := ha
  refine ⟨b, off + i, rfl, hb, fun j hj => ?_⟩
  rw [Nat.add_assoc, hc (i + j) (by omega), List.getElem?_take_of_lt (by omega), List.getElem?_drop]
/-- a list made longer by what a call does not see -/
theorem Own.wide {w0 w : World} {L L' : List Res} (h : Own w0 w L) (hs : L' = L) : Own w0 w L' := by rw [hs]; exact h
end Go.Own
namespace Go.Own
open Go.RowKit Go.Ord
section
variable {P : Program} {ops : Array Oper} {Q : Exit → Act → World → Prop} {a : Act} {w w0 : World} {L : List Res} {rest : List Oper}
variable {d : Option Tmp} {ty : TypeId} {pos : String} {aft : Array Edge}
/-- '==' on two arrays -/
theorem eq_arr {t yt : TypeId} {x y : Operand} {A B : Array Value} {r : Bool} (hx : a.eval x = .agg A) (hy : a.eval y = .agg B) (hb : ∀ w, (binOp .eql t (.agg A) (.agg B)).run P w = .ok (.bool r) w)
    (hg : P.eqGuardType P.depth t = false) (h : wpList P ops Q rest (a.put d (.bool r)) w) : wpList P ops Q ({ dst := d, op := .binOp .eql t x y yt, type := ty, pos := pos, after := aft, guard := none } :: rest) a w := by
  refine wpList_plain rfl fun K hK => ?_
  have h1 := run_eqGuard_agg (P := P) (w := w) .eql t x y A B hg
  unfold Oper.wp
  have : (execOp a.eval { dst := d, op := .binOp .eql t x y yt, type := ty, pos := pos, after := aft, guard := none }).run P w = .ok (.value (.bool r)) w := by simp [execOp, Sem.run_bind, hx, hy, h1, hb]
  rw [this]
  exact hK _ _ h
theorem ne_arr {t yt : TypeId} {x y : Operand} {A B : Array Value} {r : Bool} (hx : a.eval x = .agg A) (hy : a.eval y = .agg B) (hb : ∀ w, (binOp .neq t (.agg A) (.agg B)).run P w = .ok (.bool r) w)
    (hg : P.eqGuardType P.depth t = false) (h : wpList P ops Q rest (a.put d (.bool r)) w) : wpList P ops Q ({ dst := d, op := .binOp .neq t x y yt, type := ty, pos := pos, after := aft, guard := none } :: rest) a w := by
  refine wpList_plain rfl fun K hK => ?_
  have h1 := run_eqGuard_agg (P := P) (w := w) .neq t x y A B hg
  unfold Oper.wp
  have : (execOp a.eval { dst := d, op := .binOp .neq t x y yt, type := ty, pos := pos, after := aft, guard := none }).run P w = .ok (.value (.bool r)) w := by simp [execOp, Sem.run_bind, hx, hy, h1, hb]
  rw [this]
  exact hK _ _ h
theorem gEql {t yt : TypeId} {x y : Operand} (h : wpList P ops Q ({ dst := d, op := .binOp .eql t x y yt, type := ty, pos := pos, after := aft, guard := none } :: rest) a w) :
    wpList P ops Q ({ dst := d, op := .binOp .eql t x y yt, type := ty, pos := pos, after := aft, guard := none } :: rest) a w := h
theorem gNeq {t yt : TypeId} {x y : Operand} (h : wpList P ops Q ({ dst := d, op := .binOp .neq t x y yt, type := ty, pos := pos, after := aft, guard := none } :: rest) a w) :
    wpList P ops Q ({ dst := d, op := .binOp .neq t x y yt, type := ty, pos := pos, after := aft, guard := none } :: rest) a w := h
/-- any guarded operation -/
theorem gG {op : Op} {g : Nat × Bool} (h : wpList P ops Q ({ dst := d, op := op, type := ty, pos := pos, after := aft, guard := some g } :: rest) a w) :
    wpList P ops Q ({ dst := d, op := op, type := ty, pos := pos, after := aft, guard := some g } :: rest) a w := h
/-- a block, read as a slice from a place on -/
theorem rd_blk_off {g : Nat} {C : Array Value} {t : TypeId} {fr : Nat × Nat} {n cap : Nat} {xs : List Value} (hg : w.heap[g]? = some (.cells C t fr)) (off : Nat) (hC : (C.toList.drop off).take n = xs) (hl : xs.length = n) (hn : n ≤ cap) (hc : cap ≤ maxLen) : Rd w 1 (some ⟨g, off, none⟩) n cap xs := by
  refine rd_blk hg 1 off n cap xs (by omega) hn hc fun j hj => ?_
  rw [← hC, List.getElem?_take_of_lt (by omega), List.getElem?_drop, ← Array.getElem?_toList]
theorem rd_zero (a : Option Addr) (cap : Nat) (hc : cap ≤ maxLen) (ha : a = none → cap = 0) : Rd w 1 a 0 cap [] :=
  ⟨rfl, Nat.zero_le _, hc, fun h => ⟨rfl, ha h⟩, fun h => by simp at h⟩
/-- what a row of the call's own is as a block -/
theorem blk_of_row {base : Nat} {e : TypeId} {n cap g : Nat} {xs : List Value} (h : w.ownsRow base e 1 (.slice (some ⟨g, 0, none⟩) n cap) n xs) : ∃ C, base ≤ g ∧ w.heap[g]? = some (.cells C e (0, 0)) ∧ C.toList.take n = xs ∧ n ≤ cap ∧ cap ≤ maxLen := by
  obtain ⟨hl, h2⟩ := h
  rcases h2 with ⟨h3, _⟩ | ⟨g', cap', cur, h3, hb, hg, hnc, hcm, hsz, ht⟩
  · simp at h3
  · simp only [Value.slice.injEq, Option.some.injEq, Addr.mk.injEq, and_true, true_and] at h3
    obtain ⟨rfl, rfl⟩ := h3
    exact ⟨cur, hb, hg, by simpa using ht, hnc, hcm⟩
end
end Go.Own
