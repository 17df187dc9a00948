/- The laws of the walk over a list of what the call has made: 'Own w0 w L'; readable slices: 'Rd'. -/
import Derived.WalkKit
import Derived.BigQuiet
import Derived.Deep.QuietTactic
import Derived.Deep.LoopGhost
import Derived.Deep.DeepMust
import Derived.Deep.RegionHeld3
import Derived.Lib.Hide
namespace Go.Own
open Go.RowKit

/-- What a call has made: a block and what it holds; or a slice that owns its row. -/
inductive Res where
  | blk (b : Nat) (o : Obj)
  | sl (e : TypeId) (sz : Nat) (v : Value) (n : Nat) (xs : List Value)

def Res.foot : Res → Option Nat
  | .blk b _ => some b
  | .sl _ _ v _ _ => v.ownBlock

def Res.holds (base : Nat) (w : World) : Res → Prop
  | .blk b o => base ≤ b ∧ w.heap[b]? = some o
  | .sl e sz v n xs => w.ownsRow base e sz v n xs

def Apart (r s : Res) : Prop := ∀ k, r.foot = some k → s.foot ≠ some k

theorem lt_of_block {w : World} {b : Nat} {o : Obj} (h : w.heap[b]? = some o) : b < w.heap.size := (Array.getElem?_eq_some_iff.1 h).1

theorem Res.holds.foot {base : Nat} {w : World} {r : Res} (h : r.holds base w) {k : Nat} (hk : r.foot = some k) : base ≤ k ∧ k < w.heap.size := by
  cases r with
  | blk b o =>
    simp only [Res.foot, Option.some.injEq] at hk
    subst hk
    exact ⟨h.1, lt_of_block h.2⟩
  | sl e sz v n xs => exact World.ownsRow.lt h k hk

theorem Res.holds.kept {base : Nat} {w w' : World} {r : Res} (h : r.holds base w) (hk : ∀ k, r.foot = some k → w'.heap[k]? = w.heap[k]?) : r.holds base w' := by
  cases r with
  | blk b o => exact ⟨h.1, by rw [hk b rfl]; exact h.2⟩
  | sl e sz v n xs =>
    refine ⟨h.1, ?_⟩
    rcases h.2 with hn | ⟨g, cap, cur, rfl, hb, hg, rest⟩
    · exact .inl hn
    · exact .inr ⟨g, cap, cur, rfl, hb, by rw [hk g rfl]; exact hg, rest⟩

theorem Res.holds.mono {base base' : Nat} {w : World} {r : Res} (h : r.holds base w) (hb : base' ≤ base) : r.holds base' w := by
  cases r with
  | blk b o => exact ⟨Nat.le_trans hb h.1, h.2⟩
  | sl e sz v n xs =>
    refine ⟨h.1, ?_⟩
    rcases h.2 with hn | ⟨g, cap, cur, rfl, hg, rest⟩
    · exact .inl hn
    · exact .inr ⟨g, cap, cur, rfl, Nat.le_trans hb hg, rest⟩

/-- w0: the world at the call's beginning; w: now; L: what the call has made. -/
structure Own (w0 w : World) (L : List Res) : Prop where
  below : Below w0.heap.size w0 w
  mem : ∀ r ∈ L, r.holds w0.heap.size w
  apart : L.Pairwise Apart

theorem Own.start (w : World) : Own w w [] := ⟨Below.refl _ _, by simp, List.Pairwise.nil⟩

section
variable {w0 w w' : World} {L : List Res}

theorem Own.at (h : Own w0 w L) (i : Nat) {r : Res} (hi : L[i]? = some r) : r.holds w0.heap.size w := h.mem r (List.mem_of_getElem? hi)
theorem Own.blk (h : Own w0 w L) (i : Nat) {b : Nat} {o : Obj} (hi : L[i]? = some (.blk b o)) : w.heap[b]? = some o := (h.at i hi).2
theorem Own.row (h : Own w0 w L) (i : Nat) {e : TypeId} {sz n : Nat} {v : Value} {xs : List Value} (hi : L[i]? = some (.sl e sz v n xs)) : w.ownsRow w0.heap.size e sz v n xs := h.at i hi
theorem Own.old (h : Own w0 w L) {b : Nat} {o : Obj} (hb : w0.heap[b]? = some o) : w.heap[b]? = some o := by
  rw [h.below.block b (lt_of_block hb)]; exact hb
theorem Own.size (h : Own w0 w L) : w0.heap.size ≤ w.heap.size := h.below.size
theorem Own.oldcell (h : Own w0 w L) {a : Addr} {v : Value} (hb : w0.cell? a = some v) : w.cell? a = some v := by
  rw [h.below.cell (World.block_lt_of_cell? w0 a hb)]; exact hb

theorem Own.tail {r : Res} (h : Own w0 w (r :: L)) : Own w0 w L :=
  ⟨h.below, fun q hq => h.mem q (List.mem_cons_of_mem _ hq), (List.pairwise_cons.1 h.apart).2⟩

theorem Own.sub {L' : List Res} (h : Own w0 w L) (hs : L'.Sublist L) : Own w0 w L' :=
  ⟨h.below, fun q hq => h.mem q (hs.subset hq), h.apart.sublist hs⟩

/-- a call that turns nothing that was there -/
theorem Own.call (h : Own w0 w L) (hb : Below w.heap.size w w') : Own w0 w' L :=
  ⟨h.below.trans (hb.mono h.below.size), fun r hr => (h.mem r hr).kept fun k hk => hb.block k ((h.mem r hr).foot hk).2, h.apart⟩

/-- something new -/
theorem Own.add (h : Own w0 w L) (hb : Below w.heap.size w w') {r : Res} (hr : r.holds w.heap.size w') : Own w0 w' (r :: L) := by
  have hc := h.call hb
  refine ⟨hc.below, ?_, ?_⟩
  · intro p hp
    rcases List.mem_cons.1 hp with rfl | hp
    · exact hr.mono h.below.size
    · exact hc.mem p hp
  · refine List.pairwise_cons.2 ⟨fun s hs k hk hs' => ?_, h.apart⟩
    have h1 := (hr.foot hk).1
    have h2 := ((h.mem s hs).foot hs').2
    omega

theorem Own.alloc (h : Own w0 w L) (o : Obj) : Own w0 (w.alloc o) (.blk w.heap.size o :: L) :=
  h.add ((Below.refl _ _).alloc (Nat.le_refl _) o) ⟨Nat.le_refl _, heap_alloc_new w o⟩

theorem Own.drew (h : Own w0 w L) : Own w0 w.drew L := h.call ((Below.refl _ _).drew)
theorem Own.drewN (h : Own w0 w L) (n : Nat) : Own w0 (w.drewN n) L :=
  h.call ⟨rfl, rfl, rfl, Nat.le_refl _, fun _ _ => rfl⟩

/-- one of what the call has made is written (and may have moved) -/
theorem Own.set (h : Own w0 w L) (i : Nat) {r r' : Res} (hi : L[i]? = some r)
    (hos : w'.os = w.os) (ht : w'.tape = w.tape) (hout : w'.output = w.output) (hsz : w.heap.size ≤ w'.heap.size)
    (hother : ∀ k, k < w.heap.size → r.foot ≠ some k → w'.heap[k]? = w.heap[k]?)
    (hnew : r'.holds w0.heap.size w') (hfoot : ∀ k, r'.foot = some k → r.foot = some k ∨ w.heap.size ≤ k) : Own w0 w' (L.set i r') := by
  have hil : i < L.length := (List.getElem?_eq_some_iff.1 hi).1
  have hLi : L[i] = r := (List.getElem?_eq_some_iff.1 hi).2
  have hr := h.at i hi
  have hap : ∀ j (hj : j < L.length), i ≠ j → Apart r L[j] ∧ Apart L[j] r := by
    intro j hj hij
    have hp := List.pairwise_iff_getElem.1 h.apart
    rcases Nat.lt_or_ge i j with hlt | hge
    · have := hp i j hil hj hlt
      rw [hLi] at this
      exact ⟨this, fun k h1 h2 => this k h2 h1⟩
    · have := hp j i hj hil (by omega)
      rw [hLi] at this
      exact ⟨fun k h1 h2 => this k h2 h1, this⟩
  refine ⟨h.below.trans ⟨hos, ht, hout, hsz, fun k hk => hother k (Nat.lt_of_lt_of_le hk h.below.size) (fun he => by have := (hr.foot he).1; omega)⟩, ?_, ?_⟩
  · intro p hp
    obtain ⟨j, hj, hje⟩ := List.getElem_of_mem hp
    rw [List.getElem_set] at hje
    by_cases hij : i = j
    · rw [if_pos hij] at hje; subst hje; exact hnew
    · rw [if_neg hij] at hje
      have hjl : j < L.length := by simpa using hj
      have hm : p ∈ L := hje ▸ List.getElem_mem hjl
      refine (h.mem p hm).kept fun k hk => hother k ((h.mem p hm).foot hk).2 fun he => ?_
      exact (hap j hjl hij).1 k he (hje ▸ hk)
  · rw [List.pairwise_iff_getElem]
    intro a b ha hb hab
    have hal : a < L.length := by simpa using ha
    have hbl : b < L.length := by simpa using hb
    have hp := List.pairwise_iff_getElem.1 h.apart a b hal hbl hab
    rw [List.getElem_set, List.getElem_set]
    by_cases hia : i = a
    · subst hia
      rw [if_pos rfl, if_neg (by omega)]
      intro k hk hk'
      rcases hfoot k hk with h1 | h1
      · exact (hap b hbl (by omega)).1 k h1 hk'
      · have := ((h.mem _ (List.getElem_mem hbl)).foot hk').2; omega
    · rw [if_neg hia]
      by_cases hib : i = b
      · subst hib
        rw [if_pos rfl]
        intro k hk hk'
        rcases hfoot k hk' with h1 | h1
        · exact (hap a hal (by omega)).1 k h1 hk
        · have := ((h.mem _ (List.getElem_mem hal)).foot hk).2; omega
      · rw [if_neg hib]; exact hp

/-- a slice that is not nil as a block -/
theorem Own.slForm (h : Own w0 w L) (i : Nat) {e : TypeId} {sz n : Nat} {v : Value} {xs : List Value} (hi : L[i]? = some (.sl e sz v n xs)) (hn : 0 < n) :
    ∃ g cap, v = .slice (some ⟨g, 0, none⟩) n cap ∧ n ≤ cap ∧ cap ≤ maxLen := by
  obtain ⟨_, h2⟩ := h.row i hi
  rcases h2 with ⟨rfl, h0⟩ | ⟨g, cap, cur, rfl, hb, hg, hnc, hcm, _⟩
  · omega
  · exact ⟨g, cap, rfl, hnc, hcm⟩

end

/-- A slice value that can be read: its cells (flat) are 'xs'. -/
structure Rd (w : World) (sz : Nat) (a : Option Addr) (n cap : Nat) (xs : List Value) : Prop where
  len : xs.length = n * sz
  le : n ≤ cap
  max : cap ≤ maxLen
  nil : a = none → n = 0 ∧ cap = 0
  at' : n * sz ≠ 0 → ∃ b off, a = some ⟨b, off, none⟩ ∧ b < w.heap.size ∧ ∀ j, j < n * sz → w.cell? ⟨b, off + j, none⟩ = xs[j]?

theorem Rd.below {w w' : World} {sz n cap : Nat} {a : Option Addr} {xs : List Value} (h : Rd w sz a n cap xs) (hb : Below w.heap.size w w') : Rd w' sz a n cap xs :=
  ⟨h.len, h.le, h.max, h.nil, fun hn => by
    obtain ⟨b, off, rfl, hlt, hc⟩ := h.at' hn
    exact ⟨b, off, rfl, Nat.lt_of_lt_of_le hlt hb.size, fun j hj => by rw [hb.cell (p := ⟨b, off + j, none⟩) hlt]; exact hc j hj⟩⟩

theorem Own.rd {w0 w : World} {L : List Res} (h : Own w0 w L) {sz n cap : Nat} {a : Option Addr} {xs : List Value} (hr : Rd w0 sz a n cap xs) : Rd w sz a n cap xs := hr.below h.below

theorem rd_of_row {w : World} {base : Nat} {e : TypeId} {sz n : Nat} {v : Value} {xs : List Value} (h : w.ownsRow base e sz v n xs) : ∃ a cap, v = .slice a n cap ∧ Rd w sz a n cap xs := by
  obtain ⟨hl, h2⟩ := h
  rcases h2 with ⟨rfl, rfl⟩ | ⟨g, cap, cur, rfl, hb, hg, hnc, hcm, hsz, ht⟩
  · exact ⟨none, 0, rfl, hl, Nat.le_refl _, by simp [maxLen], fun _ => ⟨rfl, rfl⟩, fun h => absurd (Nat.zero_mul sz) h⟩
  · refine ⟨_, cap, rfl, hl, hnc, hcm, fun h => by simp at h, fun _ => ⟨g, 0, rfl, lt_of_block hg, fun j hj => ?_⟩⟩
    rw [Nat.zero_add, cell_of_row w g j cur e (0, 0) hg, ← ht, List.getElem?_take_of_lt hj, Array.getElem?_toList]

section
variable {P : Program} {ops : Array Oper} {Q : Exit → Act → World → Prop} {a : Act} {w w0 : World} {L : List Res} {rest : List Oper}
variable {d : Option Tmp} {ty : TypeId} {pos : String} {aft : Array Edge}

theorem rounds_on {c : Code} {n : Nat} (h : c.wp P (Exit.then (Code.rounds P c Q n) Q) a w) : Code.rounds P c Q (n + 1) a w := h

theorem gCall {f : FuncId} {R : Ending → World → Prop} (args : Array Value) (h : Calls P f args w R) : Calls P f args w R := h

/-! ### gates: each looks whether the next operation is of its kind; to be taken 'with_reducible', ahead of a law -/
theorem gLoad {T : TypeId} {x : Operand} (h : wpList P ops Q ({ dst := d, op := .load T x, type := ty, pos := pos, after := aft, guard := none } :: rest) a w) :
    wpList P ops Q ({ dst := d, op := .load T x, type := ty, pos := pos, after := aft, guard := none } :: rest) a w := h
theorem gStore {T : TypeId} {x y : Operand} (h : wpList P ops Q ({ dst := d, op := .store T x y, type := ty, pos := pos, after := aft, guard := none } :: rest) a w) :
    wpList P ops Q ({ dst := d, op := .store T x y, type := ty, pos := pos, after := aft, guard := none } :: rest) a w := h
theorem gAlloc {T : TypeId} (h : wpList P ops Q ({ dst := d, op := .alloc T, type := ty, pos := pos, after := aft, guard := none } :: rest) a w) :
    wpList P ops Q ({ dst := d, op := .alloc T, type := ty, pos := pos, after := aft, guard := none } :: rest) a w := h
theorem gBox {T : TypeId} {x : Operand} (h : wpList P ops Q ({ dst := d, op := .box T x, type := ty, pos := pos, after := aft, guard := none } :: rest) a w) :
    wpList P ops Q ({ dst := d, op := .box T x, type := ty, pos := pos, after := aft, guard := none } :: rest) a w := h
theorem gMake {T : TypeId} {x y : Operand} (h : wpList P ops Q ({ dst := d, op := .makeSlice T x y, type := ty, pos := pos, after := aft, guard := none } :: rest) a w) :
    wpList P ops Q ({ dst := d, op := .makeSlice T x y, type := ty, pos := pos, after := aft, guard := none } :: rest) a w := h
theorem gBuild {T : TypeId} {n : Nat} {parts : Array (Nat × Operand)} (h : wpList P ops Q ({ dst := d, op := .buildSlice T n parts, type := ty, pos := pos, after := aft, guard := none } :: rest) a w) :
    wpList P ops Q ({ dst := d, op := .buildSlice T n parts, type := ty, pos := pos, after := aft, guard := none } :: rest) a w := h
theorem gAppend {args : Array Operand} {ts : Array TypeId} (h : wpList P ops Q ({ dst := d, op := .call { callee := .builtin .append, args := args, argTypes := ts }, type := ty, pos := pos, after := aft, guard := none } :: rest) a w) :
    wpList P ops Q ({ dst := d, op := .call { callee := .builtin .append, args := args, argTypes := ts }, type := ty, pos := pos, after := aft, guard := none } :: rest) a w := h

theorem gAppendNil {x : Operand} {ts : Array TypeId} (h : wpList P ops Q ({ dst := d, op := .call { callee := .builtin .append, args := #[.const (.slice none 0 0), x], argTypes := ts }, type := ty, pos := pos, after := aft, guard := none } :: rest) a w) :
    wpList P ops Q ({ dst := d, op := .call { callee := .builtin .append, args := #[.const (.slice none 0 0), x], argTypes := ts }, type := ty, pos := pos, after := aft, guard := none } :: rest) a w := h

/-- 'alloc T' -/
theorem own_alloc (hO : Own w0 w L) (T : TypeId) (z : Value) (hz : (P.info? T).bind (·.zero) = some z)
    (h : ∀ b w', Own w0 w' (.blk b (.cells z.cells T (0, 0)) :: L) → wpList P ops Q rest (a.put d (.pointer (some ⟨b, 0, none⟩))) w') :
    wpList P ops Q ({ dst := d, op := .alloc T, type := ty, pos := pos, after := aft, guard := none } :: rest) a w := by
  refine wpList_plain rfl fun K hK => ?_
  obtain ⟨i, hi, hzz⟩ := Option.bind_eq_some_iff.1 hz
  unfold Oper.wp
  simp [execOp, Instr.alloc, zeroValue, typeInfo, hi, hzz, newVar, newRow]
  exact hK _ _ (h _ _ (hO.alloc _))

/-- 'box T v' -/
theorem own_box (hO : Own w0 w L) (T : TypeId) (x : Operand) (v : Value) (hx : a.eval x = v)
    (h : ∀ b w', Own w0 w' (.blk b (.cells v.cells T (0, 0)) :: L) → wpList P ops Q rest (a.put d (.pointer (some ⟨b, 0, none⟩))) w') :
    wpList P ops Q ({ dst := d, op := .box T x, type := ty, pos := pos, after := aft, guard := none } :: rest) a w := by
  refine wpList_plain rfl fun K hK => ?_
  unfold Oper.wp
  simp [execOp, Instr.box, newVar, newRow, hx]
  exact hK _ _ (h _ _ (hO.alloc _))

theorem Own.setBlk {w' : World} (hO : Own w0 w L) (i : Nat) {b : Nat} {o o' : Obj} (hi : L[i]? = some (.blk b o))
    (hos : w'.os = w.os) (ht : w'.tape = w.tape) (hout : w'.output = w.output) (hsz : w.heap.size ≤ w'.heap.size)
    (hother : ∀ k, k ≠ b → w'.heap[k]? = w.heap[k]?) (hnew : w'.heap[b]? = some o') : Own w0 w' (L.set i (.blk b o')) :=
  hO.set i hi hos ht hout hsz (fun k _ hk => hother k (fun e => hk (by simp [Res.foot, e]))) ⟨(hO.at i hi).1, hnew⟩ (fun k hk => .inl hk)

/-- a store of one cell into a block of the list -/
theorem own_store (hO : Own w0 w L) (i : Nat) (T : TypeId) (x y : Operand) (b off : Nat) (C : Array Value) (t : TypeId) (v : Value)
    (hi : L[i]? = some (.blk b (.cells C t (0, 0)))) (hx : a.eval x = .pointer (some ⟨b, off, none⟩)) (hy : a.eval y = v) (hoff : off < C.size)
    (hu : (P.info? T).map (·.size) = some 1) (h1 : v.oneCell' = true)
    (h : ∀ w', Own w0 w' (L.set i (.blk b (.cells (C.setIfInBounds off v) t (0, 0)))) → wpList P ops Q rest (a.put d undef) w') :
    wpList P ops Q ({ dst := d, op := .store T x y, type := ty, pos := pos, after := aft, guard := none } :: rest) a w := by
  refine wpList_plain rfl fun K hK => ?_
  obtain ⟨inf, hinf, hs⟩ := Option.map_eq_some_iff.1 hu
  have hg := hO.blk i hi
  have hc : w.cell? ⟨b, off, none⟩ = some C[off] := by
    rw [cell_of_row w b off C t (0, 0) hg]; exact Array.getElem?_eq_getElem hoff
  have hf : w.frozen? ⟨b, off, none⟩ = false := frozen_of_row w b off C t hg
  have hvc : v.cells = #[v] := by cases v <;> simp_all [Value.cells, Value.oneCell']
  unfold Oper.wp
  simp [execOp, Instr.storeAt, Instr.sureAddr, storeVar, hx, hy, sizeOf, typeInfo, hinf, hs, hvc, storeCells, run_store P w _ v _ h1, Addr.add_zero', hc, hf]
  refine hK _ _ (h _ (hO.setBlk i hi rfl rfl rfl (by simp) ?_ ?_))
  · intro k hk; exact heap_setCell_other _ _ _ _ hk
  · exact heap_setCell_same w b off C t v hg

/-- a store of a whole variable into a block of the list -/
theorem own_storeAll (hO : Own w0 w L) (i : Nat) (T : TypeId) (x y : Operand) (b : Nat) (C C' : Array Value) (t : TypeId) (v : Value)
    (hi : L[i]? = some (.blk b (.cells C t (0, 0)))) (hx : a.eval x = .pointer (some ⟨b, 0, none⟩)) (hy : a.eval y = v) (hv : v.cells = C')
    (hu : (P.info? T).map (·.size) = some C'.size) (hsz : C'.size = C.size) (h1 : C'.toList.all (·.oneCell') = true)
    (h : ∀ w', Own w0 w' (L.set i (.blk b (.cells C' t (0, 0)))) → wpList P ops Q rest (a.put d undef) w') :
    wpList P ops Q ({ dst := d, op := .store T x y, type := ty, pos := pos, after := aft, guard := none } :: rest) a w := by
  refine wpList_plain rfl fun K hK => ?_
  obtain ⟨inf, hinf, hs⟩ := Option.map_eq_some_iff.1 hu
  have hg := hO.blk i hi
  have hst := run_storeCells_from (P := P) b t C'.toList 0 C w hg (by simp [hsz]) (fun v hv => List.all_eq_true.1 h1 v hv)
  unfold Oper.wp
  simp [execOp, Instr.storeAt, Instr.sureAddr, storeVar, hx, hy, sizeOf, typeInfo, hinf, hs, hv, hst]
  refine hK _ _ (h _ (hO.setBlk i hi rfl rfl rfl (by simp) ?_ ?_))
  · intro k hk; exact setRow_other _ _ _ _ hk
  · rw [setRow_heap w b C _ t _ hg]

/-- a load of a whole variable out of a known block -/
theorem own_loadAll (T : TypeId) (x : Operand) (b : Nat) (C : Array Value) (t : TypeId) (fr : Nat × Nat) (hg : w.heap[b]? = some (.cells C t fr))
    (hx : a.eval x = .pointer (some ⟨b, 0, none⟩)) (hu : (P.underlying T).map (fun d => match d with | .struct _ | .array _ _ => true | _ => false) = some true)
    (hi : (P.info? T).map (·.size) = some C.size)
    (h : wpList P ops Q rest (a.put d (.agg C)) w) :
    wpList P ops Q ({ dst := d, op := .load T x, type := ty, pos := pos, after := aft, guard := none } :: rest) a w := by
  obtain ⟨dd, hd, hdd⟩ := Option.map_eq_some_iff.1 hu
  refine wpList_load_row (P := P) rfl T x rfl b hx t C fr dd hg hd ?_ hi h
  cases dd <;> simp_all


theorem Rd.cells {w : World} {sz n cap : Nat} {a : Option Addr} {xs : List Value} (h : Rd w sz a n cap xs) {ad : Addr} (ha : a = some ad) :
    ∀ j u, xs[j]? = some u → w.cell? (ad.add j) = some u := by
  intro j u hu
  have hj : j < n * sz := by rw [← h.len]; exact (List.getElem?_eq_some_iff.1 hu).1
  obtain ⟨b, off, he, _, hc⟩ := h.at' (by omega)
  rw [ha] at he
  obtain rfl := Option.some.inj he
  rw [Addr.add_lit, hc j hj]; exact hu

theorem Own.grown {w' : World} {e : TypeId} {sz n n' : Nat} {v v' : Value} {xs xs' : List Value} (hO : Own w0 w L) (i : Nat) (hi : L[i]? = some (.sl e sz v n xs))
    (hg : w.grownBy w' v.ownBlock) (hw : w'.ownsRow w0.heap.size e sz v' n' xs')
    (hf : ∀ k, v'.ownBlock = some k → v.ownBlock = some k ∨ w.heap.size ≤ k) : Own w0 w' (L.set i (.sl e sz v' n' xs')) :=
  hO.set i hi hg.os hg.tape hg.output hg.size (fun k hk hne => hg.block k hk (fun e => hne e.symm)) hw hf

/-- the block of what an append hands back: the old one, or a new one -/
theorem run_append_own' (w : World) (base : Nat) (t ty e : TypeId) (i : TypeInfo) (z : Value) (size bytes : Nat) (ht : P.underlying t = some (.slice e)) (hi : P.info? e = some i) (hz : i.zero = some z)
    (hsize : i.size = size) (hby : i.bytes = bytes) (hzs : z.cells.size = size) (hsz : 0 < size)
    (v : Value) (n : Nat) (xs : List Value) (hown : w.ownsRow base e size v n xs)
    (ao : Option Addr) (m c : Nat) (news : List Value) (hr : Rd w size ao m c news) (h1 : ∀ u ∈ news, u.oneCell' = true)
    (h63 : n + m ≤ maxLen) (hbytes : (n + m) * bytes ≤ 140737488355328) (hbase : base ≤ w.heap.size) :
    ∃ v' w', (Builtin.append_ #[t, t] ty #[v, .slice ao m c]).run P w = .ok v' w' ∧ w'.ownsRow base e size v' (n + m) (xs ++ news) ∧ w.grownBy w' v.ownBlock ∧
      (∀ k, v'.ownBlock = some k → v.ownBlock = some k ∨ w.heap.size ≤ k) := by
  cases ao with
  | none =>
    obtain ⟨rfl, rfl⟩ := hr.nil rfl
    have hn : news = [] := List.eq_nil_of_length_eq_zero (by simpa using hr.len)
    subst hn
    refine ⟨v, w, run_append_owned_none w base t ty e i size ht hi v n xs hown, by simpa using hown, World.grownBy.refl _ _, fun k hk => .inl hk⟩
  | some a =>
    have hl := hr.len
    have hnews := hr.cells (ad := a) rfl
    subst hsize
    subst hby
    have hsmall : n + m ≤ 9223372036854775807 := by simp only [maxLen] at h63; omega
    by_cases hold : v.ownBlock = none
    · obtain ⟨v', w', h2, h3, h4, _⟩ := run_append_own (P := P) w w.heap.size t ty e i z i.size i.bytes ht hi hz rfl rfl hzs hsz v n xs
        ⟨hown.1, .inl (by
          rcases hown.2 with h | ⟨g, cap, cur, rfl, _⟩
          · exact h
          · simp [Value.ownBlock] at hold)⟩ a m c news hl hnews h1 h63 hbytes (Nat.le_refl _)
      refine ⟨v', w', h2, ⟨h3.1, ?_⟩, h4, fun k hk => .inr (World.ownsRow.lt h3 k hk).1⟩
      rcases h3.2 with h | ⟨g, cap, cur, rfl, hb, r⟩
      · exact .inl h
      · exact .inr ⟨g, cap, cur, rfl, Nat.le_trans hbase hb, r⟩
    · rcases hown.2 with ⟨rfl, _⟩ | ⟨g, cap, cur, rfl, hb, hg, hnc, hcm, hcs, htake⟩
      · simp [Value.ownBlock] at hold
      · by_cases hroom : n + m ≤ cap
        · obtain ⟨w', h2, h3, h4⟩ := run_append_fits (P := P) w base t ty e i i.size ht hi rfl g n cap xs hown a m c news hl hnews h1 hroom
          exact ⟨_, w', h2, h3, h4, fun k hk => .inl hk⟩
        · have holds : ∀ j u, xs[j]? = some u → w.cell? ((⟨g, 0, none⟩ : Addr).add j) = some u := hown.cells (g := g) rfl
          have hr' := run_append_grow (P := P) w t ty e i z ht hi hz ⟨g, 0, none⟩ n cap xs hown.1 holds a m c news hl hnews (by omega) (by omega) (growslice_fits (by omega) hbytes)
          obtain ⟨v', w', h2, h3, h4, _⟩ := run_append_own (P := P) w base t ty e i z i.size i.bytes ht hi hz rfl rfl hzs hsz _ n xs hown a m c news hl hnews h1 h63 hbytes hbase
          have h2' := h2
          rw [hr'] at h2'
          simp only [Result.ok.injEq] at h2'
          refine ⟨v', w', h2, h3, h4, fun k hk => .inr ?_⟩
          rw [← h2'.1] at hk
          simp only [Value.ownBlock, Option.some.injEq] at hk
          omega

/-- the element type's row of the table -/
structure Elem (P : Program) (t e : TypeId) (z : Value) (size bytes : Nat) : Prop where
  slice : P.underlying t = some (.slice e)
  info : (P.info? e).map (fun i => (i.zero, i.size, i.bytes)) = some (some z, size, bytes)
  cells : z.cells.size = size
  pos : 0 < size

/-- 'append(s, x...)', s of the call's own -/
theorem own_append (hO : Own w0 w L) (i : Nat) (s x : Operand) (t : TypeId) {e : TypeId} {z : Value} {size bytes : Nat} (hE : Elem P t e z size bytes)
    {v : Value} {n : Nat} {xs : List Value} (hi : L[i]? = some (.sl e size v n xs)) (hs : a.eval s = v)
    {ao : Option Addr} {m c : Nat} {news : List Value} (hx : a.eval x = .slice ao m c) (hr : Rd w size ao m c news) (h1 : ∀ u ∈ news, u.oneCell' = true)
    (N : Nat) (hN : n + m = N) (h63 : N ≤ maxLen) (hbytes : N * bytes ≤ 140737488355328)
    (h : ∀ a' c' w', Own w0 w' (L.set i (.sl e size (.slice a' N c') N (xs ++ news))) → wpList P ops Q rest (a.put d (.slice a' N c')) w') :
    wpList P ops Q ({ dst := d, op := .call { callee := .builtin .append, args := #[s, x], argTypes := #[t, t] }, type := ty, pos := pos, after := aft, guard := none } :: rest) a w := by
  refine wpList_plain rfl fun K hK => ?_
  subst hN
  obtain ⟨inf, hinf, hz, hsz, hby⟩ := info_parts hE.info
  obtain ⟨v', w', hrun, h2, h3, h4⟩ := run_append_own' (P := P) w w0.heap.size t ty e inf z size bytes hE.slice hinf hz hsz hby hE.cells hE.pos v n xs (hO.row i hi) ao m c news hr h1 h63 hbytes hO.size
  unfold Oper.wp execOp
  simp only [resolve, invoke, builtin, Sem.run_bind, Sem.run_pure, Result.andThen_ok, List.map_toArray, List.map_cons, List.map_nil, hs, hx, hrun]
  obtain ⟨a', c', rfl, _⟩ := rd_of_row h2
  exact hK _ _ (h a' c' w' (hO.grown i hi h3 h2 h4))

/-- 'append([]T(nil), x...)' -/
theorem own_appendNil (hO : Own w0 w L) (s x : Operand) (t : TypeId) {e : TypeId} {z : Value} {size bytes : Nat} (hE : Elem P t e z size bytes)
    (hs : a.eval s = .slice none 0 0) {ao : Option Addr} {m c : Nat} {news : List Value} (hx : a.eval x = .slice ao m c) (hr : Rd w size ao m c news) (h1 : ∀ u ∈ news, u.oneCell' = true)
    (h63 : m ≤ maxLen) (hbytes : m * bytes ≤ 140737488355328)
    (h : ∀ a' c' w', Own w0 w' (.sl e size (.slice a' m c') m news :: L) → wpList P ops Q rest (a.put d (.slice a' m c')) w') :
    wpList P ops Q ({ dst := d, op := .call { callee := .builtin .append, args := #[s, x], argTypes := #[t, t] }, type := ty, pos := pos, after := aft, guard := none } :: rest) a w := by
  have hO' : Own w0 w (.sl e size (.slice none 0 0) 0 [] :: L) := hO.add (Below.refl _ _) (World.ownsRow_nil _ _ _ _)
  refine own_append hO' 0 s x t hE rfl hs hx hr h1 m (by omega) h63 hbytes ?_
  intro a' c' w' hO2
  have := h a' c' w' (by simpa using hO2)
  simpa using this

/-- 'make([]T, n)' -/
theorem own_make (hO : Own w0 w L) (l c : Operand) (t : TypeId) {e : TypeId} {z : Value} {size bytes : Nat} (hE : Elem P t e z size bytes)
    {kl kc : IntKind} {N C : Int} (n : Nat) (hl : a.eval l = .int kl N) (hc : a.eval c = .int kc C) (hN : N = (n : Int)) (hC : C = (n : Int)) (hbytes : bytes * n ≤ 281474976710656) (h63 : n ≤ maxLen)
    (h : ∀ g w', Own w0 w' (.sl e size (.slice (some ⟨g, 0, none⟩) n n) n (madeCells z.cells (n * size)).toList :: L) → wpList P ops Q rest (a.put d (.slice (some ⟨g, 0, none⟩) n n)) w') :
    wpList P ops Q ({ dst := d, op := .makeSlice t l c, type := ty, pos := pos, after := aft, guard := none } :: rest) a w := by
  refine wpList_plain rfl fun K hK => ?_
  obtain ⟨inf, hinf, hz, hsz, hby⟩ := info_parts hE.info
  subst hN
  subst hC
  obtain ⟨w', hrun, r1, r2⟩ := run_make_full (P := P) w w.heap.size t e inf z size hE.slice hinf hz hsz kl kc n (by rw [hby]; exact hbytes) h63 (Nat.le_refl _)
  unfold Oper.wp
  simp [execOp, hl, hc, hrun, Result.andThen]
  exact hK _ _ (h _ _ (hO.add ⟨r2.os, r2.tape, r2.output, r2.size, fun k hk => r2.block k hk (by simp)⟩ r1))

/-- 'make([]T, 0, n)' -/
theorem own_make0 (hO : Own w0 w L) (l c : Operand) (t : TypeId) {e : TypeId} {z : Value} {size bytes : Nat} (hE : Elem P t e z size bytes)
    {kl kc : IntKind} {C : Int} (n : Nat) (hl : a.eval l = .int kl 0) (hc : a.eval c = .int kc C) (hC : C = (n : Int)) (hbytes : bytes * n ≤ 281474976710656) (h63 : n ≤ maxLen)
    (h : ∀ g w', Own w0 w' (.sl e size (.slice (some ⟨g, 0, none⟩) 0 n) 0 [] :: L) → wpList P ops Q rest (a.put d (.slice (some ⟨g, 0, none⟩) 0 n)) w') :
    wpList P ops Q ({ dst := d, op := .makeSlice t l c, type := ty, pos := pos, after := aft, guard := none } :: rest) a w := by
  refine wpList_plain rfl fun K hK => ?_
  obtain ⟨inf, hinf, hz, hsz, hby⟩ := info_parts hE.info
  subst hC
  obtain ⟨w', hrun, r1, r2⟩ := run_make_own (P := P) w w.heap.size t e inf z size hE.slice hinf hz hsz kl kc n (by rw [hby]; exact hbytes) h63 (Nat.le_refl _)
  unfold Oper.wp
  simp [execOp, hl, hc, hrun, Result.andThen]
  exact hK _ _ (h _ _ (hO.add ⟨r2.os, r2.tape, r2.output, r2.size, fun k hk => r2.block k hk (by simp)⟩ r1))

theorem Own.addRow {w' : World} (hO : Own w0 w L) (hb : Below w.heap.size w w') {e : TypeId} {size n : Nat} {v : Value} {xs : List Value} (hr : w'.ownsRow w.heap.size e size v n xs) : Own w0 w' (.sl e size v n xs :: L) :=
  hO.add hb hr

/-- '[]T{..}' -/
theorem own_build (hO : Own w0 w L) (t : TypeId) (n : Nat) (parts : Array (Nat × Operand)) {e : TypeId} {z : Value} {size bytes : Nat} (hE : Elem P t e z size bytes)
    (cells : Array Value) (hn : n * size ≤ 16777216) (hz : n ≠ 0)
    (hp : Instr.fill (fun i => some (i * size, size)) ((Array.range (n * size)).map (z.cells[· % z.cells.size]!)) (parts.map fun (i, x) => (i, a.eval x)).toList = some cells) (hc : cells.size = n * size)
    (h : ∀ g w', Own w0 w' (.sl e size (.slice (some ⟨g, 0, none⟩) n n) n cells.toList :: L) → wpList P ops Q rest (a.put d (.slice (some ⟨g, 0, none⟩) n n)) w') :
    wpList P ops Q ({ dst := d, op := .buildSlice t n parts, type := ty, pos := pos, after := aft, guard := none } :: rest) a w := by
  refine wpList_plain rfl fun K hK => ?_
  obtain ⟨inf, hinf, hz', hsz, hby⟩ := info_parts hE.info
  have hpos := hE.pos
  have h0 : n * size ≠ 0 := Nat.mul_ne_zero hz (by omega)
  have hm : n ≤ maxLen := by
    have : n ≤ n * size := Nat.le_mul_of_pos_right n hpos
    simp only [maxLen]; omega
  have hu : (underlying t).run P w = .ok (.slice e) w := run_underlying hE.slice w
  have h24 : ¬ (n * size > 2 ^ 24) := by omega
  unfold Oper.wp
  simp only [execOp, Instr.buildSlice, Sem.run_bind, hu, Result.andThen_ok, sizeOf, typeInfo, run_program, hinf, Sem.run_pure, hsz, if_neg h24, if_neg h0, zeroValue, hz', hp]
  have hr := World.ownsRow_lit (size := size) (e := e) w cells n (Nat.le_refl _) hm hc
  simp [newRow]
  exact hK _ _ (h _ _ (hO.add ((Below.refl _ _).alloc (Nat.le_refl _) _) hr))

/-- '[]T{}' -/
theorem own_build0 (hO : Own w0 w L) (t : TypeId) {e : TypeId} {z : Value} {size bytes : Nat} (hE : Elem P t e z size bytes)
    (h : ∀ g w', Own w0 w' (.sl e size (.slice (some ⟨g, 0, none⟩) 0 0) 0 [] :: L) → wpList P ops Q rest (a.put d (.slice (some ⟨g, 0, none⟩) 0 0)) w') :
    wpList P ops Q ({ dst := d, op := .buildSlice t 0 #[], type := ty, pos := pos, after := aft, guard := none } :: rest) a w := by
  refine wpList_plain rfl fun K hK => ?_
  obtain ⟨inf, hinf, hz', hsz, hby⟩ := info_parts hE.info
  have hu : (underlying t).run P w = .ok (.slice e) w := run_underlying hE.slice w
  unfold Oper.wp
  simp only [execOp, Instr.buildSlice, Sem.run_bind, hu, Result.andThen_ok, sizeOf, typeInfo, run_program, hinf, Sem.run_pure, hsz, Nat.zero_mul, if_neg (show ¬ (0 > 2 ^ 24) by omega), if_pos]
  have hr := World.ownsRow_lit (size := size) (e := e) w #[] 0 (Nat.le_refl _) (Nat.zero_le _) (by simp)
  have hz0 : Array.map (fun i => (#[] : Array Value)[i % (#[] : Array Value).size]!) (Array.range 0) = #[] := by simp
  simp only [hz0]
  simp [newRow, Instr.fill]
  exact hK _ _ (h _ _ (hO.add ((Below.refl _ _).alloc (Nat.le_refl _) _) hr))

/-- a store into an element (or a field of it) of a slice of the call's own -/
theorem own_setElem (hO : Own w0 w L) (i : Nat) (T : TypeId) (x y : Operand) {g j n cap sz : Nat} {e : TypeId} {xs : List Value} (v : Value)
    (hi : L[i]? = some (.sl e sz (.slice (some ⟨g, 0, none⟩) n cap) n xs)) (hx : a.eval x = .pointer (some ⟨g, j, none⟩)) (hy : a.eval y = v) (hj : j < n * sz)
    (hu : (P.info? T).map (·.size) = some 1) (h1 : v.oneCell' = true)
    (h : ∀ w', Own w0 w' (L.set i (.sl e sz (.slice (some ⟨g, 0, none⟩) n cap) n (xs.set j v))) → wpList P ops Q rest (a.put d undef) w') :
    wpList P ops Q ({ dst := d, op := .store T x y, type := ty, pos := pos, after := aft, guard := none } :: rest) a w := by
  refine wpList_plain rfl fun K hK => ?_
  obtain ⟨inf, hinf, hs⟩ := Option.map_eq_some_iff.1 hu
  have hrow := hO.row i hi
  have hlen := hrow.1
  have hc : w.cell? ⟨g, j, none⟩ = some (xs[j]'(by omega)) := by rw [hrow.cellAt j hj]; exact List.getElem?_eq_getElem _
  have hf : w.frozen? ⟨g, j, none⟩ = false := hrow.frozenAt j
  have hvc : v.cells = #[v] := by cases v <;> simp_all [Value.cells, Value.oneCell']
  have hst := hrow.stored j v
  unfold Oper.wp
  simp [execOp, Instr.storeAt, Instr.sureAddr, storeVar, hx, hy, sizeOf, typeInfo, hinf, hs, hvc, storeCells, run_store P w _ v _ h1, Addr.add_zero', hc, hf]
  exact hK _ _ (h _ (hO.grown i hi hst.2 hst.1 (fun k hk => .inl hk)))

theorem Own.slCell (hO : Own w0 w L) (i : Nat) {g j n cap sz : Nat} {e : TypeId} {xs : List Value} (hi : L[i]? = some (.sl e sz (.slice (some ⟨g, 0, none⟩) n cap) n xs)) (hj : j < n * sz) : w.cell? ⟨g, j, none⟩ = xs[j]? :=
  (hO.row i hi).cellAt j hj

theorem Own.rdAt (hO : Own w0 w L) (i : Nat) {n sz c : Nat} {ao : Option Addr} {e : TypeId} {xs : List Value} (hi : L[i]? = some (.sl e sz (.slice ao n c) n xs)) : Rd w sz ao n c xs := by
  obtain ⟨a', c', h, hr⟩ := rd_of_row (hO.row i hi)
  simp only [Value.slice.injEq, true_and] at h
  obtain ⟨rfl, rfl⟩ := h
  exact hr
theorem Rd.take {sz n cap : Nat} {ao : Option Addr} {xs : List Value} (h : Rd w sz ao n cap xs) (m : Nat) (hm : m ≤ n) : Rd w sz ao m cap (xs.take (m * sz)) := by
  have hle : m * sz ≤ n * sz := Nat.mul_le_mul_right _ hm
  refine ⟨by rw [List.length_take, h.len]; omega, Nat.le_trans hm h.le, h.max, fun ha => ⟨by have := (h.nil ha).1; omega, (h.nil ha).2⟩, fun hne => ?_⟩
  obtain ⟨b, off, ha, hb, hc⟩ := h.at' (by omega)
  exact ⟨b, off, ha, hb, fun j hj => by rw [hc j (by omega), List.getElem?_take_of_lt hj]⟩

theorem Own.slRd (hO : Own w0 w L) (i : Nat) {n sz : Nat} {e : TypeId} {v : Value} {xs : List Value} (hi : L[i]? = some (.sl e sz v n xs)) : ∃ a cap, v = .slice a n cap ∧ Rd w sz a n cap xs :=
  rd_of_row (hO.row i hi)


/-- a block, read as a slice -/
theorem rd_blk {b : Nat} {C : Array Value} {t : TypeId} {fr : Nat × Nat} (hg : w.heap[b]? = some (.cells C t fr)) (sz off n cap : Nat) (xs : List Value) (hl : xs.length = n * sz) (hn : n ≤ cap) (hc : cap ≤ maxLen)
    (hx : ∀ j, j < n * sz → C[off + j]? = xs[j]?) : Rd w sz (some ⟨b, off, none⟩) n cap xs :=
  ⟨hl, hn, hc, fun h => by simp at h, fun _ => ⟨b, off, rfl, lt_of_block hg, fun j hj => by rw [cell_of_row w b _ C t fr hg]; exact hx j hj⟩⟩

/-- '[]byte("constant")': its row is marked -/
theorem own_const {e : TypeId} {sz g n : Nat} {xs : List Value} (hO : Own w0 w (.sl e sz (.slice (some ⟨g, 0, none⟩) n n) n xs :: L)) (T : TypeId) (x : Operand) (hT : P.underlying T = some (.slice e)) (he : P.underlying e = some (.int .u8)) (hsz : sz = 1)
    (hx : a.eval x = .slice (some ⟨g, 0, none⟩) n n)
    (h : ∀ C w', Own w0 w' (.blk g (.cells C e (n, n + 1)) :: L) → C.toList = xs → wpList P ops Q rest (a.put d (.slice (some ⟨g, 0, none⟩) n n)) w') :
    wpList P ops Q ({ dst := d, op := .convert T T x, type := ty, pos := pos, after := aft, guard := none } :: rest) a w := by
  subst hsz
  refine wpList_plain rfl fun K hK => ?_
  obtain ⟨hlen, hrow⟩ := hO.row 0 rfl
  rcases hrow with ⟨h1, _⟩ | ⟨g', cap, cur, h1, hb, hg, hnc, hcm, hcs, htake⟩
  · simp at h1
  · simp only [Value.slice.injEq, Option.some.injEq, Addr.mk.injEq, and_true, true_and] at h1
    obtain ⟨rfl, rfl⟩ := h1
    have hcur : cur.toList = xs := by
      rw [← htake]; exact (List.take_of_length_le (by rw [Array.length_toList, hcs]; exact Nat.le_refl _)).symm
    have hsz' : cur.size = n := by omega
    have hsh : w.shape? g = some (e, n) := by simp [World.shape?, hg, hsz']
    have hrun : (convert T T (.slice (some ⟨g, 0, none⟩) n n)).run P w = .ok (.slice (some ⟨g, 0, none⟩) n n) (w.freeze ⟨g, n, none⟩ 1) := by
      simp [convert, run_underlying hT, run_underlying he, markStringish, hsh]
    unfold Oper.wp
    simp only [execOp, hx, Sem.run_bind, hrun, Result.andThen_ok, Sem.run_pure]
    refine hK _ _ (h cur _ ?_ hcur)
    refine hO.set 0 rfl (by simp [World.freeze]) (by simp [World.freeze]) (by simp [World.freeze]) (by simp [World.freeze]) ?_ ⟨hb, ?_⟩ (fun k hk => .inl hk)
    · intro k _ hk
      have hkg : g ≠ k := fun e => hk (by simp [Res.foot, Value.ownBlock, e])
      simp [World.freeze, Array.getElem?_modify, hkg]
    · simp [World.freeze, Array.getElem?_modify, hg]

end
section
variable {P : Program}
/-- what is given back: a row of cells, and a slot -/
theorem res_ct {fn : Func} {p u : Tmp} {ty : TypeId} (h : fn.results = #[.cell p ty, .tmp u]) (tmps : Array Value) (w : World) (g : Nat) (t : TypeId) (cs : Array Value) (fr : Nat × Nat) (d : TypeDesc)
    (hp : tmps.getD p undef = .pointer (some ⟨g, 0, none⟩)) (hg : w.heap[g]? = some (.cells cs t fr))
    (hu : P.underlying ty = some d) (hd : (match d with | .struct _ | .array _ _ => true | _ => false) = true) (hi : (P.info? ty).map (·.size) = some cs.size) :
    (results fn tmps).run P w = .ok (.tuple #[.agg cs, tmps.getD u undef]) w := by
  have hp' : tmps[p]?.getD undef = .pointer (some ⟨g, 0, none⟩) := by simpa using hp
  simp [results, h, hp', asAddr, run_loadVar_row w g t ty cs fr d hg hu hd hi]
/-- a guarded operation whose guard says yes is walked as one without a guard -/
theorem wpList_want {ops : Array Oper} {Q : Exit → Act → World → Prop} {a : Act} {w : World} {rest : List Oper} {d : Option Tmp} {op : Op} {ty : TypeId} {pos : String} {aft : Array Edge} {g : Nat × Bool}
    (hw : Region.wanted { dst := d, op := op, type := ty, pos := pos, after := aft, guard := some g } (yielded ops a.tmps) = true)
    (h : wpList P ops Q ({ dst := d, op := op, type := ty, pos := pos, after := aft, guard := none } :: rest) a w) :
    wpList P ops Q ({ dst := d, op := op, type := ty, pos := pos, after := aft, guard := some g } :: rest) a w := by
  unfold wpList at *
  rw [if_pos hw]
  rw [if_pos (by simp [Region.wanted])] at h
  exact h
theorem gLoadG {ops : Array Oper} {Q : Exit → Act → World → Prop} {a : Act} {w : World} {rest : List Oper} {d : Option Tmp} {T : TypeId} {x : Operand} {ty : TypeId} {pos : String} {aft : Array Edge} {g : Nat × Bool}
    (h : wpList P ops Q ({ dst := d, op := .load T x, type := ty, pos := pos, after := aft, guard := some g } :: rest) a w) :
    wpList P ops Q ({ dst := d, op := .load T x, type := ty, pos := pos, after := aft, guard := some g } :: rest) a w := h
theorem gBuildG {ops : Array Oper} {Q : Exit → Act → World → Prop} {a : Act} {w : World} {rest : List Oper} {d : Option Tmp} {T : TypeId} {n : Nat} {parts : Array (Nat × Operand)} {ty : TypeId} {pos : String} {aft : Array Edge} {g : Nat × Bool}
    (h : wpList P ops Q ({ dst := d, op := .buildSlice T n parts, type := ty, pos := pos, after := aft, guard := some g } :: rest) a w) :
    wpList P ops Q ({ dst := d, op := .buildSlice T n parts, type := ty, pos := pos, after := aft, guard := some g } :: rest) a w := h
end
end Go.Own
