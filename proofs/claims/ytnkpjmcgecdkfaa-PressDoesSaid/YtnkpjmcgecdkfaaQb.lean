/- Bits and where their chances are: in memory, opened; what many chances learn of many bits. -/
import Derived.Test.YtnkpjmcgecdkfaaQm
import Derived.Test.YtnkpjmcgecdkfaaSf
import Derived.Test.YtnkpjmcgecdkfaaHs
import Derived.Test.YtnkpjmcgecdkfaaT
namespace Go.Pb
open Go.RowKit

structure Bt where
  at_ : Int
  b : Bool
def Bt.C (x : Bt) : Array Value := #[.int .i64 x.at_, .bool x.b]
def bts : List Bt → List Value
  | [] => []
  | x :: r => .int .i64 x.at_ :: .bool x.b :: bts r
theorem bts_cons (x : Bt) (r : List Bt) : bts (x :: r) = x.C.toList ++ bts r := rfl
theorem bts_length : ∀ l : List Bt, (bts l).length = l.length * 2
  | [] => rfl
  | x :: r => by simp only [bts, List.length_cons, bts_length r]; omega
theorem bts_append : ∀ l r : List Bt, bts (l ++ r) = bts l ++ bts r
  | [], r => rfl
  | x :: l, r => by simp only [bts, List.cons_append, bts_append l r]
theorem bts_get : ∀ (l : List Bt) (k : Nat) (h : k < l.length) (j : Nat) (v : Value), l[k].C.toList[j]? = some v → (bts l)[k * 2 + j]? = some v
  | x :: r, 0, _, j, v, hv => by
    have hj : j < 2 := (List.getElem?_eq_some_iff.1 hv).1
    rw [bts_cons, Nat.zero_mul, Nat.zero_add, List.getElem?_append_left (by exact hj)]
    exact hv
  | x :: r, k + 1, h, j, v, hv => by
    rw [bts_cons, List.getElem?_append_right (by show 2 ≤ _; omega)]
    have := bts_get r k (by simpa using h) j v (by simpa using hv)
    rw [← this]
    congr 1
    show (k + 1) * 2 + j - 2 = _
    omega
theorem bts_one (l : List Bt) : ∀ u ∈ bts l, u.oneCell' = true := by
  induction l with
  | nil => simp [bts]
  | cons t r ih =>
    intro u hu
    simp only [bts, List.mem_cons] at hu
    rcases hu with rfl | rfl | hu
    · rfl
    · rfl
    · exact ih u hu
def zB : Bt := ⟨0, false⟩
instance : Inhabited Bt := ⟨zB⟩
end Go.Pb
namespace Go.Own
open Go.RowKit Go.Ord Go.Pb
section
variable {P : Program} {ops : Array Oper} {Q : Exit → Act → World → Prop} {a : Act} {w : World} {rest : List Oper}
variable {d : Option Tmp} {ty : TypeId} {pos : String} {aft : Array Edge}
/-- a bit out of a row of them -/
theorem ld_bt {T : TypeId} {x : Operand} {b off j k n cap : Nat} {l : List Bt} {t : Bt} (hR : Rd w 2 (some ⟨b, off, none⟩) n cap (bts l)) (ht : l[k]? = some t)
    (hx : a.eval x = .pointer (some ⟨b, j, none⟩)) (hj : j = off + k * 2) (hT : aggT P T = some true) (hs : (P.info? T).map (·.size) = some 2)
    (h : wpList P ops Q rest (a.put d (.agg t.C)) w) :
    wpList P ops Q ({ dst := d, op := .load T x, type := ty, pos := pos, after := aft, guard := none } :: rest) a w := by
  obtain ⟨hk, he⟩ := List.getElem?_eq_some_iff.1 ht
  subst hj
  exact ld_rds t.C.toList hR hx (fun i v hv => bts_get l k hk i v (by rw [he]; exact hv)) hT hs (by show 0 < 2; omega) h
end
section
variable {P : Program} {ops : Array Oper} {S : World → Prop} {st : Op → Bool} {Q : Exit → Act → World → Prop} {a : Act} {w : World} {rest : List Oper}
variable {d : Option Tmp} {ty : TypeId} {pos : String} {aft : Array Edge}
/-- in a region that draws: a load of a cell that stands in every world of S -/
theorem wpI_ld1S {T : TypeId} {x : Operand} {ad : Addr} {v : Value} (hS : ∀ w', S w' → w'.cell? ad = some v)
    (hx : a.eval x = .pointer (some ad)) (hst : st (.load T x) = true) (hT : aggT P T = some false)
    (h : wpI P ops S st Q rest (a.put d v) w) : wpI P ops S st Q ({ dst := d, op := .load T x, type := ty, pos := pos, after := aft, guard := none } :: rest) a w := by
  refine wpI_steady v rfl hst rfl (fun w' hw => ?_) h
  exact run_load_one (P := P) (d := d) (ty := ty) (pos := pos) (aft := aft) (gd := none) hx hT (hS w' hw)
end
end Go.Own
namespace Go.Opn
open Go.ChangeShapes Go.WideShapes Go.ChangeAt Go.RowKit Go.Own Go.Pb Go.Deep
/-- WHAT THE WALK IS TOLD OF A SLICE OF BITS THAT CAME IN -/
def IsBits (w : World) (a : Option Addr) (len cap : Nat) (l : List Bt) : Prop := Rd w 2 a len cap (bts l)
theorem open_bits {H : Type} {enc : TypeId × Value → H} {P : Program} {w : World} {base : Nat} {held : Bool} {t e : TypeId} {f0 f1 : Field} {a : Option Addr} {len cap : Nat} {d : DataW H} {ps : List MemPlace}
    (ht : P.underlying t = some (.slice e)) (he : P.underlying e = some (.struct #[f0, f1])) (hone : oneCellFields P #[f0, f1] = true) (hC : P.cellsOf e = 2)
    (h0 : P.underlying f0.type = some (.int .i64)) (h1 : P.underlying f1.type = some .bool)
    (hd : DataW.Trod enc P w base (fun _ => true) held t (.slice a len cap) d ps) : ∃ l, IsBits w a len cap l := by
  obtain ⟨fuel, hf⟩ := hd
  rcases open_slice_fields ht he hone hC hf with ⟨hcs, _⟩ | ⟨x, l, c, m, D, Pl, hcs, _, hl, hm, hmm, _, hi⟩
  · simp [Value.cells] at hcs
    obtain ⟨rfl, rfl, rfl⟩ := hcs
    exact ⟨[], rfl, Nat.le_refl _, by simp [maxLen], fun _ => ⟨rfl, rfl⟩, fun h => absurd rfl h⟩
  · simp [Value.cells] at hcs
    obtain ⟨rfl, rfl, rfl⟩ := hcs
    simp only [if_true] at hmm
    have each : ∀ i, i < len → ∃ t : Bt, ∀ j v, t.C.toList[j]? = some v → w.cell? (x.add (i * 2 + j)) = some v := fun i hil => by
      obtain ⟨ys, n, _, _, _, hg⟩ := hi i (by omega)
      obtain ⟨v0, y0, c0, _, t0⟩ := hg 0 f0 rfl
      obtain ⟨v1, y1, c1, _, t1⟩ := hg 1 f1 rfl
      obtain ⟨z0, e0, _, w0⟩ := DataW.trod_int h0 t0
      obtain ⟨z1, e1, _⟩ := DataW.trod_bool h1 t1
      simp only [List.cons.injEq, and_true] at e0 e1
      subst e0 e1
      refine ⟨⟨z0, z1⟩, fun j v hj => ?_⟩
      match j, hj with
      | 0, hj => simp only [Bt.C, List.getElem?_cons_zero, Option.some.injEq] at hj; subst hj; exact c0
      | 1, hj => simp only [Bt.C, List.getElem?_cons_succ, List.getElem?_cons_zero, Option.some.injEq] at hj; subst hj; exact c1
      | j + 2, hj => simp [Bt.C] at hj
    obtain ⟨f, hfi⟩ := choose_lt each
    have hll : ((List.range len).map f).length = len := by simp
    refine ⟨(List.range len).map f, rd_of_cellsN (by rw [bts_length, hll]) hl hm fun j hj => ?_⟩
    have hi2 : j / 2 < len := by omega
    have hget : ((List.range len).map f)[j / 2]'(by rw [hll]; exact hi2) = f (j / 2) := by simp
    have hr : j % 2 < (f (j / 2)).C.toList.length := by show _ < 2; omega
    have h1 := hfi (j / 2) hi2 (j % 2) _ (List.getElem?_eq_getElem hr)
    have h2 := bts_get ((List.range len).map f) (j / 2) (by rw [hll]; exact hi2) (j % 2) _ (by rw [hget]; exact List.getElem?_eq_getElem hr)
    rw [show j / 2 * 2 + j % 2 = j by omega] at h1 h2
    rw [h1, h2]
end Go.Opn
namespace Go.Proofs.Ytnkpjmcgecdkfaa
open Go.RowKit Go.Bv Go.Opn Go.Pb

/-! ### what many chances learn of many bits -/
def okAt (n : Nat) (x : Bt) : Prop := 0 ≤ x.at_ ∧ x.at_ < (n : Int)
instance (n : Nat) (x : Bt) : Decidable (okAt n x) := by unfold okAt; infer_instance
def put1 (l : List Int) (x : Bt) : List Int := l.set x.at_.toNat (learnI (l.getD x.at_.toNat 0) x.b)
def allL (n : Nat) : List Int → List Bt → Option (List Int)
  | l, [] => some l
  | l, x :: r => if okAt n x then allL n (put1 l x) r else none
theorem allL_append (n : Nat) : ∀ (l : List Int) (a b : List Bt), allL n l (a ++ b) = (allL n l a).bind fun m => allL n m b
  | l, [], b => rfl
  | l, x :: a, b => by
    show (if okAt n x then allL n (put1 l x) (a ++ b) else none) = (if okAt n x then allL n (put1 l x) a else none).bind _
    split
    · exact allL_append n _ a b
    · rfl
theorem put1_length (l : List Int) (x : Bt) : (put1 l x).length = l.length := by simp [put1]
theorem allL_length (n : Nat) : ∀ (l : List Int) (a : List Bt) (r : List Int), allL n l a = some r → r.length = l.length
  | l, [], r, h => by simp only [allL, Option.some.injEq] at h; rw [h]
  | l, x :: a, r, h => by
    simp only [allL] at h
    split at h
    · rw [allL_length n _ a r h, put1_length]
    · cases h
theorem put1_may {l : List Int} {x : Bt} (h : l.all mayB = true) (hx : okAt l.length x) : (put1 l x).all mayB = true := by
  rw [List.all_eq_true] at h ⊢
  intro y hy
  rcases List.mem_or_eq_of_mem_set hy with hy | rfl
  · exact h y hy
  · have hlt : x.at_.toNat < l.length := by unfold okAt at hx; omega
    rw [List.getD_eq_getElem?_getD, List.getElem?_eq_getElem hlt]
    exact may_learn _ (h _ (List.getElem_mem hlt))
theorem allL_may (n : Nat) : ∀ (l : List Int) (a : List Bt) (r : List Int), l.length = n → l.all mayB = true → allL n l a = some r → r.all mayB = true
  | l, [], r, _, hm, h => by simp only [allL, Option.some.injEq] at h; rw [← h]; exact hm
  | l, x :: a, r, hn, hm, h => by
    simp only [allL] at h
    split at h
    · rename_i hx
      exact allL_may n _ a r (by rw [put1_length, hn]) (put1_may hm (by rw [hn]; exact hx)) h
    · cases h
theorem allL_take (n : Nat) (l : List Int) (a : List Bt) (k : Nat) (hk : k < a.length) {cur : List Int} (h : allL n l (a.take k) = some cur) :
    allL n l (a.take (k + 1)) = if okAt n a[k] then some (put1 cur a[k]) else none := by
  rw [List.take_succ_eq_append_getElem hk, allL_append, h]
  show allL n cur [a[k]] = _
  simp only [allL]
theorem allL_none (n : Nat) (l : List Int) (a : List Bt) (k : Nat) (h : allL n l (a.take k) = none) : allL n l a = none := by
  rw [← List.take_append_drop k a, allL_append, h]; rfl
/-- what 'All' hands back -/
def allT (l : List Int) (bits : List Bt) : List Int := if checkE l = 0 then (allL l.length l bits).getD [] else []
def allE (l : List Int) (bits : List Bt) : Int := if checkE l = 0 then (if (allL l.length l bits).isSome then 0 else 4) else 1
end Go.Proofs.Ytnkpjmcgecdkfaa
