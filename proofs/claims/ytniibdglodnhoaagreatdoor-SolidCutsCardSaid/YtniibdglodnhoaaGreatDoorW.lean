/- What comes in, opened: arrays of four numbers, slices of bools. -/
import Derived.WalkKit
import Derived.ProofKit
import Derived.OpenShut
import Derived.ChangeOld
import Derived.Below
import Derived.SizedLaws
import Derived.Laws.IdiomArrays
import Derived.Test.YtniibdglodnhoaaGreatDoorB
namespace Go.Opn
open Go.ChangeShapes Go.WideShapes Go.ChangeAt Go.RowKit
variable {H : Type} {enc : TypeId × Value → H} {P : Program} {w : World} {base : Nat} {sp : Nat → Bool} {held : Bool}

/-- WHAT THE WALK IS TOLD OF A SLICE OF INTEGERS THAT CAME IN: it is nil; or it leads to a row of 'cap' cells, the numbers 'zs', each fitting its kind. -/
def IsRow (k : IntKind) (w : World) (a : Option Addr) (len cap : Nat) (zs : List Int) : Prop :=
  (a = none ∧ len = 0 ∧ cap = 0 ∧ zs = []) ∨
  ∃ x, a = some x ∧ len ≤ cap ∧ cap ≤ maxLen ∧ zs.length = cap ∧ (∀ i, i < zs.length → w.cell? (x.add i) = some (.int k (zs.getD i 0))) ∧ ∀ n ∈ zs, (Lit.int k n).wf = true

theorem open_words {t e : TypeId} {r : Reach} {b0 : Nat} {v : Value} {d : DataW H} {ps : List MemPlace} (ht : P.underlying t = some (.array 4 e)) (hct : P.cellsOf t = 4) (hce : P.cellsOf e = 1) (he : P.underlying e = some (.int .u32))
    (hval : Value.okWide P w r b0 t v) (hd : DataW.Trod enc P w base sp held t v d ps) :
    ∃ x0 x1 x2 x3 : BitVec 32, v = .agg #[.int .u32 (x0.toNat : Int), .int .u32 (x1.toNat : Int), .int .u32 (x2.toNat : Int), .int .u32 (x3.toNat : Int)] := by
  obtain ⟨cs, rfl, hsz, _⟩ : ∃ cs, v = .agg cs ∧ cs.size = P.cellsOf t ∧ Row.okWide P w r b0 t cs := by
    simpa [Value.okWide, ht] using hval
  rw [hct] at hsz
  obtain ⟨l⟩ := cs
  match l, hsz with
  | [c0, c1, c2, c3], _ =>
    obtain ⟨fuel, hf⟩ := hd
    obtain ⟨y0, y1, y2, y3, m, hx, hy0, hy1, hy2, hy3⟩ := trod_array4 ht hce hf
    obtain ⟨x0, e0, rfl, w0⟩ := DataW.trod_int he hy0
    obtain ⟨x1, e1, rfl, w1⟩ := DataW.trod_int he hy1
    obtain ⟨x2, e2, rfl, w2⟩ := DataW.trod_int he hy2
    obtain ⟨x3, e3, rfl, w3⟩ := DataW.trod_int he hy3
    simp at e0 e1 e2 e3
    subst e0 e1 e2 e3
    obtain ⟨z0, rfl⟩ := Go.Bv.bv32_of_wf w0
    obtain ⟨z1, rfl⟩ := Go.Bv.bv32_of_wf w1
    obtain ⟨z2, rfl⟩ := Go.Bv.bv32_of_wf w2
    obtain ⟨z3, rfl⟩ := Go.Bv.bv32_of_wf w3
    exact ⟨z0, z1, z2, z3, rfl⟩
theorem open_u8s {t e : TypeId} {k : IntKind} {a : Option Addr} {len cap : Nat} {d : DataW H} {ps : List MemPlace} (ht : P.underlying t = some (.slice e)) (he : P.underlying e = some (.int k)) (hc : P.cellsOf e = 1)
    (hd : DataW.Trod enc P w base (fun _ => true) held t (.slice a len cap) d ps) : ∃ zs, IsRow k w a len cap zs := by
  obtain ⟨fuel, hf⟩ := hd
  rcases open_ints ht he hc hf with ⟨hcs, _⟩ | ⟨x, l, c, zs, hcs, _, hl, hm, hz, _, hcell, hwz⟩
  · simp [Value.cells] at hcs
    obtain ⟨rfl, rfl, rfl⟩ := hcs
    exact ⟨[], .inl ⟨rfl, rfl, rfl, rfl⟩⟩
  · simp [Value.cells] at hcs
    obtain ⟨rfl, rfl, rfl⟩ := hcs
    exact ⟨zs, .inr ⟨_, rfl, hl, hm, by simpa using hz, hcell, hwz⟩⟩
/-- a slice of integers that came in takes no more octets than any may -/
theorem sized_ints {ts : List TypeId} {ds : List (DataW H)} (hsz : (DataW.weightsEach P ts ds).all (· ≤ reachBytes) = true) {j : Nat} {t e : TypeId} {k : IntKind} {a : Option Addr} {len cap : Nat} {d : DataW H} {ps : List MemPlace}
    (ht : P.underlying t = some (.slice e)) (he : P.underlying e = some (.int k)) (hc : P.cellsOf e = 1) (n : Nat) (hn : P.bytesOf e = n) (hts : ts[j]? = some t) (hds : ds[j]? = some d)
    (hd : DataW.Trod enc P w base (fun _ => true) held t (.slice a len cap) d ps) : cap * n ≤ 140737488351232 := by
  obtain ⟨fuel, hf⟩ := hd
  subst hn
  rcases open_ints ht he hc hf with ⟨hcs, _⟩ | ⟨x, l, c, zs, hcs, _, hl, hm, hz, hx, _⟩
  · simp [Value.cells] at hcs
    obtain ⟨rfl, rfl, rfl⟩ := hcs
    simp
  · simp [Value.cells] at hcs
    obtain ⟨rfl, rfl, rfl⟩ := hcs
    simp only [Prod.mk.injEq] at hx
    obtain ⟨rfl, _⟩ := hx
    have := sized_slice hsz hts hds ht
    simp only [lits, List.length_map, List.length_take, List.length_drop, reachBytes, if_true] at this hz
    rw [show cap = min len zs.length + (zs.length - len) by omega]
    exact this
end Go.Opn
