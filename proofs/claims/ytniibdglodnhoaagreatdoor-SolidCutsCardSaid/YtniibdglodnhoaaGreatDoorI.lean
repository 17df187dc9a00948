/- Rows of integers and of bools that came in, read by the walk's own form. -/
import Derived.Test.YtniibdglodnhoaaGreatDoorB
import Derived.Test.YtniibdglodnhoaaGreatDoorW
import Derived.Deep.Grids
namespace Go.Opn
open Go.RowKit Go.Own Go.Bv

theorem rd_of_cells {w : World} {x : Addr} {len cap : Nat} {xs : List Value} (hn : xs.length = len) (hl : len ≤ cap) (hm : cap ≤ maxLen) (hc : ∀ i, i < len → w.cell? (x.add i) = xs[i]?) : Rd w 1 (some x) len cap xs := by
  refine ⟨by omega, hl, hm, fun h => by simp at h, fun hne => ?_⟩
  have h0 := hc 0 (by omega)
  rw [Addr.add_zero', List.getElem?_eq_getElem (by omega)] at h0
  have hlt := World.block_lt_of_cell? w x h0
  have hspot : x.spot = none := by
    cases hs : x.spot with
    | none => rfl
    | some s =>
      exfalso
      simp only [World.cell?, hs] at h0
      split at h0 <;> simp at h0
  obtain ⟨b, off, sp⟩ := x
  dsimp only at hspot hlt
  subst hspot
  refine ⟨b, off, rfl, hlt, fun j hj => ?_⟩
  have hcj := hc j (by omega)
  rw [Addr.add_lit] at hcj
  exact hcj

def i64s (l : List Int) : List Value := l.map (.int .i64)
theorem i64s_length (l : List Int) : (i64s l).length = l.length := by simp [i64s]
theorem i64s_get (l : List Int) (j : Nat) (h : j < l.length) : (i64s l)[j]? = some (.int .i64 l[j]) := by simp [i64s, h]
theorem i64s_one (l : List Int) : ∀ u ∈ i64s l, u.oneCell' = true := by
  intro u hu
  obtain ⟨x, _, rfl⟩ := List.mem_map.1 hu
  rfl
theorem i64s_append (a b : List Int) : i64s (a ++ b) = i64s a ++ i64s b := by simp [i64s]
def bls (l : List Bool) : List Value := l.map .bool
theorem bls_length (l : List Bool) : (bls l).length = l.length := by simp [bls]
theorem bls_get (l : List Bool) (j : Nat) (h : j < l.length) : (bls l)[j]? = some (.bool l[j]) := by simp [bls, h]

theorem rd_of_i64 {w : World} {a : Option Addr} {len cap : Nat} {zs : List Int} (h : IsRow .i64 w a len cap zs) : ∃ l : List Int, Rd w 1 a len cap (i64s l) ∧ ∀ n ∈ l, (Lit.int .i64 n).wf = true := by
  rcases h with ⟨rfl, rfl, rfl, rfl⟩ | ⟨x, rfl, hl, hm, hz, hc, hwf⟩
  · exact ⟨[], ⟨rfl, Nat.le_refl _, by simp [maxLen], fun _ => ⟨rfl, rfl⟩, fun h => absurd rfl h⟩, by simp⟩
  · refine ⟨zs.take len, rd_of_cells (by simp [i64s]; omega) hl hm (fun i hi => ?_), fun n hn => hwf n (List.mem_of_mem_take hn)⟩
    rw [hc i (by omega)]
    have : i < zs.length := by omega
    simp [i64s, hi, this, List.getD]

/-- WHAT THE WALK IS TOLD OF A SLICE OF BOOLS THAT CAME IN -/
def IsBools (w : World) (a : Option Addr) (len cap : Nat) (zs : List Bool) : Prop := Rd w 1 a len cap (bls zs)
theorem open_bls {H : Type} {enc : TypeId × Value → H} {P : Program} {w : World} {base : Nat} {held : Bool} {t e : TypeId} {a : Option Addr} {len cap : Nat} {d : DataW H} {ps : List MemPlace} (ht : P.underlying t = some (.slice e)) (he : P.underlying e = some .bool) (hc : P.cellsOf e = 1)
    (hd : DataW.Trod enc P w base (fun _ => true) held t (.slice a len cap) d ps) : ∃ zs, IsBools w a len cap zs := by
  obtain ⟨fuel, hf⟩ := hd
  rcases Go.Deep.open_bools ht he hc hf with ⟨hcs, _⟩ | ⟨x, l, c, B, hcs, _, hl, hm, _, hcell⟩
  · simp [Value.cells] at hcs
    obtain ⟨rfl, rfl, rfl⟩ := hcs
    exact ⟨[], rfl, Nat.le_refl _, by simp [maxLen], fun _ => ⟨rfl, rfl⟩, fun h => absurd rfl h⟩
  · simp [Value.cells] at hcs
    obtain ⟨rfl, rfl, rfl⟩ := hcs
    refine ⟨(List.range len).map B, rd_of_cells (by simp [bls]) hl hm (fun i hi => ?_)⟩
    rw [hcell i (by omega)]
    simp [bls, hi]
end Go.Opn
