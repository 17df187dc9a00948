/- What comes in, opened: a ring, a box, a slice of texts. -/
import Derived.Test.YtniibdglodnhoaaGreatDoorRows
import Derived.Test.YtniibdglodnhoaaGreatDoorW
import Derived.Test.YtniibdglodnhoaaGreatDoorE
import Derived.Test.YtniibdglodnhoaaGreatDoorI
import Derived.ChangeSame
import Derived.Deep.Strs
import Derived.Deep.Slices
namespace Go.Proofs.YtniibdglodnhoaaGreatDoor
open Go.ChangeShapes Go.WideShapes Go.ChangeAt Go.RowKit Go.Opn Go.Deep
variable {H : Type} {enc : TypeId × Value → H} {w : World} {base b0 : Nat} {r : Reach} {sp : Nat → Bool} {held : Bool}

theorem cW4 : Tryz.prog.cellsOf 24 = 4 := by kernel_rfl
theorem cU64 : Tryz.prog.cellsOf 25 = 1 := by kernel_rfl
theorem cSl : Tryz.prog.cellsOf 29 = 1 := by kernel_rfl
theorem open_w4 {c0 c1 c2 c3 : Value} {fuel : Nat} {x : DataW H × List MemPlace} (h : DataW.trod enc Tryz.prog w base sp held fuel 24 [c0, c1, c2, c3] = some x) :
    ∃ x0 x1 x2 x3 : BitVec 32, c0 = .int .u32 (x0.toNat : Int) ∧ c1 = .int .u32 (x1.toNat : Int) ∧ c2 = .int .u32 (x2.toNat : Int) ∧ c3 = .int .u32 (x3.toNat : Int) := by
  obtain ⟨y0, y1, y2, y3, m, hx, hy0, hy1, hy2, hy3⟩ := trod_array4 Tryz.underlying24 (by kernel_rfl) h
  obtain ⟨x0, e0, rfl, w0⟩ := DataW.trod_int Tryz.underlying22 hy0
  obtain ⟨x1, e1, rfl, w1⟩ := DataW.trod_int Tryz.underlying22 hy1
  obtain ⟨x2, e2, rfl, w2⟩ := DataW.trod_int Tryz.underlying22 hy2
  obtain ⟨x3, e3, rfl, w3⟩ := DataW.trod_int Tryz.underlying22 hy3
  simp at e0 e1 e2 e3
  subst e0 e1 e2 e3
  obtain ⟨z0, rfl⟩ := Go.Bv.bv32_of_wf w0
  obtain ⟨z1, rfl⟩ := Go.Bv.bv32_of_wf w1
  obtain ⟨z2, rfl⟩ := Go.Bv.bv32_of_wf w2
  obtain ⟨z3, rfl⟩ := Go.Bv.bv32_of_wf w3
  exact ⟨z0, z1, z2, z3, rfl, rfl, rfl, rfl⟩
set_option maxRecDepth 100000 in
theorem open_ring {v : Value} {d : DataW H} {ps : List MemPlace} (hval : Value.okWide Tryz.prog w r b0 27 v) (hd : DataW.Trod enc Tryz.prog w base sp held 27 v d ps) :
    ∃ (x0 x1 x2 x3 : BitVec 32) (n : BitVec 64), v = .agg #[.int .u32 (x0.toNat : Int), .int .u32 (x1.toNat : Int), .int .u32 (x2.toNat : Int), .int .u32 (x3.toNat : Int), .int .u64 (n.toNat : Int)] := by
  obtain ⟨cs, rfl, hsz⟩ := okWide_struct Tryz.underlying27 hval
  have hC : Tryz.prog.cellsOf 27 = 5 := by kernel_rfl
  rw [hC] at hsz
  obtain ⟨l⟩ := cs
  match l, hsz with
  | [c0, c1, c2, c3, c4], _ =>
    obtain ⟨fuel, hf⟩ := hd
    obtain ⟨y0, y1, m, _, _, h0, h1⟩ := trod_struct2 Tryz.underlying27 hf
    simp [Value.cells, cW4, cU64] at h0 h1
    obtain ⟨z0, z1, z2, z3, rfl, rfl, rfl, rfl⟩ := open_w4 h0
    obtain ⟨n, e, rfl, wn⟩ := DataW.trod_int Tryz.underlying25 h1
    simp at e
    subst e
    obtain ⟨z, rfl⟩ := Go.Bv.bv64_of_wf wn
    exact ⟨z0, z1, z2, z3, z, rfl⟩
set_option maxRecDepth 100000 in
theorem open_box {v : Value} {d : DataW H} {ps : List MemPlace} (hval : Value.okWide Tryz.prog w r b0 54 v) (hd : DataW.Trod enc Tryz.prog w base (fun _ => true) held 54 v d ps) :
    ∃ (n : BitVec 64) (a : Option Addr) (len cap : Nat) (z : List Int) (x0 x1 x2 x3 : BitVec 32), v = .agg #[.int .u64 (n.toNat : Int), .slice a len cap, .int .u32 (x0.toNat : Int), .int .u32 (x1.toNat : Int), .int .u32 (x2.toNat : Int), .int .u32 (x3.toNat : Int)] ∧ IsRow .u8 w a len cap z := by
  obtain ⟨cs, rfl, hsz⟩ := okWide_struct Tryz.underlying54 hval
  have hC : Tryz.prog.cellsOf 54 = 6 := by kernel_rfl
  rw [hC] at hsz
  obtain ⟨l⟩ := cs
  match l, hsz with
  | [c0, c1, c2, c3, c4, c5], _ =>
    obtain ⟨fuel, hf⟩ := hd
    obtain ⟨y0, y1, y2, m, _, _, h0, h1, h2⟩ := trod_struct3 Tryz.underlying54 hf
    simp [Value.cells, cW4, cU64, cSl] at h0 h1 h2
    obtain ⟨z0, z1, z2, z3, rfl, rfl, rfl, rfl⟩ := open_w4 h2
    obtain ⟨n, e, rfl, wn⟩ := DataW.trod_int Tryz.underlying25 h0
    simp at e
    subst e
    obtain ⟨z, rfl⟩ := Go.Bv.bv64_of_wf wn
    rcases open_ints Tryz.underlying29 Tryz.underlying5 (by kernel_rfl) h1 with ⟨hcs, _⟩ | ⟨x, l, c, zs, hcs, _, hl, hm, hz, _, hcell, hwz⟩
    · simp at hcs
      subst hcs
      exact ⟨z, none, 0, 0, [], z0, z1, z2, z3, rfl, .inl ⟨rfl, rfl, rfl, rfl⟩⟩
    · simp at hcs
      subst hcs
      exact ⟨z, some x, l, c, zs, z0, z1, z2, z3, rfl, .inr ⟨_, rfl, hl, hm, by simpa using hz, hcell, hwz⟩⟩
/-- a text that lies in a slice -/
structure Tb where
  a : Option Addr
  n : Nat
  c : Nat
  b : List (BitVec 8)
def Tb.v (x : Tb) : Value := .slice x.a x.n x.c
def IsRows (w : World) (a : Option Addr) (len cap : Nat) : Prop :=
  ∃ ss : List Tb, Go.Own.Rd w 1 a len cap (ss.map Tb.v) ∧ ∀ x ∈ ss, Go.Own.Rd w 1 x.a x.n x.c (Go.Bv.u8s x.b)
theorem list_of_each {α : Type} {Q : Nat → α → Prop} : ∀ n, (∀ i, i < n → ∃ x, Q i x) → ∃ l : List α, l.length = n ∧ ∀ i (h : i < l.length), Q i l[i]
  | 0, _ => ⟨[], rfl, fun i h => absurd h (Nat.not_lt_zero i)⟩
  | n + 1, h => by
    obtain ⟨l, hl, hq⟩ := list_of_each n (fun i hi => h i (by omega))
    obtain ⟨x, hx⟩ := h n (by omega)
    refine ⟨l ++ [x], by simp [hl], fun i hi => ?_⟩
    by_cases hi' : i < l.length
    · rw [List.getElem_append_left hi']; exact hq i hi'
    · have : i = n := by simp at hi; omega
      subst this
      rw [List.getElem_append_right (by omega)]
      simpa [hl] using hx
set_option maxRecDepth 100000 in
theorem open_rows {a : Option Addr} {len cap : Nat} {d : DataW H} {ps : List MemPlace} (_hval : Value.okWide Tryz.prog w r b0 28 (.slice a len cap)) (hd : DataW.Trod enc Tryz.prog w base (fun _ => true) held 28 (.slice a len cap) d ps) : IsRows w a len cap := by
  obtain ⟨fuel, hf⟩ := hd
  rcases open_slice Tryz.underlying28 hf with ⟨hcs, _⟩ | ⟨x, l, c, m, n, D, Pl, hcs, _, hl, hm, hmm, _, hi⟩
  · simp [Value.cells] at hcs
    obtain ⟨rfl, rfl, rfl⟩ := hcs
    exact ⟨[], ⟨rfl, Nat.le_refl _, by simp [maxLen], fun _ => ⟨rfl, rfl⟩, fun h => absurd rfl h⟩, by simp⟩
  · simp [Value.cells] at hcs
    obtain ⟨rfl, rfl, rfl⟩ := hcs
    have hmc : m = cap := by simpa using hmm
    have each : ∀ i, i < len → ∃ t : Tb, w.cell? (x.add i) = some t.v ∧ Go.Own.Rd w 1 t.a t.n t.c (Go.Bv.u8s t.b) := fun i hil => by
      obtain ⟨cs', hc, ht⟩ := hi i (by omega)
      rw [cSl, Nat.mul_one] at hc
      obtain ⟨_, hcl, hat⟩ := World.cells?_some hc
      have h0 := hat 0 (by omega)
      match cs', hcl with
      | [v], _ =>
        rw [Addr.add_zero'] at h0
        rcases open_ints Tryz.underlying29 Tryz.underlying5 (by kernel_rfl) ht with ⟨hcs, _⟩ | ⟨y, l, c, zs, hcs, _, hl, hm, hz, _, hcell, hwz⟩
        · simp at hcs
          subst hcs
          exact ⟨⟨none, 0, 0, []⟩, by simpa [Tb.v] using h0, ⟨rfl, Nat.le_refl _, by simp [maxLen], fun _ => ⟨rfl, rfl⟩, fun h => absurd rfl h⟩⟩
        · simp at hcs
          subst hcs
          obtain ⟨bs, hb⟩ := Go.Bv.rd_of_ints (w := w) (a := some y) (len := l) (cap := c) (zs := zs) (.inr ⟨_, rfl, hl, hm, by simpa using hz, hcell, hwz⟩)
          exact ⟨⟨some y, l, c, bs⟩, by simpa [Tb.v] using h0, hb⟩
    obtain ⟨ss, hsl, hq⟩ := list_of_each len each
    refine ⟨ss, Go.Opn.rd_of_cells (by simp [hsl]) hl hm (fun i hil => ?_), fun t ht => ?_⟩
    · rw [(hq i (by omega)).1]
      simp [show i < ss.length by omega]
    · obtain ⟨i, hi', e⟩ := List.getElem_of_mem ht
      rw [← e]
      exact (hq i hi').2
end Go.Proofs.YtniibdglodnhoaaGreatDoor
