/- Numbers of Go as bit vectors. -/
import Derived.Test.YtniibdglodnhoaaGreatDoorE
namespace Go.Bv

theorem xor8 (a b : BitVec 8) : Go.bits .xor .u8 (a.toNat : Int) (b.toNat : Int) = ((a ^^^ b).toNat : Int) := by
  rw [u8_xor_nat _ _ a.isLt b.isLt, BitVec.toNat_xor]
theorem xor32 (a b : BitVec 32) : Go.bits .xor .u32 (a.toNat : Int) (b.toNat : Int) = ((a ^^^ b).toNat : Int) := by
  rw [u32_xor_nat _ _ a.isLt b.isLt, BitVec.toNat_xor]
theorem and32 (a b : BitVec 32) : Go.bits .and .u32 (a.toNat : Int) (b.toNat : Int) = ((a &&& b).toNat : Int) := by
  rw [u32_and_nat _ _ a.isLt b.isLt, BitVec.toNat_and]
theorem or32 (a b : BitVec 32) : Go.bits .or .u32 (a.toNat : Int) (b.toNat : Int) = ((a ||| b).toNat : Int) := by
  rw [u32_or_nat _ _ a.isLt b.isLt, BitVec.toNat_or]
theorem xor64 (a b : BitVec 64) : Go.bits .xor .u64 (a.toNat : Int) (b.toNat : Int) = ((a ^^^ b).toNat : Int) := by
  rw [u64_xor_nat _ _ a.isLt b.isLt, BitVec.toNat_xor]
theorem or64 (a b : BitVec 64) : Go.bits .or .u64 (a.toNat : Int) (b.toNat : Int) = ((a ||| b).toNat : Int) := by
  rw [u64_or_nat _ _ a.isLt b.isLt, BitVec.toNat_or]
theorem neg32 (a : BitVec 32) : (-(a.toNat : Int)) % 4294967296 = ((-a).toNat : Int) := by
  have := a.isLt
  rw [BitVec.toNat_neg]
  omega
theorem add32 (a b : BitVec 32) : ((a.toNat : Int) + b.toNat) % 4294967296 = ((a + b).toNat : Int) := by
  rw [BitVec.toNat_add]; omega
theorem sub32 (a b : BitVec 32) : ((a.toNat : Int) - b.toNat) % 4294967296 = ((a - b).toNat : Int) := by
  have := a.isLt
  have := b.isLt
  rw [BitVec.toNat_sub]; omega
theorem mul32 (a b : BitVec 32) : ((a.toNat : Int) * b.toNat) % 4294967296 = ((a * b).toNat : Int) := by
  rw [BitVec.toNat_mul]
  have : ((a.toNat * b.toNat : Nat) : Int) = (a.toNat : Int) * b.toNat := by simp
  omega
theorem shr32 (a : BitVec 32) (n : Nat) : (a.toNat : Int) / ((2 ^ n : Nat) : Int) = ((a >>> n).toNat : Int) := by
  rw [BitVec.toNat_ushiftRight, Nat.shiftRight_eq_div_pow]; exact (Int.natCast_ediv _ _).symm
theorem low8 (a : BitVec 32) : (a.toNat : Int) % 256 = ((a.setWidth 8).toNat : Int) := by
  rw [BitVec.toNat_setWidth]; omega
theorem lt8 (a : BitVec 8) : (a.toNat : Int) < 256 := by have := a.isLt; omega
theorem lt32 (a : BitVec 32) : (a.toNat : Int) < 4294967296 := by have := a.isLt; omega
theorem nn {n : Nat} (a : BitVec n) : (0 : Int) ≤ (a.toNat : Int) := by omega

/-- bytes as values -/
def u8s (b : List (BitVec 8)) : List Value := b.map fun x => .int .u8 (x.toNat : Int)
theorem u8s_length (b : List (BitVec 8)) : (u8s b).length = b.length := by simp [u8s]
theorem u8s_get (b : List (BitVec 8)) (j : Nat) (h : j < b.length) : (u8s b)[j]? = some (.int .u8 (b[j].toNat : Int)) := by
  simp [u8s, h]
theorem u8s_one (b : List (BitVec 8)) : ∀ u ∈ u8s b, u.oneCell' = true := by
  intro u hu
  obtain ⟨x, _, rfl⟩ := List.mem_map.1 hu
  rfl
theorem u8s_append (a b : List (BitVec 8)) : u8s (a ++ b) = u8s a ++ u8s b := by simp [u8s]
theorem u8s_inj {a b : List (BitVec 8)} (h : u8s a = u8s b) : a = b := by
  induction a generalizing b with
  | nil => cases b <;> simp_all [u8s]
  | cons x a ih =>
    cases b with
    | nil => simp [u8s] at h
    | cons y b =>
      simp only [u8s, List.map_cons, List.cons.injEq, Value.int.injEq, true_and] at h
      obtain ⟨h1, h2⟩ := h
      have hxy : x = y := BitVec.eq_of_toNat_eq (by omega)
      rw [hxy, ih (b := b) (by simpa [u8s] using h2)]
theorem u8s_take (b : List (BitVec 8)) (n : Nat) : u8s (b.take n) = (u8s b).take n := by simp [u8s]
theorem u8s_drop (b : List (BitVec 8)) (n : Nat) : u8s (b.drop n) = (u8s b).drop n := by simp [u8s]

/-- a number's octets, the lowest one first -/
def octs4 (s : BitVec 32) : List (BitVec 8) := [s.setWidth 8, (s >>> 8).setWidth 8, (s >>> 16).setWidth 8, (s >>> 24).setWidth 8]
theorem octs4_eq (s : BitVec 32) : u8s (octs4 s) = [.int .u8 ((s.toNat : Int) % 256), .int .u8 ((s.toNat : Int) / 256 % 256), .int .u8 ((s.toNat : Int) / 65536 % 256), .int .u8 ((s.toNat : Int) / 16777216)] := by
  have h0 : (s.toNat : Int) % 256 = ((s.setWidth 8).toNat : Int) := low8 s
  have h1 : (s.toNat : Int) / (256 : Int) % (256 : Int) = (((s >>> 8).setWidth 8).toNat : Int) := by rw [← low8, ← shr32]; rfl
  have h2 : (s.toNat : Int) / (65536 : Int) % (256 : Int) = (((s >>> 16).setWidth 8).toNat : Int) := by rw [← low8, ← shr32]; rfl
  have h3 : (s.toNat : Int) / (16777216 : Int) % (256 : Int) = (((s >>> 24).setWidth 8).toNat : Int) := by rw [← low8, ← shr32]; rfl
  have h4 : (s.toNat : Int) / 16777216 = (s.toNat : Int) / (16777216 : Int) % (256 : Int) := by have := s.isLt; omega
  rw [h4, h0, h1, h2, h3]
  rfl
theorem octs4_length (s : BitVec 32) : (octs4 s).length = 4 := rfl

/-- a string of bytes -/
def strB (b : List (BitVec 8)) : ByteArray := ⟨(b.map fun x => UInt8.ofBitVec x).toArray⟩
theorem strB_inj {a b : List (BitVec 8)} (h : strB a = strB b) : a = b := by
  have h' : a.map (fun x => UInt8.ofBitVec x) = b.map (fun x => UInt8.ofBitVec x) := by
    have := congrArg (fun s => s.data.toList) h
    simpa [strB] using this
  have : ∀ (x y : BitVec 8), UInt8.ofBitVec x = UInt8.ofBitVec y → x = y := fun x y h => by injection h
  exact (List.map_inj_right this).1 h'


/-- a slice of octets that came in -/
theorem rd_of_ints {w : World} {a : Option Addr} {len cap : Nat} {zs : List Int} (h : (a = none ∧ len = 0 ∧ cap = 0 ∧ zs = []) ∨
    ∃ x, a = some x ∧ len ≤ cap ∧ cap ≤ maxLen ∧ zs.length = cap ∧ (∀ i, i < zs.length → w.cell? (x.add i) = some (.int .u8 (zs.getD i 0))) ∧ ∀ n ∈ zs, (Lit.int .u8 n).wf = true) :
    ∃ bs : List (BitVec 8), Go.Own.Rd w 1 a len cap (u8s bs) := by
  rcases h with ⟨rfl, rfl, rfl, rfl⟩ | ⟨x, rfl, hl, hm, hz, hc, hwf⟩
  · exact ⟨[], rfl, Nat.le_refl _, by simp [maxLen], fun _ => ⟨rfl, rfl⟩, fun h => absurd rfl h⟩
  · refine ⟨(zs.take len).map fun z => BitVec.ofNat 8 z.toNat, by simp [u8s]; omega, hl, hm, fun h => by simp at h, fun hne => ?_⟩
    have h0 := hc 0 (by omega)
    rw [Addr.add_zero'] at h0
    have hlt := World.block_lt_of_cell? w x h0
    have hspot : x.spot = none := by
      cases hs : x.spot with
      | none => rfl
      | some s =>
        exfalso
        simp only [World.cell?, hs] at h0
        split at h0 <;> simp at h0
    obtain ⟨b, off, sp⟩ := x
    dsimp only at hspot hlt
    subst hspot
    refine ⟨b, off, rfl, hlt, fun j hj => ?_⟩
    have hj' : j < zs.length := by omega
    have hcj := hc j hj'
    rw [Addr.add_lit] at hcj
    rw [hcj]
    have hw : zs[j] ∈ zs := List.getElem_mem hj'
    have hb := hwf _ hw
    have hb' : 0 ≤ zs[j] ∧ zs[j] < 256 := by
      simp [Lit.wf, IntKind.min, IntKind.max, IntKind.signed, IntKind.bits] at hb
      omega
    have e : (u8s ((zs.take len).map fun z => BitVec.ofNat 8 z.toNat))[j]? = some (.int .u8 (((BitVec.ofNat 8 zs[j].toNat).toNat : Nat) : Int)) := by
      simp [u8s, hj', show j < len by omega]
    rw [e]
    have : zs.getD j 0 = zs[j] := by simp [List.getD, hj']
    rw [this]
    congr 2
    rw [BitVec.toNat_ofNat]
    omega


/-- a list that is filled from its beginning on -/
def fillK {α : Type} (X : List α) (z : α) (k : Nat) : List α := X.take k ++ List.replicate (X.length - k) z
theorem fillK_zero {α : Type} (X : List α) (z : α) : fillK X z 0 = List.replicate X.length z := by simp [fillK]
theorem fillK_all {α : Type} (X : List α) (z : α) : fillK X z X.length = X := by simp [fillK]
theorem fillK_set {α : Type} (X : List α) (z v : α) (k : Nat) (h : X[k]? = some v) : (fillK X z k).set k v = fillK X z (k + 1) := by
  have hk : k < X.length := (List.getElem?_eq_some_iff.1 h).1
  have hv : X[k] = v := (List.getElem?_eq_some_iff.1 h).2
  unfold fillK
  apply List.ext_getElem
  · simp; omega
  · intro i h1 h2
    simp only [List.length_set, List.length_append, List.length_take, List.length_replicate] at h1 h2
    rw [List.getElem_set]
    by_cases hik : k = i
    · subst hik
      rw [if_pos rfl, List.getElem_append_left (by simp; omega)]
      simp [hv]
    · rw [if_neg hik]
      by_cases hlt : i < k
      · rw [List.getElem_append_left (by simp; omega), List.getElem_append_left (by simp; omega)]
        simp
      · rw [List.getElem_append_right (by simp; omega), List.getElem_append_right (by simp; omega)]
        simp
theorem fillK_length {α : Type} (X : List α) (z : α) (k : Nat) (h : k ≤ X.length) : (fillK X z k).length = X.length := by
  simp [fillK]; omega
theorem made_u8 (n : Nat) : (madeCells (Value.int .u8 0).cells (n * 1)).toList = List.replicate n (Value.int .u8 0) := by
  rw [Nat.mul_one]; exact toList_madeCells_one _ n
theorem xor8_3 (x y z : BitVec 8) : ∃ u v : BitVec 8, Go.bits .xor .u8 (x.toNat : Int) (y.toNat : Int) = (u.toNat : Int) ∧ Go.bits .xor .u8 (u.toNat : Int) (z.toNat : Int) = (v.toNat : Int) ∧ v = x ^^^ y ^^^ z :=
  ⟨_, _, xor8 x y, xor8 _ z, rfl⟩


theorem bv8_of_wf {a : Int} (h : (Lit.int .u8 a).wf = true) : ∃ c : BitVec 8, a = (c.toNat : Int) := by
  have hb : 0 ≤ a ∧ a < 256 := by
    simp [Lit.wf, IntKind.min, IntKind.max, IntKind.signed, IntKind.bits] at h; omega
  exact ⟨BitVec.ofNat 8 a.toNat, by rw [BitVec.toNat_ofNat]; omega⟩
theorem bv32_of_wf {a : Int} (h : (Lit.int .u32 a).wf = true) : ∃ c : BitVec 32, a = (c.toNat : Int) := by
  have hb : 0 ≤ a ∧ a < 4294967296 := by
    simp [Lit.wf, IntKind.min, IntKind.max, IntKind.signed, IntKind.bits] at h; omega
  exact ⟨BitVec.ofNat 32 a.toNat, by rw [BitVec.toNat_ofNat]; omega⟩
theorem bv64_of_wf {a : Int} (h : (Lit.int .u64 a).wf = true) : ∃ c : BitVec 64, a = (c.toNat : Int) := by
  have hb : 0 ≤ a ∧ a < 18446744073709551616 := by
    simp [Lit.wf, IntKind.min, IntKind.max, IntKind.signed, IntKind.bits] at h; omega
  exact ⟨BitVec.ofNat 64 a.toNat, by rw [BitVec.toNat_ofNat]; omega⟩

end Go.Bv
