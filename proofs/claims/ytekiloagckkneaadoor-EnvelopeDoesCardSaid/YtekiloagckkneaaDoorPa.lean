/- A text absorbed, octets squeezed out. No program in sight. -/
import Derived.Test.YtekiloagckkneaaDoorPn
namespace Go.Proofs.YtekiloagckkneaaDoor
open Go.RowKit Go.Own Go.Bv Go.Eq

/-- what is at a place of a text, its end and zeros behind it -/
def byteAt (b : List (BitVec 8)) (j : Nat) : BitVec 8 := if j < b.length then b.getD j 0 else if j = b.length then 128 else 0
theorem byteAt_lt {b : List (BitVec 8)} {j : Nat} (h : j < b.length) : byteAt b j = b[j] := by
  unfold byteAt; rw [if_pos h]; simp [h]
theorem byteAt_eq (b : List (BitVec 8)) : byteAt b b.length = 128 := by simp [byteAt]
theorem byteAt_gt {b : List (BitVec 8)} {j : Nat} (h : b.length < j) : byteAt b j = 0 := by
  unfold byteAt; rw [if_neg (by omega), if_neg (by omega)]
theorem byteAt_drop {b : List (BitVec 8)} (n j : Nat) (h : n ≤ b.length) : byteAt (b.drop n) j = byteAt b (n + j) := by
  unfold byteAt
  rw [List.length_drop]
  by_cases h1 : j < b.length - n
  · rw [if_pos h1, if_pos (show n + j < b.length by omega)]; simp
  · rw [if_neg h1, if_neg (show ¬ n + j < b.length by omega)]
    by_cases h2 : j = b.length - n
    · rw [if_pos h2, if_pos (show n + j = b.length by omega)]
    · rw [if_neg h2, if_neg (show ¬ n + j = b.length by omega)]

namespace St
/-- one octet taken in, the k'th of eight -/
def xput (s : St) (k : Nat) (c : BitVec 8) : St :=
  if k < 4 then { s with a := s.a ^^^ c.setWidth 32 <<< (k % 4 * 8) } else { s with b := s.b ^^^ c.setWidth 32 <<< (k % 4 * 8) }
/-- so many of eight octets from a place on -/
def mixK (s : St) (b : List (BitVec 8)) (at_ : Nat) : Nat → St
  | 0 => s
  | k + 1 => (mixK s b at_ k).xput k (byteAt b (at_ + k))
def mixAt (s : St) (b : List (BitVec 8)) (at_ : Nat) : St := mixK s b at_ 8
def blk4 (x y z t : BitVec 8) : BitVec 32 := of4 x y z t
theorem mixAt_eq (s : St) (b : List (BitVec 8)) (p : Nat) : mixAt s b p =
    { s with a := s.a ^^^ of4 (byteAt b p) (byteAt b (p + 1)) (byteAt b (p + 2)) (byteAt b (p + 3)), b := s.b ^^^ of4 (byteAt b (p + 4)) (byteAt b (p + 5)) (byteAt b (p + 6)) (byteAt b (p + 7)) } := by
  have key : ∀ (v : BitVec 32) (x y z t : BitVec 8), (((v ^^^ x.setWidth 32 <<< 0) ^^^ y.setWidth 32 <<< 8) ^^^ z.setWidth 32 <<< 16) ^^^ t.setWidth 32 <<< 24 = v ^^^ of4 x y z t := by
    intro v x y z t
    unfold of4
    apply BitVec.eq_of_getLsbD_eq
    intro i hi
    simp only [BitVec.getLsbD_xor, BitVec.getLsbD_setWidth, BitVec.getLsbD_or, BitVec.getLsbD_shiftLeft, hi, decide_true, Bool.true_and]
    have e : ∀ (u : BitVec 8) (j : Nat), 8 ≤ j → u.getLsbD j = false := fun u j hj => BitVec.getLsbD_of_ge u j hj
    by_cases h1 : i < 8
    · simp [h1, show i < 16 by omega, show i < 24 by omega, hi]
    · by_cases h2 : i < 16
      · simp [h1, h2, e x i (by omega), show i < 24 by omega, show i - 8 < 32 by omega, hi]
      · by_cases h3 : i < 24
        · simp [h1, h2, h3, e x i (by omega), e y (i - 8) (by omega), hi, show i - 16 < 32 by omega]
        · simp [h1, h2, h3, e x i (by omega), e y (i - 8) (by omega), e z (i - 16) (by omega), hi]
  simp only [mixAt, mixK, xput]
  simp only [show (0 : Nat) < 4 from by decide, show (1 : Nat) < 4 from by decide, show (2 : Nat) < 4 from by decide, show (3 : Nat) < 4 from by decide, show ¬ (4 : Nat) < 4 from by decide, show ¬ (5 : Nat) < 4 from by decide, show ¬ (6 : Nat) < 4 from by decide, show ¬ (7 : Nat) < 4 from by decide, if_true, if_false]
  have k1 := key s.a (byteAt b (p + 0)) (byteAt b (p + 1)) (byteAt b (p + 2)) (byteAt b (p + 3))
  have k2 := key s.b (byteAt b (p + 4)) (byteAt b (p + 5)) (byteAt b (p + 6)) (byteAt b (p + 7))
  simp only [Nat.reduceMod, Nat.reduceMul] at k1 k2 ⊢
  simp only [Nat.add_zero] at k1 k2 ⊢
  rw [k1, k2]

/-- so many blocks absorbed -/
def absK (s : St) (b : List (BitVec 8)) : Nat → St
  | 0 => s
  | k + 1 => (mixAt (absK s b k) b (8 * k)).perm
def absorb (s : St) (b : List (BitVec 8)) : St := absK s b (b.length / 8 + 1)

theorem mixAt_inj {s t : St} {b : List (BitVec 8)} {p : Nat} (h : mixAt s b p = mixAt t b p) : s = t := by
  rw [mixAt_eq, mixAt_eq] at h
  simp only [St.mk.injEq] at h
  obtain ⟨h1, h2, h3, h4⟩ := h
  have c1 := congrArg (· ^^^ of4 (byteAt b p) (byteAt b (p + 1)) (byteAt b (p + 2)) (byteAt b (p + 3))) h1
  have c2 := congrArg (· ^^^ of4 (byteAt b (p + 4)) (byteAt b (p + 5)) (byteAt b (p + 6)) (byteAt b (p + 7))) h2
  simp only [xx] at c1 c2
  cases s; cases t; simp_all
theorem absK_inj {s t : St} {b : List (BitVec 8)} : ∀ {k : Nat}, absK s b k = absK t b k → s = t
  | 0, h => h
  | k + 1, h => absK_inj (mixAt_inj (perm_inj h))
theorem absorb_inj {s t : St} {b : List (BitVec 8)} (h : absorb s b = absorb t b) : s = t := absK_inj h

theorem absK_drop (s : St) (b : List (BitVec 8)) (h : 8 ≤ b.length) : ∀ k, absK s b (k + 1) = absK (mixAt s b 0).perm (b.drop 8) k
  | 0 => rfl
  | k + 1 => by
    show (mixAt (absK s b (k + 1)) b (8 * (k + 1))).perm = (mixAt (absK (mixAt s b 0).perm (b.drop 8) k) (b.drop 8) (8 * k)).perm
    rw [absK_drop s b h k]
    generalize absK (mixAt s b 0).perm (b.drop 8) k = u
    rw [mixAt_eq u b, mixAt_eq u (b.drop 8)]
    have e : ∀ j, byteAt (b.drop 8) (8 * k + j) = byteAt b (8 * (k + 1) + j) := fun j => by
      rw [byteAt_drop _ _ h, show 8 + (8 * k + j) = 8 * (k + 1) + j by omega]
    have e0 := e 0
    simp only [Nat.add_zero] at e0
    rw [e0, e 1, e 2, e 3, e 4, e 5, e 6, e 7]
theorem absorb_drop (s : St) (b : List (BitVec 8)) (h : 8 ≤ b.length) : absorb s b = absorb (mixAt s b 0).perm (b.drop 8) := by
  unfold absorb
  rw [absK_drop s b h, List.length_drop, show (b.length - 8) / 8 + 1 = b.length / 8 by omega]

theorem octs4_inj' {x y : BitVec 32} (h : octs4 x = octs4 y) : x = y := by
  unfold octs4 at h
  simp only [List.cons.injEq, and_true] at h
  obtain ⟨h0, h1, h2, h3⟩ := h
  rw [← of4_octs4 x, ← of4_octs4 y, h0, h1, h2, h3]
theorem of4_inj {x y z t x' y' z' t' : BitVec 8} (h : of4 x y z t = of4 x' y' z' t') : x = x' ∧ y = y' ∧ z = z' ∧ t = t' := by
  have := congrArg octs4 h
  rw [octs4_of4, octs4_of4] at this
  simpa using this

theorem bytes_inj {b c : List (BitVec 8)} (hb : b.length < 8) (hc : c.length < 8) (h : ∀ j, j < 8 → byteAt b j = byteAt c j) : b = c := by
  have hl : b.length = c.length := by
    have aux : ∀ {b c : List (BitVec 8)}, c.length < 8 → (∀ j, j < 8 → byteAt b j = byteAt c j) → ¬ b.length < c.length := by
      intro b c hc h hlt
      have := h c.length hc
      rw [byteAt_eq, byteAt_gt hlt] at this
      exact absurd this (by decide)
    have h1 := aux (b := b) (c := c) hc h
    have h2 := aux (b := c) (c := b) hb (fun j hj => (h j hj).symm)
    omega
  apply List.ext_getElem hl
  intro i h1 h2
  have := h i (by omega)
  rwa [byteAt_lt h1, byteAt_lt h2] at this
theorem absorb_short {s : St} {b c : List (BitVec 8)} (hb : b.length < 8) (hc : c.length < 8) (h : absorb s b = absorb s c) : b = c := by
  have e : ∀ d : List (BitVec 8), d.length < 8 → absorb s d = (mixAt s d 0).perm := by
    intro d hd
    unfold absorb
    rw [show d.length / 8 + 1 = 1 by omega]
    rfl
  rw [e b hb, e c hc] at h
  have h := perm_inj h
  rw [mixAt_eq, mixAt_eq] at h
  simp only [St.mk.injEq] at h
  obtain ⟨h1, h2, _, _⟩ := h
  have c1 := congrArg (s.a ^^^ ·) h1
  have c2 := congrArg (s.b ^^^ ·) h2
  simp only [← BitVec.xor_assoc, BitVec.xor_self, BitVec.zero_xor, Nat.zero_add] at c1 c2
  obtain ⟨a0, a1, a2, a3⟩ := of4_inj c1
  obtain ⟨a4, a5, a6, a7⟩ := of4_inj c2
  refine bytes_inj hb hc fun j hj => ?_
  obtain rfl | rfl | rfl | rfl | rfl | rfl | rfl | rfl : j = 0 ∨ j = 1 ∨ j = 2 ∨ j = 3 ∨ j = 4 ∨ j = 5 ∨ j = 6 ∨ j = 7 := by omega
  all_goals assumption

/-- permuted so often -/
def permN : Nat → St → St
  | 0, s => s
  | k + 1, s => (permN k s).perm
theorem permN_succ : ∀ (k : Nat) (s : St), permN (k + 1) s = permN k s.perm
  | 0, _ => rfl
  | k + 1, s => by
    show (permN (k + 1) s).perm = (permN k s.perm).perm
    rw [permN_succ k s]
/-- what comes of so many eights -/
def sqK (s : St) : Nat → List (BitVec 8)
  | 0 => []
  | k + 1 => sqK s k ++ (octs4 (permN k s).a ++ octs4 (permN k s).b)
theorem sqK_length (s : St) : ∀ k, (sqK s k).length = 8 * k
  | 0 => rfl
  | k + 1 => by simp [sqK, sqK_length s k, octs4_length]; omega
theorem sqK_succ (s : St) : ∀ k, sqK s (k + 1) = (octs4 s.a ++ octs4 s.b) ++ sqK s.perm k
  | 0 => by simp [sqK, permN]
  | k + 1 => by
    show sqK s (k + 1) ++ (octs4 (permN (k + 1) s).a ++ octs4 (permN (k + 1) s).b) = _
    rw [sqK_succ s k, permN_succ]
    simp [sqK]
theorem sqK_add (s : St) (k j : Nat) : ∃ r, sqK s (k + j) = sqK s k ++ r := by
  induction j with
  | zero => exact ⟨[], by simp⟩
  | succ j ih =>
    obtain ⟨r, hr⟩ := ih
    exact ⟨r ++ (octs4 (permN (k + j) s).a ++ octs4 (permN (k + j) s).b), by show sqK s (k + j) ++ (octs4 (permN (k + j) s).a ++ octs4 (permN (k + j) s).b) = _; rw [hr, List.append_assoc]⟩
def squeeze (s : St) (n : Nat) : List (BitVec 8) := (sqK s ((n + 7) / 8)).take n
theorem squeeze_length (s : St) (n : Nat) : (squeeze s n).length = n := by
  unfold squeeze; rw [List.length_take, sqK_length]; omega
theorem squeeze_of (s : St) {n k : Nat} (h : n ≤ 8 * k) : squeeze s n = (sqK s k).take n := by
  unfold squeeze
  obtain ⟨r, hr⟩ := sqK_add s ((n + 7) / 8) (k - (n + 7) / 8)
  rw [show (n + 7) / 8 + (k - (n + 7) / 8) = k by omega] at hr
  rw [hr, List.take_append_of_le_length (by rw [sqK_length]; omega)]
theorem squeeze_take (s : St) (n m : Nat) : (squeeze s (n + m)).take n = squeeze s n := by
  rw [squeeze_of s (n := n) (k := (n + m + 7) / 8) (by omega)]
  unfold squeeze
  rw [List.take_take, Nat.min_eq_left (by omega)]
theorem squeeze_drop (s : St) (n : Nat) : (squeeze s (n + 8)).drop 8 = squeeze s.perm n := by
  rw [squeeze_of s (n := n + 8) (k := (n + 7) / 8 + 1) (by omega), sqK_succ, List.drop_take, List.drop_left' (by simp [octs4_length])]
  rfl
end St
end Go.Proofs.YtekiloagckkneaaDoor
