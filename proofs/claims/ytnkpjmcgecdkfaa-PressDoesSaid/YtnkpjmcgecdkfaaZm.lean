/- Tokens as bits, plain. No program in sight. -/
import Derived.Test.YtnkpjmcgecdkfaaMx
import Derived.Test.YtnkpjmcgecdkfaaKl
namespace Go.Pz
open Go.Pb Go.Mt

/-- a number's bits by a tree: N is the number with a one ahead of its bits; the last k of them -/
def numT (N tree : Nat) : Nat → List Bt
  | 0 => []
  | k + 1 => ⟨((tree + N / 2 ^ (k + 1) : Nat) : Int), decide (N / 2 ^ k % 2 = 1)⟩ :: numT N tree k
theorem numT_length (N tree : Nat) : ∀ k, (numT N tree k).length = k
  | 0 => rfl
  | k + 1 => by simp [numT, numT_length N tree k]
theorem numT_at {N tree w : Nat} (hN : N < 2 ^ (w + 1)) (hN2 : 2 ^ w ≤ N) : ∀ k, k ≤ w → ∀ x ∈ numT N tree k, (tree : Int) + 1 ≤ x.at_ ∧ x.at_ < (tree : Int) + 2 ^ w
  | 0, _, x, hx => by cases hx
  | k + 1, hk, x, hx => by
    rcases List.mem_cons.1 hx with rfl | hx
    · have h1 : N / 2 ^ (k + 1) < 2 ^ w := by
        rw [Nat.div_lt_iff_lt_mul (Nat.pow_pos (by decide)), ← Nat.pow_add]
        exact Nat.lt_of_lt_of_le hN (Nat.pow_le_pow_right (by decide) (by omega))
      have h2 : 1 ≤ N / 2 ^ (k + 1) := by
        rw [Nat.le_div_iff_mul_le (Nat.pow_pos (by decide)), Nat.one_mul]
        exact Nat.le_trans (Nat.pow_le_pow_right (by decide) hk) hN2
      dsimp only
      refine ⟨by omega, ?_⟩
      have : ((N / 2 ^ (k + 1) : Nat) : Int) < ((2 ^ w : Nat) : Int) := by exact_mod_cast h1
      push_cast at this ⊢
      omega
    · exact numT_at hN hN2 k (by omega) x hx
def bitsOf (t : Tok) : List Bt := if t.len = 0 then ⟨0, false⟩ :: numT (256 + t.lit.toNat) 0 8 else ⟨0, true⟩ :: (numT (16 + (t.len - 3).toNat) 256 4 ++ numT (256 + (t.dist - 1).toNat) 272 8)
def bitsAll (l : List Tok) : List Bt := l.flatMap bitsOf
theorem bitsAll_append (l r : List Tok) : bitsAll (l ++ r) = bitsAll l ++ bitsAll r := by simp [bitsAll]
theorem bitsAll_next {l : List Tok} {k : Nat} (h : k < l.length) : bitsAll (l.take (k + 1)) = bitsAll (l.take k) ++ bitsOf l[k] := by
  rw [take_succ' h, bitsAll_append]; simp [bitsAll]
theorem bitsOf_length (t : Tok) : (bitsOf t).length = if t.len = 0 then 9 else 13 := by
  unfold bitsOf
  split
  · rw [List.length_cons, numT_length]
  · rw [List.length_cons, List.length_append, numT_length, numT_length]
theorem bitsAll_length_le (l : List Tok) : (bitsAll l).length ≤ 13 * l.length := by
  induction l with
  | nil => simp [bitsAll]
  | cons t r ih =>
    have : bitsAll (t :: r) = bitsOf t ++ bitsAll r := by simp [bitsAll]
    rw [this, List.length_append, bitsOf_length, List.length_cons]
    split <;> omega
/-! ### the length ahead -/
def le4 (n : Nat) : List (BitVec 8) := [BitVec.ofNat 8 n, BitVec.ofNat 8 (n / 256), BitVec.ofNat 8 (n / 65536), BitVec.ofNat 8 (n / 16777216)]
def packT (b : List (BitVec 8)) : List (BitVec 8) := le4 b.length ++ Go.Kc.encT 528 (Go.Kc.prs (bitsAll (tokens b)))
def lg4 (b : List (BitVec 8)) : Nat := (b.getD 0 0).toNat + 256 * (b.getD 1 0).toNat + 65536 * (b.getD 2 0).toNat + 16777216 * (b.getD 3 0).toNat
def longE (b : List (BitVec 8)) : Int := if b.length < 9 then 2 else if 65536 < lg4 b then 2 else 0
def longV (b : List (BitVec 8)) : Nat := if b.length < 9 then 0 else if 65536 < lg4 b then 0 else lg4 b
theorem or_i64 (a b s : Nat) (ha : a < 2 ^ s) (hs : s ≤ 24) (hb : b < 256) : Go.bits .or .i64 (a : Int) ((b * 2 ^ s : Nat) : Int) = ((a + b * 2 ^ s : Nat) : Int) := by
  have hp : 2 ^ s ≤ 16777216 := Nat.le_trans (Nat.pow_le_pow_right (by decide) hs) (by decide)
  have hbs : b * 2 ^ s ≤ 256 * 16777216 := Nat.mul_le_mul (by omega) hp
  have h1 : (BitVec.ofInt 64 (a : Int)).toNat = a := by
    rw [BitVec.ofInt_natCast, BitVec.toNat_ofNat]; exact Nat.mod_eq_of_lt (by omega)
  have h2 : (BitVec.ofInt 64 ((b * 2 ^ s : Nat) : Int)).toNat = b * 2 ^ s := by
    rw [BitVec.ofInt_natCast, BitVec.toNat_ofNat]; exact Nat.mod_eq_of_lt (by omega)
  show IntKind.i64.wrap ((BitVec.ofInt 64 (a : Int) ||| BitVec.ofInt 64 ((b * 2 ^ s : Nat) : Int)).toNat : Int) = _
  rw [BitVec.toNat_or, h1, h2, ← Nat.shiftLeft_eq, Nat.or_comm, ← Nat.shiftLeft_add_eq_or_of_lt ha, Nat.shiftLeft_eq, IntKind.wrap_i64]
  omega
theorem bits_within {m : Nat} : ∀ {l : List Tok}, okFrom m l → ∀ x ∈ bitsAll l, 0 ≤ x.at_ ∧ x.at_ < 528 := by
  intro l
  induction l generalizing m with
  | nil => intro _ x hx; simp [bitsAll] at hx
  | cons t r ih =>
    intro h x hx
    have e : bitsAll (t :: r) = bitsOf t ++ bitsAll r := by simp [bitsAll]
    rw [e] at hx
    rcases List.mem_append.1 hx with hx | hx
    · have ht := h.1
      unfold bitsOf at hx
      split at hx
      · rcases List.mem_cons.1 hx with rfl | hx
        · exact ⟨by decide, by decide⟩
        · have hl := t.lit.isLt
          have := numT_at (N := 256 + t.lit.toNat) (tree := 0) (w := 8) (by omega) (by omega) 8 (by omega) x hx
          have e8 : ((2 : Int) ^ 8) = 256 := by decide
          omega
      · rename_i h0
        have hk : 3 ≤ t.len ∧ t.len ≤ 18 ∧ 1 ≤ t.dist ∧ t.dist ≤ 256 := by
          unfold Tok.ok at ht; omega
        rcases List.mem_cons.1 hx with rfl | hx
        · exact ⟨by decide, by decide⟩
        · rcases List.mem_append.1 hx with hx | hx
          · have := numT_at (N := 16 + (t.len - 3).toNat) (tree := 256) (w := 4) (by omega) (by omega) 4 (by omega) x hx
            have e8 : ((2 : Int) ^ 4) = 16 := by decide
            omega
          · have := numT_at (N := 256 + (t.dist - 1).toNat) (tree := 272) (w := 8) (by omega) (by omega) 8 (by omega) x hx
            have e8 : ((2 : Int) ^ 8) = 256 := by decide
            omega
    · exact ih h.2 x hx
theorem and1_i64 (a : Nat) (ha : a < 9223372036854775808) : Go.bits .and .i64 (a : Int) 1 = ((a % 2 : Nat) : Int) := by
  have h1 : (BitVec.ofInt 64 (a : Int)).toNat = a := by
    rw [BitVec.ofInt_natCast, BitVec.toNat_ofNat]; exact Nat.mod_eq_of_lt (by omega)
  show IntKind.i64.wrap ((BitVec.ofInt 64 (a : Int) &&& BitVec.ofInt 64 1).toNat : Int) = _
  rw [BitVec.toNat_and, h1, show (BitVec.ofInt 64 1).toNat = 1 from rfl, Nat.and_one_is_mod, IntKind.wrap_i64]
  omega
theorem or1_i64 (a b : Nat) (ha : a < 1000000000) (hb : b < 2) : Go.bits .or .i64 ((a : Int) * 2) (b : Int) = ((a * 2 + b : Nat) : Int) := by
  have h1 : (BitVec.ofInt 64 ((a * 2 : Nat) : Int)).toNat = a * 2 := by
    rw [BitVec.ofInt_natCast, BitVec.toNat_ofNat]; exact Nat.mod_eq_of_lt (by omega)
  have h2 : (BitVec.ofInt 64 (b : Int)).toNat = b := by
    rw [BitVec.ofInt_natCast, BitVec.toNat_ofNat]; exact Nat.mod_eq_of_lt (by omega)
  rw [show ((a : Int) * 2) = ((a * 2 : Nat) : Int) by omega]
  show IntKind.i64.wrap ((BitVec.ofInt 64 ((a * 2 : Nat) : Int) ||| BitVec.ofInt 64 (b : Int)).toNat : Int) = _
  rw [BitVec.toNat_or, h1, h2, show a * 2 = a <<< 1 by rw [Nat.shiftLeft_eq], ← Nat.shiftLeft_add_eq_or_of_lt (by omega), Nat.shiftLeft_eq, IntKind.wrap_i64]
  omega
theorem node_next (N k : Nat) : N / 2 ^ (k + 1) * 2 + N / 2 ^ k % 2 = N / 2 ^ k := by
  rw [Nat.pow_succ, ← Nat.div_div_eq_div_mul]; omega
theorem bit_same {N n w k : Nat} (h : 2 ^ w + n = N) (hk : k < w) : n / 2 ^ k % 2 = N / 2 ^ k % 2 := by
  obtain ⟨j, rfl⟩ : ∃ j, w = k + (j + 1) := ⟨w - k - 1, by omega⟩
  rw [← h, Nat.pow_add, Nat.mul_comm, Nat.add_comm, Nat.add_mul_div_right _ _ (Nat.pow_pos (by decide)), Nat.pow_succ]
  omega
end Go.Pz
