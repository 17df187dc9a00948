/- A state permuted. No program in sight. -/
import Derived.Test.YtniibdglodnhoaaGreatDoorPm
namespace Go.Proofs.YtniibdglodnhoaaGreatDoor
open Go.RowKit Go.Own Go.Bv Go.Eq

def rot (x : BitVec 32) (s : Nat) : BitVec 32 := (x <<< s) ||| (x >>> (32 - s))
theorem rot_bit (x : BitVec 32) (s : Nat) (hs : s < 32) (i : Nat) (hi : i < 32) : (rot x s).getLsbD i = if i < s then x.getLsbD (32 - s + i) else x.getLsbD (i - s) := by
  unfold rot
  rw [BitVec.getLsbD_or, BitVec.getLsbD_shiftLeft, BitVec.getLsbD_ushiftRight]
  by_cases h : i < s
  · simp [h]
  · simp [h, hi, BitVec.getLsbD_of_ge x (32 - s + i) (by omega)]
theorem rot_rot (x : BitVec 32) (s : Nat) (h0 : 0 < s) (hs : s < 32) : rot (rot x s) (32 - s) = x := by
  apply BitVec.eq_of_getLsbD_eq
  intro i hi
  rw [rot_bit _ _ (by omega) i hi]
  by_cases h : i < 32 - s
  · rw [if_pos h, show 32 - (32 - s) + i = s + i by omega, rot_bit _ _ hs _ (by omega), if_neg (by omega), show s + i - s = i by omega]
  · rw [if_neg h, rot_bit _ _ hs _ (by omega), if_pos (by omega), show 32 - s + (i - (32 - s)) = i by omega]
theorem rot_fact (x : BitVec 32) (s : Nat) : Go.bits .or .u32 ((x.toNat : Int) * ((2 ^ s : Nat) : Int) % 4294967296) ((x.toNat : Int) / ((2 ^ (32 - s) : Nat) : Int)) = ((rot x s).toNat : Int) := by
  have h1 : (x.toNat : Int) * ((2 ^ s : Nat) : Int) % 4294967296 = ((x <<< s).toNat : Int) := by
    rw [BitVec.toNat_shiftLeft, Nat.shiftLeft_eq, Int.natCast_emod, Int.natCast_mul]
    rfl
  rw [h1, shr32, or32]
  rfl

namespace St
def addA (t : Nat) (s : St) : St := { s with a := s.a + s.b, d := rot (s.d ^^^ (s.a + s.b)) t }
def addB (t : Nat) (s : St) : St := { s with c := s.c + s.d, b := rot (s.b ^^^ (s.c + s.d)) t }
def subA (t : Nat) (s : St) : St := { s with d := rot s.d (32 - t) ^^^ s.a, a := s.a - s.b }
def subB (t : Nat) (s : St) : St := { s with b := rot s.b (32 - t) ^^^ s.c, c := s.c - s.d }
def mixed (s : St) : St := addB 7 (addA 8 (addB 12 (addA 16 s)))
def unmixed (s : St) : St := subA 16 (subB 12 (subA 8 (subB 7 s)))
def key (k : Nat) : BitVec 32 := BitVec.ofNat 32 k * 2654435769#32
def turn (k : Nat) (s : St) : St := ⟨s.b, s.c, s.d, s.a ^^^ key (k + 1)⟩
def unturn (k : Nat) (s : St) : St := ⟨s.d ^^^ key (k + 1), s.a, s.b, s.c⟩
def round (k : Nat) (s : St) : St := turn k (mixed s)
def unround (k : Nat) (s : St) : St := unmixed (unturn k s)
def rounds : Nat → St → St
  | 0, s => s
  | k + 1, s => round k (rounds k s)
def perm (s : St) : St := rounds 8 s
/-- rounds k-1 .. j taken back -/
def unrounds : Nat → St → St
  | 0, s => s
  | k + 1, s => unrounds k (unround k s)
def back (s : St) : St := unrounds 8 s

theorem xx (a b : BitVec 32) : (a ^^^ b) ^^^ b = a := by rw [BitVec.xor_assoc, BitVec.xor_self, BitVec.xor_zero]
theorem sub_addA (t : Nat) (h0 : 0 < t) (ht : t < 32) (s : St) : subA t (addA t s) = s := by
  simp only [subA, addA, rot_rot _ _ h0 ht, xx, BitVec.add_sub_cancel]
theorem sub_addB (t : Nat) (h0 : 0 < t) (ht : t < 32) (s : St) : subB t (addB t s) = s := by
  simp only [subB, addB, rot_rot _ _ h0 ht, xx, BitVec.add_sub_cancel]
theorem rot_rot' (x : BitVec 32) (s : Nat) (h0 : 0 < s) (hs : s < 32) : rot (rot x (32 - s)) s = x := by
  have := rot_rot x (32 - s) (by omega) (by omega)
  rwa [show 32 - (32 - s) = s by omega] at this
theorem add_subA (t : Nat) (h0 : 0 < t) (ht : t < 32) (s : St) : addA t (subA t s) = s := by
  simp only [subA, addA, BitVec.sub_add_cancel, xx, rot_rot' _ _ h0 ht]
theorem add_subB (t : Nat) (h0 : 0 < t) (ht : t < 32) (s : St) : addB t (subB t s) = s := by
  simp only [subB, addB, BitVec.sub_add_cancel, xx, rot_rot' _ _ h0 ht]
theorem unround_round (k : Nat) (s : St) : unround k (round k s) = s := by
  show unmixed (unturn k (turn k (mixed s))) = s
  have : unturn k (turn k (mixed s)) = mixed s := by simp only [turn, unturn, xx]
  rw [this]
  show subA 16 (subB 12 (subA 8 (subB 7 (addB 7 (addA 8 (addB 12 (addA 16 s))))))) = s
  rw [sub_addB 7 (by decide) (by decide), sub_addA 8 (by decide) (by decide), sub_addB 12 (by decide) (by decide), sub_addA 16 (by decide) (by decide)]
theorem round_unround (k : Nat) (s : St) : round k (unround k s) = s := by
  show turn k (addB 7 (addA 8 (addB 12 (addA 16 (subA 16 (subB 12 (subA 8 (subB 7 (unturn k s))))))))) = s
  rw [add_subA 16 (by decide) (by decide), add_subB 12 (by decide) (by decide), add_subA 8 (by decide) (by decide), add_subB 7 (by decide) (by decide)]
  simp only [turn, unturn, xx]
theorem unrounds_rounds : ∀ (k : Nat) (s : St), unrounds k (rounds k s) = s
  | 0, _ => rfl
  | k + 1, s => by
    show unrounds k (unround k (round k (rounds k s))) = s
    rw [unround_round, unrounds_rounds k]
theorem rounds_unrounds : ∀ (k : Nat) (s : St), rounds k (unrounds k s) = s
  | 0, _ => rfl
  | k + 1, s => by
    show round k (rounds k (unrounds k (unround k s))) = s
    rw [rounds_unrounds k, round_unround]
theorem back_perm (s : St) : back (perm s) = s := unrounds_rounds 8 s
theorem perm_back (s : St) : perm (back s) = s := rounds_unrounds 8 s
theorem perm_inj {s t : St} (h : perm s = perm t) : s = t := by rw [← back_perm s, h, back_perm]
end St
end Go.Proofs.YtniibdglodnhoaaGreatDoor
