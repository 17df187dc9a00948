/- A state of four numbers, its octets. No program in sight. -/
import Derived.Test.YtniibdglodnhoaaGreatDoorA
namespace Go.Proofs.YtniibdglodnhoaaGreatDoor
open Go.RowKit Go.Own Go.Bv Go.Eq

structure St where
  a : BitVec 32
  b : BitVec 32
  c : BitVec 32
  d : BitVec 32
deriving DecidableEq

namespace St
def l (s : St) : List (BitVec 32) := [s.a, s.b, s.c, s.d]
def C (s : St) : Array Value := #[.int .u32 (s.a.toNat : Int), .int .u32 (s.b.toNat : Int), .int .u32 (s.c.toNat : Int), .int .u32 (s.d.toNat : Int)]
def w (s : St) (k : Nat) : BitVec 32 := s.l.getD k 0
def octs (s : St) : List (BitVec 8) := octs4 s.a ++ (octs4 s.b ++ (octs4 s.c ++ octs4 s.d))
def zero : St := ⟨0, 0, 0, 0⟩
theorem C_size (s : St) : s.C.size = 4 := rfl
theorem C_eq (s : St) : s.C = (u32s s.l).toArray := rfl
theorem C_one (s : St) : s.C.toList.all (·.oneCell') = true := rfl
theorem octs_length (s : St) : s.octs.length = 16 := rfl
theorem l_inj {s t : St} : s.l = t.l ↔ s = t := by
  constructor
  · intro h; cases s; cases t; simp [l] at h; simp [h]
  · rintro rfl; rfl
end St

/-- a number of four octets -/
def of4 (x y z t : BitVec 8) : BitVec 32 := ((x.setWidth 32 ||| y.setWidth 32 <<< 8) ||| z.setWidth 32 <<< 16) ||| t.setWidth 32 <<< 24

theorem octs4_of4 (x y z t : BitVec 8) : octs4 (of4 x y z t) = [x, y, z, t] := by
  unfold octs4 of4
  simp only [List.cons.injEq, and_true]
  refine ⟨?_, ?_, ?_, ?_⟩ <;>
  · apply BitVec.eq_of_getLsbD_eq
    intro i hi
    simp only [BitVec.getLsbD_setWidth, BitVec.getLsbD_or, BitVec.getLsbD_shiftLeft, BitVec.getLsbD_ushiftRight, hi, decide_true, Bool.true_and]
    have e : ∀ (v : BitVec 8) (j : Nat), 8 ≤ j → v.getLsbD j = false := fun v j hj => BitVec.getLsbD_of_ge v j hj
    repeat first
      | rw [decide_eq_true (by omega)]
      | rw [decide_eq_false (by omega)]
    simp [e _ (16 + i) (by omega), e _ (16 + i - 8) (by omega), e _ (24 + i) (by omega), e _ (24 + i - 8) (by omega), e _ (24 + i - 16) (by omega), e, hi, show ∀ p, p + i - p = i by omega]
theorem of4_octs4 (s : BitVec 32) : of4 (s.setWidth 8) ((s >>> 8).setWidth 8) ((s >>> 16).setWidth 8) ((s >>> 24).setWidth 8) = s := by
  unfold of4
  apply BitVec.eq_of_getLsbD_eq
  intro i hi
  simp only [BitVec.getLsbD_setWidth, BitVec.getLsbD_or, BitVec.getLsbD_shiftLeft, BitVec.getLsbD_ushiftRight]
  by_cases h1 : i < 8
  · simp [h1, hi, show i < 16 by omega, show i < 24 by omega]
  · by_cases h2 : i < 16
    · simp [h1, h2, hi, show 8 + (i - 8) = i by omega, show i < 24 by omega, show i - 8 < 32 by omega, show i - 8 < 8 by omega]
    · by_cases h3 : i < 24
      · simp [h1, h2, h3, hi, show 16 + (i - 16) = i by omega, show ¬ i - 8 < 8 by omega, show i - 16 < 32 by omega, show i - 16 < 8 by omega]
      · simp [h1, h2, h3, hi, show 24 + (i - 24) = i by omega, show ¬ i - 8 < 8 by omega, show ¬ i - 16 < 8 by omega, show i - 24 < 32 by omega, show i - 24 < 8 by omega]

namespace St
/-- the state of sixteen octets -/
def of (b : List (BitVec 8)) : St :=
  ⟨of4 (b.getD 0 0) (b.getD 1 0) (b.getD 2 0) (b.getD 3 0), of4 (b.getD 4 0) (b.getD 5 0) (b.getD 6 0) (b.getD 7 0), of4 (b.getD 8 0) (b.getD 9 0) (b.getD 10 0) (b.getD 11 0), of4 (b.getD 12 0) (b.getD 13 0) (b.getD 14 0) (b.getD 15 0)⟩
theorem of_octs (s : St) : of s.octs = s := by
  show St.mk (of4 (s.a.setWidth 8) ((s.a >>> 8).setWidth 8) ((s.a >>> 16).setWidth 8) ((s.a >>> 24).setWidth 8)) (of4 (s.b.setWidth 8) ((s.b >>> 8).setWidth 8) ((s.b >>> 16).setWidth 8) ((s.b >>> 24).setWidth 8)) (of4 (s.c.setWidth 8) ((s.c >>> 8).setWidth 8) ((s.c >>> 16).setWidth 8) ((s.c >>> 24).setWidth 8)) (of4 (s.d.setWidth 8) ((s.d >>> 8).setWidth 8) ((s.d >>> 16).setWidth 8) ((s.d >>> 24).setWidth 8)) = s
  rw [of4_octs4, of4_octs4, of4_octs4, of4_octs4]
theorem octs_of {b : List (BitVec 8)} (h : b.length = 16) : (of b).octs = b := by
  match b, h with
  | [x0, x1, x2, x3, x4, x5, x6, x7, x8, x9, x10, x11, x12, x13, x14, x15], _ =>
    show octs4 (of4 x0 x1 x2 x3) ++ (octs4 (of4 x4 x5 x6 x7) ++ (octs4 (of4 x8 x9 x10 x11) ++ octs4 (of4 x12 x13 x14 x15))) = _
    rw [octs4_of4, octs4_of4, octs4_of4, octs4_of4]
    rfl
/-- so many octets of sixteen, put into a state of zeros -/
def put (s : St) (k : Nat) (y : BitVec 32) : St :=
  match k / 4 with
  | 0 => { s with a := s.a ||| y <<< (k % 4 * 8) }
  | 1 => { s with b := s.b ||| y <<< (k % 4 * 8) }
  | 2 => { s with c := s.c ||| y <<< (k % 4 * 8) }
  | _ => { s with d := s.d ||| y <<< (k % 4 * 8) }
def part (b : List (BitVec 8)) : Nat → St
  | 0 => zero
  | k + 1 => (part b k).put k ((b.getD k 0).setWidth 32)
theorem part_all (b : List (BitVec 8)) : part b 16 = of b := by
  simp [part, put, of, of4, zero]
end St
end Go.Proofs.YtniibdglodnhoaaGreatDoor
