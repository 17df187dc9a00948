/- Sealed texts: a number's octets, the stream, the tag. No program in sight. -/
import Derived.Test.YtekiloagckkneaaDoorPa
namespace Go.Proofs.YtekiloagckkneaaDoor
open Go.RowKit Go.Own Go.Bv Go.Eq

def eight (n : BitVec 64) : List (BitVec 8) := [n.setWidth 8, (n >>> 8).setWidth 8, (n >>> 16).setWidth 8, (n >>> 24).setWidth 8, (n >>> 32).setWidth 8, (n >>> 40).setWidth 8, (n >>> 48).setWidth 8, (n >>> 56).setWidth 8]
theorem eight_length (n : BitVec 64) : (eight n).length = 8 := rfl
theorem eight_get (n : BitVec 64) (k : Nat) (hk : k < 8) : (u8s (eight n))[k]? = some (.int .u8 ((n.toNat : Int) / ((2 ^ (8 * k) : Nat) : Int) % 256)) := by
  obtain rfl | rfl | rfl | rfl | rfl | rfl | rfl | rfl : k = 0 ∨ k = 1 ∨ k = 2 ∨ k = 3 ∨ k = 4 ∨ k = 5 ∨ k = 6 ∨ k = 7 := by omega
  all_goals simp [u8s, eight, Nat.shiftRight_eq_div_pow]
namespace St
def stream (k : St) (n : BitVec 64) (long : Nat) : List (BitVec 8) := (k.absorb (eight n ++ [1#8])).squeeze long
def tag (k : St) (n : BitVec 64) (t : List (BitVec 8)) : St := k.absorb ((eight n ++ [2#8]) ++ t)
def xors (a b : List (BitVec 8)) : List (BitVec 8) := List.zipWith (· ^^^ ·) a b
def hide (k : St) (n : BitVec 64) (b : List (BitVec 8)) : List (BitVec 8) := xors b (k.stream n b.length)
theorem stream_length (k : St) (n : BitVec 64) (long : Nat) : (k.stream n long).length = long := squeeze_length _ _
theorem hide_length (k : St) (n : BitVec 64) (b : List (BitVec 8)) : (k.hide n b).length = b.length := by
  unfold hide xors
  rw [List.length_zipWith, stream_length]; omega
theorem xors_xors : ∀ (a b : List (BitVec 8)), a.length ≤ b.length → xors (xors a b) b = a
  | [], _, _ => rfl
  | x :: a, [], h => by simp at h
  | x :: a, y :: b, h => by
    show ((x ^^^ y) ^^^ y) :: xors (xors a b) b = x :: a
    rw [xors_xors a b (by simpa using h), BitVec.xor_assoc, BitVec.xor_self, BitVec.xor_zero]
theorem hide_hide (k : St) (n : BitVec 64) (b : List (BitVec 8)) : k.hide n (k.hide n b) = b := by
  unfold hide
  rw [show (xors b (k.stream n b.length)).length = b.length from hide_length k n b]
  exact xors_xors _ _ (by rw [stream_length]; exact Nat.le_refl _)
theorem hide_inj {k : St} {n : BitVec 64} {a b : List (BitVec 8)} (h : k.hide n a = k.hide n b) : a = b := by
  rw [← hide_hide k n a, h, hide_hide]
theorem tag_short {k : St} {n : BitVec 64} {a b : List (BitVec 8)} (ha : a.length ≤ 6) (hb : b.length ≤ 6) (h : k.tag n a = k.tag n b) : a = b := by
  unfold tag at h
  rw [List.append_assoc, List.append_assoc] at h
  have e : ∀ c : List (BitVec 8), absorb k (eight n ++ c) = absorb (mixAt k (eight n) 0).perm c := fun c => by
    rw [absorb_drop k (eight n ++ c) (by rw [List.length_append, eight_length]; omega), List.drop_left' (eight_length n)]
    congr 2
  rw [e, e] at h
  have := absorb_short (by simp; omega) (by simp; omega) h
  simpa using this
theorem stream_take (k : St) (n : BitVec 64) (m more : Nat) : (k.stream n (m + more)).take m = k.stream n m := squeeze_take _ _ _
theorem hide_get {k : St} {n : BitVec 64} {b : List (BitVec 8)} {i : Nat} (more : Nat) (h : i < b.length) : (k.hide n b)[i]? = some (b[i] ^^^ ((k.stream n (b.length + more))[i]'(by rw [stream_length]; omega))) := by
  have e : (k.stream n b.length)[i]'(by rw [stream_length]; exact h) = (k.stream n (b.length + more))[i]'(by rw [stream_length]; omega) := by
    have := congrArg (·[i]?) (stream_take k n b.length more)
    simp only [List.getElem?_take_of_lt h] at this
    rw [List.getElem?_eq_getElem (by rw [stream_length]; omega), List.getElem?_eq_getElem (by rw [stream_length]; exact h)] at this
    exact (Option.some.inj this).symm
  unfold hide xors
  rw [List.getElem?_zipWith, List.getElem?_eq_getElem h, List.getElem?_eq_getElem (by rw [stream_length]; exact h), ← e]
end St
/-- how a ring, and a box, lie in memory -/
def ringC (s : St) (n : BitVec 64) : Array Value := #[.int .u32 (s.a.toNat : Int), .int .u32 (s.b.toNat : Int), .int .u32 (s.c.toNat : Int), .int .u32 (s.d.toNat : Int), .int .u64 (n.toNat : Int)]
def boxC (n : BitVec 64) (v : Value) (s : St) : Array Value := #[.int .u64 (n.toNat : Int), v, .int .u32 (s.a.toNat : Int), .int .u32 (s.b.toNat : Int), .int .u32 (s.c.toNat : Int), .int .u32 (s.d.toNat : Int)]
end Go.Proofs.YtekiloagckkneaaDoor
