/- The check sum: its laws, in plain numbers. -/
import Derived.Test.YtocanpehkmcndaaCm
import Derived.Test.YtocanpehkmcndaaB
namespace Go.Crc
open Go.Bv

theorem neg_bit_xor (x y : BitVec 32) : -((x ^^^ y) &&& 1#32) = -(x &&& 1#32) ^^^ -(y &&& 1#32) := by
  have h : ∀ z : BitVec 32, z &&& 1#32 = 0#32 ∨ z &&& 1#32 = 1#32 := by
    intro z
    have : (z &&& 1#32).toNat = z.toNat % 2 := by
      rw [BitVec.toNat_and]
      exact Nat.and_two_pow_sub_one_eq_mod z.toNat 1
    rcases Nat.mod_two_eq_zero_or_one z.toNat with h | h
    · left; apply BitVec.eq_of_toNat_eq; rw [this, h]; rfl
    · right; apply BitVec.eq_of_toNat_eq; rw [this, h]; rfl
  have hx : (x ^^^ y) &&& 1#32 = (x &&& 1#32) ^^^ (y &&& 1#32) := by
    apply BitVec.eq_of_getLsbD_eq
    intro i _
    simp only [BitVec.getLsbD_and, BitVec.getLsbD_xor]
    cases x.getLsbD i <;> cases y.getLsbD i <;> cases (1#32).getLsbD i <;> rfl
  rw [hx]
  rcases h x with h1 | h1 <;> rcases h y with h2 | h2 <;> rw [h1, h2] <;> decide

theorem and_xor (p x y : BitVec 32) : p &&& (x ^^^ y) = (p &&& x) ^^^ (p &&& y) := by
  apply BitVec.eq_of_getLsbD_eq
  intro i _
  simp only [BitVec.getLsbD_and, BitVec.getLsbD_xor]
  cases x.getLsbD i <;> cases y.getLsbD i <;> cases p.getLsbD i <;> rfl
theorem shr_xor (x y : BitVec 32) (n : Nat) : (x ^^^ y) >>> n = (x >>> n) ^^^ (y >>> n) := BitVec.ushiftRight_xor_distrib x y n
theorem shr_shr (r : BitVec 32) (n m : Nat) : (r >>> n) >>> m = r >>> (n + m) := by
  apply BitVec.eq_of_toNat_eq
  simp only [BitVec.toNat_ushiftRight]
  exact (Nat.shiftRight_add _ _ _).symm
theorem low_xor (x y : BitVec 32) : (x ^^^ y).setWidth 8 = x.setWidth 8 ^^^ y.setWidth 8 := BitVec.setWidth_xor
theorem xor4 (a b c d : BitVec 32) : (a ^^^ b) ^^^ (c ^^^ d) = (a ^^^ c) ^^^ (b ^^^ d) := by
  rw [BitVec.xor_assoc, ← BitVec.xor_assoc b c d, BitVec.xor_comm b c, BitVec.xor_assoc c b d, ← BitVec.xor_assoc]
theorem xor4' (a b c d : BitVec 8) : (a ^^^ b) ^^^ (c ^^^ d) = (a ^^^ c) ^^^ (b ^^^ d) := by
  rw [BitVec.xor_assoc, ← BitVec.xor_assoc b c d, BitVec.xor_comm b c, BitVec.xor_assoc c b d, ← BitVec.xor_assoc]

theorem half_xor (x y : BitVec 32) : half (x ^^^ y) = half x ^^^ half y := by
  unfold half
  rw [shr_xor, neg_bit_xor, and_xor, xor4]
theorem halves_xor (n : Nat) (x y : BitVec 32) : halves n (x ^^^ y) = halves n x ^^^ halves n y := by
  induction n with
  | zero => rfl
  | succ n ih => simp only [halves]; rw [ih, half_xor]
theorem tab_xor (x y : BitVec 8) : tab (x ^^^ y) = tab x ^^^ tab y := by
  unfold tab
  rw [BitVec.setWidth_xor, halves_xor]
theorem step1_xor (r s : BitVec 32) (c d : BitVec 8) : step1 (r ^^^ s) (c ^^^ d) = step1 r c ^^^ step1 s d := by
  unfold step1
  rw [low_xor, xor4', tab_xor, shr_xor, xor4]

def xorL (a b : List (BitVec 8)) : List (BitVec 8) := List.zipWith (· ^^^ ·) a b

theorem step_xor : ∀ (a b : List (BitVec 8)) (r s : BitVec 32), a.length = b.length → step (r ^^^ s) (xorL a b) = step r a ^^^ step s b
  | [], [], r, s, _ => rfl
  | x :: a, y :: b, r, s, h => by
    show step (step1 (r ^^^ s) (x ^^^ y)) (xorL a b) = _
    rw [step1_xor]
    exact step_xor a b _ _ (by simpa using h)
  | [], _ :: _, _, _, h => by simp at h
  | _ :: _, [], _, _, h => by simp at h

theorem sum_xor3 (a b c : List (BitVec 8)) (hb : a.length = b.length) (hc : a.length = c.length) : sum (xorL (xorL a b) c) = sum a ^^^ sum b ^^^ sum c := by
  have h1 := step_xor a b 4294967295#32 4294967295#32 hb
  have h2 := step_xor (xorL a b) c (4294967295#32 ^^^ 4294967295#32) 4294967295#32 (by simp [xorL]; omega)
  have h0 : (4294967295#32 ^^^ 4294967295#32 ^^^ 4294967295#32 : BitVec 32) = 4294967295#32 := by decide
  rw [h0, h1] at h2
  unfold sum
  rw [h2, xor4 (step _ a)]
  rw [show (4294967295#32 ^^^ 4294967295#32 : BitVec 32) = 0#32 by decide, BitVec.xor_zero, BitVec.xor_assoc]

theorem xor_cancel (a b : BitVec 32) : a ^^^ (a ^^^ b) = b := by rw [← BitVec.xor_assoc, BitVec.xor_self, BitVec.zero_xor]
theorem xor_cancel' (a b : BitVec 8) : a ^^^ (a ^^^ b) = b := by rw [← BitVec.xor_assoc, BitVec.xor_self, BitVec.zero_xor]
theorem xor_eq_zero {n : Nat} {a b : BitVec n} (h : a ^^^ b = 0#n) : a = b := by
  have := congrArg (fun z => a ^^^ z) h
  simp only [BitVec.xor_zero] at this
  rw [← BitVec.xor_assoc, BitVec.xor_self, BitVec.zero_xor] at this
  exact this.symm

/-! what is sealed has one sum -/
theorem tail_step (r : BitVec 32) : step r (octs4 (r ^^^ 4294967295#32)) = 558161692#32 ^^^ 4294967295#32 := by
  have key : ∀ (x : BitVec 32), step1 r ((r ^^^ x).setWidth 8) = tab (x.setWidth 8) ^^^ (r >>> 8) := by
    intro x
    unfold step1
    rw [low_xor, xor_cancel']
  have e0 : (r ^^^ 4294967295#32).setWidth 8 = r.setWidth 8 ^^^ 255#8 := by rw [low_xor]; rfl
  have e1 : ((r ^^^ 4294967295#32) >>> 8).setWidth 8 = (r >>> 8).setWidth 8 ^^^ 255#8 := by rw [shr_xor, low_xor]; rfl
  have e2 : ((r ^^^ 4294967295#32) >>> 16).setWidth 8 = (r >>> 16).setWidth 8 ^^^ 255#8 := by rw [shr_xor, low_xor]; rfl
  have e3 : ((r ^^^ 4294967295#32) >>> 24).setWidth 8 = (r >>> 24).setWidth 8 ^^^ 255#8 := by rw [shr_xor, low_xor]; rfl
  have s8 : ∀ (n : Nat), (r >>> n) >>> 8 = r >>> (n + 8) := fun n => shr_shr r n 8
  -- one step, from k ^^^ (r >>> n), by the octet at n of r, turned
  have one : ∀ (k : BitVec 32) (n : Nat), step1 (k ^^^ (r >>> n)) ((r >>> n).setWidth 8 ^^^ 255#8) = (tab (k.setWidth 8 ^^^ 255#8) ^^^ (k >>> 8)) ^^^ (r >>> (n + 8)) := by
    intro k n
    unfold step1
    rw [low_xor, shr_xor, s8, BitVec.xor_assoc (k.setWidth 8), xor_cancel', BitVec.xor_assoc]
  have z : r >>> 0 = r := by simp
  have o0 := one 0#32 0
  rw [z, BitVec.zero_xor] at o0
  unfold octs4
  rw [e0, e1, e2, e3]
  show step1 (step1 (step1 (step1 r _) _) _) _ = _
  rw [o0, one, one, one]
  have hz : r >>> 32 = 0#32 := by
    apply BitVec.eq_of_toNat_eq
    rw [BitVec.toNat_ushiftRight, Nat.shiftRight_eq_div_pow]
    have := r.isLt
    simp
    omega
  rw [show 0 + 8 + 8 + 8 + 8 = 32 by rfl, hz, BitVec.xor_zero]
  decide

theorem step_append (r : BitVec 32) (a b : List (BitVec 8)) : step r (a ++ b) = step (step r a) b := by
  unfold step; rw [List.foldl_append]
theorem sum_tail (b : List (BitVec 8)) : sum (b ++ octs4 (sum b)) = 558161692#32 := by
  unfold sum
  rw [step_append, tail_step, BitVec.xor_assoc, BitVec.xor_self, BitVec.xor_zero]

/-! no two registers come to the same by one text; one octet another one, and the sum is -/
theorem top_tab : ∀ x : BitVec 8, (tab x) >>> 24 = 0#32 → x = 0#8 := by decide +kernel

theorem step1_zero (d : BitVec 32) (h : step1 d 0#8 = 0#32) : d = 0#32 := by
  unfold step1 at h
  rw [BitVec.xor_zero] at h
  have h1 : tab (d.setWidth 8) = d >>> 8 := xor_eq_zero h
  have h2 : (tab (d.setWidth 8)) >>> 24 = 0#32 := by
    rw [h1, shr_shr]
    apply BitVec.eq_of_toNat_eq
    rw [BitVec.toNat_ushiftRight, Nat.shiftRight_eq_div_pow]
    have := d.isLt
    simp
    omega
  have h3 := top_tab _ h2
  rw [h3] at h1
  have h4 : tab 0#8 = 0#32 := by decide
  rw [h4] at h1
  apply BitVec.eq_of_toNat_eq
  have e1 := congrArg BitVec.toNat h1
  have e2 := congrArg BitVec.toNat h3
  rw [BitVec.toNat_ushiftRight, Nat.shiftRight_eq_div_pow] at e1
  rw [BitVec.toNat_setWidth] at e2
  simp at e1 e2 ⊢
  omega

theorem step1_inj {r s : BitVec 32} {c : BitVec 8} (h : step1 r c = step1 s c) : r = s := by
  have h1 := step1_xor r s c c
  rw [h, BitVec.xor_self, BitVec.xor_self] at h1
  exact xor_eq_zero (step1_zero _ h1)
theorem step_inj : ∀ (b : List (BitVec 8)) {r s : BitVec 32}, step r b = step s b → r = s
  | [], _, _, h => h
  | _ :: b, _, _, h => step1_inj (step_inj b h)
theorem step1_octet {r : BitVec 32} {c d : BitVec 8} (h : step1 r c = step1 r d) : c = d := by
  unfold step1 at h
  have h1 : tab (r.setWidth 8 ^^^ c) = tab (r.setWidth 8 ^^^ d) := by
    have := congrArg (fun z => z ^^^ (r >>> 8)) h
    simpa [BitVec.xor_assoc] using this
  have h2 : tab ((r.setWidth 8 ^^^ c) ^^^ (r.setWidth 8 ^^^ d)) = 0#32 := by rw [tab_xor, h1, BitVec.xor_self]
  rw [xor4', BitVec.xor_self, BitVec.zero_xor] at h2
  have h3 := top_tab (c ^^^ d) (by rw [h2]; decide)
  exact xor_eq_zero h3

theorem sum_set {b : List (BitVec 8)} {k : Nat} (hk : k < b.length) {c : BitVec 8} (h : sum (b.set k c) = sum b) : c = b[k] := by
  have h1 : step 4294967295#32 (b.set k c) = step 4294967295#32 b := by
    unfold sum at h
    have := congrArg (fun z => z ^^^ 4294967295#32) h
    simpa [BitVec.xor_assoc] using this
  have e1 : b.set k c = b.take k ++ (c :: b.drop (k + 1)) := by
    rw [List.set_eq_take_append_cons_drop, if_pos hk]
  have e2 : b = b.take k ++ (b[k] :: b.drop (k + 1)) := by
    rw [← List.drop_eq_getElem_cons hk, List.take_append_drop]
  rw [e1] at h1
  have h2 : step 4294967295#32 b = step 4294967295#32 (b.take k ++ (b[k] :: b.drop (k + 1))) := by rw [← e2]
  rw [h2, step_append, step_append] at h1
  exact step1_octet (step_inj _ h1)

theorem octs4_inj {s t : BitVec 32} (h : octs4 s = octs4 t) : s = t := by
  simp only [octs4, List.cons.injEq, and_true] at h
  obtain ⟨h0, h1, h2, h3⟩ := h
  apply BitVec.eq_of_toNat_eq
  have e0 := congrArg BitVec.toNat h0
  have e1 := congrArg BitVec.toNat h1
  have e2 := congrArg BitVec.toNat h2
  have e3 := congrArg BitVec.toNat h3
  simp only [BitVec.toNat_setWidth, BitVec.toNat_ushiftRight, Nat.shiftRight_eq_div_pow] at e0 e1 e2 e3
  have := s.isLt
  have := t.isLt
  omega

end Go.Crc
