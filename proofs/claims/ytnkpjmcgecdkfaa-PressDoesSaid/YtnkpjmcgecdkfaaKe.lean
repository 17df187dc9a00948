/- The writer of bits: what it keeps back, and that it writes the number. No program in sight. -/
import Derived.Test.YtnkpjmcgecdkfaaKm
import Derived.Test.YtnkpjmcgecdkfaaKt
namespace Go.Kc

/-- the octets that are let go: the one that was kept, and the greatest ones behind it, each with the carry -/
def fl (kept carry : Nat) : Nat → List (BitVec 8)
  | 0 => []
  | j + 1 => fl kept carry j ++ [BitVec.ofNat 8 ((if j = 0 then kept else 255) + carry)]
theorem fl_length (kept carry : Nat) : ∀ j, (fl kept carry j).length = j
  | 0 => rfl
  | j + 1 => by simp [fl, fl_length kept carry j]
theorem val_append (l r : List (BitVec 8)) : val (l ++ r) = val l * 256 ^ r.length + val r := by
  induction h : r.length generalizing r with
  | zero => rw [List.length_eq_zero_iff] at h; subst h; simp [val]
  | succ n ih =>
    obtain ⟨m, c, rfl⟩ : ∃ m c, r = m ++ [c] := ⟨r.dropLast, r.getLast (by intro e; subst e; cases h), (List.dropLast_concat_getLast _).symm⟩
    have hm : m.length = n := by simpa using h
    rw [← List.append_assoc, val_snoc, val_snoc, ih m hm, Nat.pow_succ, Nat.mul_add]
    have : 256 * (val l * 256 ^ n) = val l * (256 ^ n * 256) := by rw [Nat.mul_left_comm, Nat.mul_comm 256 (256 ^ n)]
    omega
/-- their number, where no carry goes past the first -/
theorem val_fl (kept : Nat) (hk : kept < 256) : ∀ j, val (fl kept 0 (j + 1)) + 1 = (kept + 1) * 256 ^ j
  | 0 => by simp [fl, val, Nat.mod_eq_of_lt hk]
  | j + 1 => by
    have ih := val_fl kept hk j
    show val (fl kept 0 (j + 1) ++ [_]) + 1 = _
    have e : (kept + 1) * 256 ^ (j + 1) = (kept + 1) * 256 ^ j * 256 := by rw [Nat.pow_succ, Nat.mul_assoc]
    rw [val_snoc, if_neg (by omega), BitVec.toNat_ofNat, e]
    simp only [Nat.add_zero, Nat.reducePow, Nat.reduceMod]
    omega
theorem val_fl1 (kept : Nat) (hk : kept < 255) : ∀ j, val (fl kept 1 (j + 1)) = (kept + 1) * 256 ^ j
  | 0 => by simp [fl, val]; omega
  | j + 1 => by
    have ih := val_fl1 kept hk j
    show val (fl kept 1 (j + 1) ++ [_]) = _
    have e : (kept + 1) * 256 ^ (j + 1) = (kept + 1) * 256 ^ j * 256 := by rw [Nat.pow_succ, Nat.mul_assoc]
    rw [val_snoc, if_neg (by omega), BitVec.toNat_ofNat, e]
    simp only [Nat.reducePow, Nat.reduceMod, Nat.reduceAdd]
    omega

structure Ws where
  p : List Int
  low : Nat
  span : Nat
  kept : Nat
  many : Nat
  out : List (BitVec 8)
def Ws.move (s : Ws) : Ws :=
  if s.low < 4278190080 ∨ 4294967296 ≤ s.low then { s with out := s.out ++ fl s.kept (s.low / 4294967296) s.many, kept := s.low / 16777216 % 256, many := 1, low := s.low % 16777216 * 256 }
  else { s with many := s.many + 1, low := s.low % 16777216 * 256 }
def Ws.part (s : Ws) (a : Nat) : Nat := s.span / 2048 * (s.p.getD a 0).toNat
def Ws.mid (s : Ws) (a : Nat) (b : Bool) : Ws := { s with p := s.p.set a (learnI (s.p.getD a 0) b), low := if b then s.low + s.part a else s.low, span := if b then s.span - s.part a else s.part a }
def Ws.norm (s : Ws) : Ws := if s.span < 16777216 then { s.move with span := s.span * 256 } else s
def Ws.step (s : Ws) (a : Nat) (b : Bool) : Ws := (s.mid a b).norm
def Ws.run (s : Ws) (l : List (Nat × Bool)) : Ws := l.foldl (fun s x => s.step x.1 x.2) s
def Ws.start (n : Nat) : Ws := ⟨List.replicate n 1024, 0, 4294967295, 0, 1, []⟩

/-- the number that stands there: what is out, what is kept, the greatest ones behind it -/
def Ws.num (s : Ws) : Nat := val s.out * 256 ^ s.many + ((s.kept + 1) * 256 ^ (s.many - 1) - 1)
/-- what the writer holds is the number V, k octets of it more than the first; the span is z -/
structure Holds (s : Ws) (V k z : Nat) : Prop where
  many : 1 ≤ s.many
  kept : s.kept < 256
  len : s.out.length + s.many = k + 1
  num : s.num * 4294967296 + s.low = V
  top : V + z ≤ (val s.out + 1) * 256 ^ s.many * 4294967296
  low : s.low + z ≤ 8589934592
theorem pow_pos' (n : Nat) : 0 < 256 ^ n := Nat.pow_pos (by decide)
theorem move_holds {s : Ws} {V k z : Nat} (h : Holds s V k z) (hz : 0 < z) (hz2 : z ≤ 16777216) : Holds s.move (V * 256) (k + 1) (z * 256) := by
  obtain ⟨h1, h2, h3, h4, h5, h6⟩ := h
  obtain ⟨m, hm⟩ : ∃ m, s.many = m + 1 := ⟨s.many - 1, by omega⟩
  have hP := pow_pos' m
  unfold Ws.num at h4
  rw [hm, Nat.add_sub_cancel, Nat.pow_succ] at h4
  rw [hm, Nat.pow_succ] at h5
  rw [hm] at h3
  have hkp : 1 ≤ (s.kept + 1) * 256 ^ m := Nat.one_le_iff_ne_zero.2 (Nat.mul_ne_zero (by omega) (by omega))
  unfold Ws.move
  by_cases hc : s.low < 4278190080 ∨ 4294967296 ≤ s.low
  · rw [if_pos hc]
    by_cases hq : s.low < 4294967296
    · have hlow : s.low < 4278190080 := by omega
      have hcar : s.low / 4294967296 = 0 := by omega
      have hv := val_fl s.kept h2 m
      rw [hcar, hm]
      refine ⟨Nat.le_refl _, Nat.mod_lt _ (by decide), ?_, ?_, ?_, ?_⟩
      · show (s.out ++ fl s.kept 0 (m + 1)).length + 1 = k + 1 + 1
        rw [List.length_append, fl_length]; omega
      · show (val (s.out ++ fl s.kept 0 (m + 1)) * 256 ^ 1 + ((s.low / 16777216 % 256 + 1) * 256 ^ (1 - 1) - 1)) * 4294967296 + s.low % 16777216 * 256 = V * 256
        rw [val_append, fl_length, Nat.pow_one, Nat.sub_self, Nat.pow_zero, Nat.mul_one, Nat.pow_succ]
        exact ar1 _ _ _ _ _ hv h4 hlow
      · show V * 256 + z * 256 ≤ (val (s.out ++ fl s.kept 0 (m + 1)) + 1) * 256 ^ 1 * 4294967296
        rw [val_append, fl_length, Nat.pow_one, Nat.pow_succ]
        exact ar2 _ _ _ _ _ _ hv h4 hlow hz2
      · show s.low % 16777216 * 256 + z * 256 ≤ 8589934592
        clear h4 h5; omega
    · have hcar : s.low / 4294967296 = 1 := by omega
      have hk255 : s.kept < 255 := by
        rcases Nat.lt_or_ge s.kept 255 with h | h
        · exact h
        · exfalso
          have hk : s.kept = 255 := by omega
          have e255 : (s.kept + 1) * 256 ^ m = 256 * 256 ^ m := by rw [hk]
          rw [e255] at h4
          rw [Nat.add_mul, Nat.one_mul] at h5
          exact ar7 _ _ _ _ _ hP h4 h5 hz (by omega)
      have hv := val_fl1 s.kept hk255 m
      rw [hcar, hm]
      refine ⟨Nat.le_refl _, Nat.mod_lt _ (by decide), ?_, ?_, ?_, ?_⟩
      · show (s.out ++ fl s.kept 1 (m + 1)).length + 1 = k + 1 + 1
        rw [List.length_append, fl_length]; omega
      · show (val (s.out ++ fl s.kept 1 (m + 1)) * 256 ^ 1 + ((s.low / 16777216 % 256 + 1) * 256 ^ (1 - 1) - 1)) * 4294967296 + s.low % 16777216 * 256 = V * 256
        rw [val_append, fl_length, Nat.pow_one, Nat.sub_self, Nat.pow_zero, Nat.mul_one, Nat.pow_succ, hv]
        exact ar3 _ _ _ _ hkp h4 (by omega) (by omega)
      · show V * 256 + z * 256 ≤ (val (s.out ++ fl s.kept 1 (m + 1)) + 1) * 256 ^ 1 * 4294967296
        rw [val_append, fl_length, Nat.pow_one, Nat.pow_succ, hv]
        exact ar4 _ _ _ _ _ hkp h4 (by omega) h6
      · show s.low % 16777216 * 256 + z * 256 ≤ 8589934592
        clear h4 h5; omega
  · rw [if_neg hc]
    refine ⟨Nat.le_succ_of_le h1, h2, ?_, ?_, ?_, ?_⟩
    · show s.out.length + (s.many + 1) = k + 1 + 1
      omega
    · show (val s.out * 256 ^ (s.many + 1) + ((s.kept + 1) * 256 ^ (s.many + 1 - 1) - 1)) * 4294967296 + s.low % 16777216 * 256 = V * 256
      rw [Nat.add_sub_cancel, hm, Nat.pow_succ, Nat.pow_succ]
      have e1 : val s.out * (256 ^ m * 256 * 256) = 256 * (val s.out * (256 ^ m * 256)) := by rw [← Nat.mul_assoc, Nat.mul_comm]
      have e2 : (s.kept + 1) * (256 ^ m * 256) = 256 * ((s.kept + 1) * 256 ^ m) := by rw [← Nat.mul_assoc, Nat.mul_comm]
      rw [e1, e2]
      exact ar5 _ _ _ _ hkp h4 (by omega) (by omega)
    · show V * 256 + z * 256 ≤ (val s.out + 1) * 256 ^ (s.many + 1) * 4294967296
      rw [hm, Nat.pow_succ, Nat.pow_succ]
      have e1 : (val s.out + 1) * (256 ^ m * 256 * 256) * 4294967296 = 256 * ((val s.out + 1) * (256 ^ m * 256) * 4294967296) := by
        rw [← Nat.mul_assoc (val s.out + 1), Nat.mul_comm _ 256, Nat.mul_assoc 256]
      rw [e1]
      exact ar6 _ _ _ h5
    · show s.low % 16777216 * 256 + z * 256 ≤ 8589934592
      clear h4 h5; omega

/-- the writer writes what the number is -/
structure Sim (s : Ws) (r : Rc) : Prop where
  p : s.p = r.p
  span : s.span = r.span
  holds : Holds s r.V r.k r.span
set_option maxRecDepth 100000 in
theorem sim_start (n : Nat) : Sim (Ws.start n) (Kc.start n) :=
  ⟨rfl, rfl, ⟨Nat.le_refl _, by simp [Ws.start], rfl, by simp [Ws.start, Ws.num, Kc.start, val], by simp [Ws.start, Kc.start, val], by simp [Ws.start, Kc.start]⟩⟩
set_option maxRecDepth 100000 in
theorem sim_mid {s : Ws} {r : Rc} (h : Sim s r) (g : r.Good) {a : Nat} (b : Bool) (ha : a < r.p.length) : Sim (s.mid a b) (r.mid a b) := by
  obtain ⟨b1, b2, _⟩ := part_bounds g ha
  have hpart : s.part a = r.part a := by unfold Ws.part Rc.part; rw [h.p, h.span]
  obtain ⟨h1, h2, h3, h4, h5, h6⟩ := h.holds
  refine ⟨by unfold Ws.mid Rc.mid; rw [h.p], by unfold Ws.mid Rc.mid; rw [hpart, h.span], ?_⟩
  unfold Ws.mid Rc.mid
  rw [hpart]
  refine ⟨h1, h2, h3, ?_, ?_, ?_⟩
  · cases b
    · exact h4
    · show s.num * 4294967296 + (s.low + r.part a) = r.V + r.part a
      omega
  · cases b
    · show r.V + r.part a ≤ (val s.out + 1) * 256 ^ s.many * 4294967296
      omega
    · show r.V + r.part a + (r.span - r.part a) ≤ (val s.out + 1) * 256 ^ s.many * 4294967296
      omega
  · cases b
    · show s.low + r.part a ≤ _
      omega
    · show s.low + r.part a + (r.span - r.part a) ≤ _
      omega
theorem sim_norm {s : Ws} {r : Rc} (h : Sim s r) (hz : 0 < r.span) : Sim s.norm r.norm := by
  unfold Ws.norm Rc.norm
  rw [h.span]
  split
  · have hm := move_holds h.holds hz (by omega)
    refine ⟨?_, rfl, ?_⟩
    · show s.move.p = r.p
      unfold Ws.move
      split
      · exact h.p
      · exact h.p
    · exact ⟨hm.many, hm.kept, hm.len, hm.num, hm.top, hm.low⟩
  · exact h
theorem sim_step {s : Ws} {r : Rc} (h : Sim s r) (g : r.Good) {a : Nat} (b : Bool) (ha : a < r.p.length) : Sim (s.step a b) (r.step a b) := by
  obtain ⟨m1, _, _⟩ := mid_span g b ha
  exact sim_norm (sim_mid h g b ha) (by omega)
theorem sim_run : ∀ {l : List (Nat × Bool)} {s : Ws} {r : Rc}, Sim s r → r.Good → within r.p.length l → Sim (s.run l) (r.run l)
  | [], _, _, h, _, _ => h
  | x :: l, s, r, h, g, hw => by
    have hx : x.1 < r.p.length := hw x List.mem_cons_self
    exact sim_run (l := l) (sim_step h g x.2 hx) (step_good g x.2 hx) (fun y hy => by rw [step_len]; exact hw y (List.mem_cons_of_mem _ hy))
def Ws.moves : Nat → Ws → Ws
  | 0, s => s
  | j + 1, s => (Ws.moves j s).move
set_option maxRecDepth 100000 in
theorem moves_low (s : Ws) : ∀ j, j ≤ 4 → (Ws.moves j s).low % 256 ^ j = 0 ∨ j = 0
  | 0, _ => .inr rfl
  | j + 1, h => by
    left
    have ih := moves_low s j (by omega)
    have hl : (Ws.moves (j + 1) s).low = (Ws.moves j s).low % 16777216 * 256 := by
      show (Ws.moves j s).move.low = _
      unfold Ws.move
      split <;> rfl
    rw [hl, Nat.pow_succ]
    generalize (Ws.moves j s).low = x at *
    obtain rfl | rfl | rfl | rfl : j = 0 ∨ j = 1 ∨ j = 2 ∨ j = 3 := by omega
    · omega
    · simp at ih ⊢; omega
    · simp at ih ⊢; omega
    · simp at ih ⊢; omega
set_option maxRecDepth 100000 in
theorem moves_holds {s : Ws} {V k : Nat} (h : Holds s V k 1) : ∀ j, Holds (Ws.moves j s) (V * 256 ^ j) (k + j) 1
  | 0 => by rw [Nat.pow_zero, Nat.mul_one]; exact h
  | j + 1 => by
    have ih := moves_holds h j
    have hm := move_holds ih (by decide) (by decide)
    refine ⟨hm.many, hm.kept, hm.len, ?_, ?_, ?_⟩
    · show (Ws.moves j s).move.num * 4294967296 + (Ws.moves j s).move.low = V * 256 ^ (j + 1)
      rw [hm.num, Nat.pow_succ, Nat.mul_assoc]
    · have := hm.top
      have e : V * 256 ^ (j + 1) = V * 256 ^ j * 256 := by rw [Nat.pow_succ, Nat.mul_assoc]
      rw [e]
      exact Nat.le_trans (by omega) this
    · have := hm.low
      show (Ws.moves j s).move.low + 1 ≤ _
      omega
set_option maxRecDepth 100000 in
/-- behind five moves the text is out -/
theorem moves_out {s : Ws} {V k : Nat} (h : Holds s V k 1) : (Ws.moves 5 s).out.length = 5 + k ∧ val (Ws.moves 5 s).out = V := by
  have h4 := moves_holds h 4
  have hl := (moves_low s 4 (by decide)).resolve_right (by decide)
  obtain ⟨g1, g2, g3, g4, g5, g6⟩ := h4
  generalize hs : Ws.moves 4 s = t at *
  have hlow : t.low = 0 := by
    have h3 := moves_holds h 3
    have e : t.low = (Ws.moves 3 s).low % 16777216 * 256 := by
      rw [← hs]
      show (Ws.moves 3 s).move.low = _
      unfold Ws.move
      split <;> rfl
    have hb : t.low < 4294967296 := by omega
    simp at hl
    omega
  have e5 : (Ws.moves 5 s).out = t.out ++ fl t.kept 0 t.many := by
    show (Ws.moves 4 s).move.out = _
    rw [hs]
    unfold Ws.move
    rw [if_pos (.inl (by rw [hlow]; decide)), hlow]
  obtain ⟨m, hm⟩ : ∃ m, t.many = m + 1 := ⟨t.many - 1, by omega⟩
  have hv := val_fl t.kept g2 m
  unfold Ws.num at g4
  rw [hm] at g3 g4
  rw [Nat.add_sub_cancel] at g4
  rw [e5, hm, List.length_append, fl_length, val_append, fl_length]
  refine ⟨by omega, ?_⟩
  rw [hlow] at g4
  simp only [Nat.reducePow] at g4
  generalize val t.out * 256 ^ (m + 1) = A at *
  generalize val (fl t.kept 0 (m + 1)) = F at *
  generalize (t.kept + 1) * 256 ^ m = K at *
  omega
set_option maxRecDepth 100000 in
/-- the writer writes the text -/
theorem writes {n : Nat} {l : List (Nat × Bool)} (hw : within n l) : (Ws.moves 5 ((Ws.start n).run l)).out = encT n l := by
  have hw' : within (start n).p.length l := by rw [start_len]; exact hw
  have hsim := sim_run (sim_start n) (start_good n) hw'
  obtain ⟨f1, f2, f3, _⟩ := run_facts (start_good n) hw'
  obtain ⟨h1, h2, h3, h4, h5, h6⟩ := hsim.holds
  have hlo := f1.lo
  have hh : Holds ((Ws.start n).run l) (enc n l).V (enc n l).k 1 := by
    refine ⟨h1, h2, h3, h4, ?_, ?_⟩
    · exact Nat.le_trans (Nat.add_le_add_left (by omega) _) h5
    · omega
  obtain ⟨o1, o2⟩ := moves_out hh
  unfold encT
  rw [← o1, ← o2]
  exact (be_val _).symm
end Go.Kc
