/- A text of bits by chances: one number, one octet more whenever the span is small. No program in sight. -/
import Derived.Test.YtnkpjmcgecdkfaaB
namespace Go.Kc

def mayB (p : Int) : Bool := decide (31 ≤ p) && decide (p ≤ 2017)
theorem mayB_iff (p : Int) : mayB p = true ↔ 31 ≤ p ∧ p ≤ 2017 := by simp [mayB]
def learnI (p : Int) (b : Bool) : Int := if b then p - p / 32 else p + (2048 - p) / 32
theorem may_learn {p : Int} (b : Bool) (h : mayB p = true) : mayB (learnI p b) = true := by
  rw [mayB_iff] at *
  unfold learnI
  cases b <;> simp <;> omega

/-! ### octets and numbers, the highest octet first -/
def val (l : List (BitVec 8)) : Nat := l.foldl (fun v c => 256 * v + c.toNat) 0
def be : Nat → Nat → List (BitVec 8)
  | 0, _ => []
  | n + 1, v => be n (v / 256) ++ [BitVec.ofNat 8 v]
theorem val_snoc (l : List (BitVec 8)) (c : BitVec 8) : val (l ++ [c]) = 256 * val l + c.toNat := by simp [val]
theorem be_length : ∀ (n v : Nat), (be n v).length = n
  | 0, _ => rfl
  | n + 1, v => by simp [be, be_length n]
theorem val_be : ∀ (n v : Nat), v < 256 ^ n → val (be n v) = v
  | 0, v, h => by
    have : v = 0 := by simpa using h
    subst this; rfl
  | n + 1, v, h => by
    have h1 : v / 256 < 256 ^ n := by rw [Nat.div_lt_iff_lt_mul (by decide), ← Nat.pow_succ]; exact h
    rw [be, val_snoc, val_be n _ h1, BitVec.toNat_ofNat]
    omega
theorem be_take : ∀ (n j v : Nat), (be (n + j) v).take n = be n (v / 256 ^ j)
  | n, 0, v => by
    rw [Nat.add_zero, Nat.pow_zero, Nat.div_one]
    exact List.take_of_length_le (by rw [be_length]; exact Nat.le_refl _)
  | n, j + 1, v => by
    rw [← Nat.add_assoc]
    show (be (n + j) (v / 256) ++ _).take n = _
    rw [List.take_append_of_le_length (by rw [be_length]; omega), be_take n j, Nat.div_div_eq_div_mul, Nat.pow_succ, Nat.mul_comm]
theorem be_mod : ∀ (n v : Nat), be n (v % 256 ^ n) = be n v
  | 0, _ => rfl
  | n + 1, v => by
    show be n (v % 256 ^ (n + 1) / 256) ++ [BitVec.ofNat 8 (v % 256 ^ (n + 1))] = be n (v / 256) ++ [BitVec.ofNat 8 v]
    have h1 : v % 256 ^ (n + 1) / 256 = v / 256 % 256 ^ n := by rw [Nat.pow_succ, Nat.mul_comm, Nat.mod_mul_right_div_self]
    have h2 : v % 256 ^ (n + 1) % 256 = v % 256 := by rw [Nat.pow_succ, Nat.mul_comm]; exact Nat.mod_mul_right_mod _ _ _
    rw [h1, be_mod n]
    congr 2
    apply BitVec.eq_of_toNat_eq
    rw [BitVec.toNat_ofNat, BitVec.toNat_ofNat, show 2 ^ 8 = 256 from rfl, h2]
theorem be_val : ∀ (l : List (BitVec 8)), be l.length (val l) = l := by
  intro l
  induction h : l.length generalizing l with
  | zero => rw [List.length_eq_zero_iff] at h; subst h; rfl
  | succ n ih =>
    obtain ⟨m, c, rfl⟩ : ∃ m c, l = m ++ [c] := ⟨l.dropLast, l.getLast (by intro e; subst e; cases h), (List.dropLast_concat_getLast _).symm⟩
    have hm : m.length = n := by simpa using h
    rw [be, val_snoc]
    have e1 : (256 * val m + c.toNat) / 256 = val m := by have := c.isLt; omega
    have e2 : BitVec.ofNat 8 (256 * val m + c.toNat) = c := by
      apply BitVec.eq_of_toNat_eq
      rw [BitVec.toNat_ofNat]; have := c.isLt; omega
    rw [e1, e2, ih m hm]
theorem val_lt (l : List (BitVec 8)) : val l < 256 ^ l.length := by
  induction h : l.length generalizing l with
  | zero => rw [List.length_eq_zero_iff] at h; subst h; decide
  | succ n ih =>
    obtain ⟨m, c, rfl⟩ : ∃ m c, l = m ++ [c] := ⟨l.dropLast, l.getLast (by intro e; subst e; cases h), (List.dropLast_concat_getLast _).symm⟩
    have hm : m.length = n := by simpa using h
    have := ih m hm
    have hc := c.isLt
    rw [val_snoc, Nat.pow_succ]
    omega

/-! ### bits, one by one -/
structure Rc where
  p : List Int
  V : Nat
  span : Nat
  k : Nat
def Rc.part (s : Rc) (a : Nat) : Nat := s.span / 2048 * (s.p.getD a 0).toNat
/-- ahead of what makes the span great again -/
def Rc.mid (s : Rc) (a : Nat) (b : Bool) : Rc := ⟨s.p.set a (learnI (s.p.getD a 0) b), if b then s.V + s.part a else s.V, if b then s.span - s.part a else s.part a, s.k⟩
def Rc.norm (s : Rc) : Rc := if s.span < 16777216 then ⟨s.p, s.V * 256, s.span * 256, s.k + 1⟩ else s
def Rc.step (s : Rc) (a : Nat) (b : Bool) : Rc := (s.mid a b).norm
structure Rc.Good (s : Rc) : Prop where
  may : s.p.all mayB = true
  lo : 16777216 ≤ s.span
  hi : s.span < 4294967296
theorem all_get {p : List Int} {a : Nat} (h : p.all mayB = true) (ha : a < p.length) : mayB (p.getD a 0) = true := by
  rw [List.getD_eq_getElem?_getD, List.getElem?_eq_getElem ha]
  exact List.all_eq_true.1 h _ (List.getElem_mem ha)
theorem all_set {p : List Int} {a : Nat} {v : Int} (h : p.all mayB = true) (hv : mayB v = true) : (p.set a v).all mayB = true := by
  rw [List.all_eq_true] at *
  intro x hx
  rcases List.mem_or_eq_of_mem_set hx with hx | rfl
  · exact h x hx
  · exact hv
theorem part_bounds {s : Rc} (h : s.Good) {a : Nat} (ha : a < s.p.length) : 253952 ≤ s.part a ∧ s.part a + 253952 ≤ s.span ∧ s.span ≤ 128 * s.part a ∧ s.span ≤ 128 * (s.span - s.part a) := by
  obtain ⟨h1, h2⟩ := (mayB_iff _).1 (all_get h.may ha)
  unfold Rc.part
  generalize hp : (s.p.getD a 0).toNat = p
  have p1 : 31 ≤ p := by omega
  have p2 : p ≤ 2017 := by omega
  have hl := h.lo
  generalize s.span = x at *
  have hq : 8192 ≤ x / 2048 := by omega
  have hq2 : x / 2048 * 2048 ≤ x := by omega
  have hq3 : x < x / 2048 * 2048 + 2048 := by omega
  generalize x / 2048 = q at *
  have l1 : 8192 * 31 ≤ q * p := Nat.mul_le_mul hq p1
  have l2 : q * p ≤ q * 2017 := Nat.mul_le_mul_left _ p2
  have l3 : q * 31 ≤ q * p := Nat.mul_le_mul_left _ p1
  omega
theorem mid_span {s : Rc} (h : s.Good) {a : Nat} (b : Bool) (ha : a < s.p.length) : 253952 ≤ (s.mid a b).span ∧ (s.mid a b).span < 4294967296 ∧ s.span ≤ 128 * (s.mid a b).span := by
  obtain ⟨h1, h2, h3, h4⟩ := part_bounds h ha
  have := h.hi
  cases b <;> simp only [Rc.mid, if_true, Bool.false_eq_true, if_false] <;> omega
theorem mid_len (s : Rc) (a : Nat) (b : Bool) : (s.mid a b).p.length = s.p.length := by simp [Rc.mid]
theorem norm_p (s : Rc) : s.norm.p = s.p := by unfold Rc.norm; split <;> rfl
theorem step_len (s : Rc) (a : Nat) (b : Bool) : (s.step a b).p.length = s.p.length := by unfold Rc.step; rw [norm_p, mid_len]
theorem step_good {s : Rc} (h : s.Good) {a : Nat} (b : Bool) (ha : a < s.p.length) : (s.step a b).Good := by
  obtain ⟨h1, h2, h3⟩ := mid_span h b ha
  have hm : (s.mid a b).p.all mayB = true := all_set h.may (may_learn b (all_get h.may ha))
  unfold Rc.step Rc.norm
  split
  · exact ⟨hm, by dsimp only; omega, by dsimp only; omega⟩
  · exact ⟨hm, by omega, by omega⟩
/-- what is known of a state that comes later -/
structure Later (s t : Rc) : Prop where
  k : s.k ≤ t.k
  lo : s.V * 256 ^ (t.k - s.k) ≤ t.V
  hi : t.V + t.span ≤ (s.V + s.span) * 256 ^ (t.k - s.k)
theorem Later.refl (s : Rc) : Later s s := ⟨Nat.le_refl _, by simp, by simp⟩
theorem Later.trans {s t u : Rc} (h : Later s t) (g : Later t u) : Later s u := by
  have e : u.k - s.k = (t.k - s.k) + (u.k - t.k) := by have := h.k; have := g.k; omega
  refine ⟨Nat.le_trans h.k g.k, ?_, ?_⟩
  · rw [e, Nat.pow_add, ← Nat.mul_assoc]
    exact Nat.le_trans (Nat.mul_le_mul_right _ h.lo) g.lo
  · rw [e, Nat.pow_add, ← Nat.mul_assoc]
    exact Nat.le_trans g.hi (Nat.mul_le_mul_right _ h.hi)
theorem later_norm (s : Rc) : Later s s.norm := by
  unfold Rc.norm
  split
  · refine ⟨by dsimp only; omega, ?_, ?_⟩ <;> dsimp only <;> rw [show s.k + 1 - s.k = 1 by omega, Nat.pow_one] <;> omega
  · exact .refl s
theorem later_mid {s : Rc} (h : s.Good) {a : Nat} (b : Bool) (ha : a < s.p.length) : Later s (s.mid a b) := by
  obtain ⟨h1, h2, _⟩ := part_bounds h ha
  refine ⟨Nat.le_refl _, ?_, ?_⟩ <;> cases b <;> simp only [Rc.mid, if_true, Bool.false_eq_true, if_false, Nat.sub_self, Nat.pow_zero, Nat.mul_one] <;> omega
theorem later_step {s : Rc} (h : s.Good) {a : Nat} (b : Bool) (ha : a < s.p.length) : Later s (s.step a b) := (later_mid h b ha).trans (later_norm _)

def Rc.run (s : Rc) (l : List (Nat × Bool)) : Rc := l.foldl (fun s x => s.step x.1 x.2) s
theorem run_append (s : Rc) (l r : List (Nat × Bool)) : s.run (l ++ r) = (s.run l).run r := by simp [Rc.run]
def within (n : Nat) (l : List (Nat × Bool)) : Prop := ∀ x ∈ l, x.1 < n
theorem run_facts : ∀ {l : List (Nat × Bool)} {s : Rc}, s.Good → within s.p.length l → (s.run l).Good ∧ Later s (s.run l) ∧ (s.run l).p.length = s.p.length ∧ 256 ^ ((s.run l).k - s.k) * s.span ≤ 128 ^ l.length * (s.run l).span
  | [], s, h, _ => ⟨h, .refl s, rfl, by simp [Rc.run]⟩
  | x :: l, s, h, hw => by
    have hx : x.1 < s.p.length := hw x List.mem_cons_self
    have g := step_good h x.2 hx
    have hl := later_step h x.2 hx
    obtain ⟨i1, i2, i3, i4⟩ := run_facts (l := l) g (fun y hy => by rw [step_len]; exact hw y (List.mem_cons_of_mem _ hy))
    refine ⟨i1, hl.trans i2, i3.trans (step_len _ _ _), ?_⟩
    show 256 ^ (((s.step x.1 x.2).run l).k - s.k) * s.span ≤ 128 ^ (l.length + 1) * ((s.step x.1 x.2).run l).span
    have k1 := hl.k
    have k2 := i2.k
    rw [show ((s.step x.1 x.2).run l).k - s.k = (((s.step x.1 x.2).run l).k - (s.step x.1 x.2).k) + ((s.step x.1 x.2).k - s.k) by omega, Nat.pow_add, Nat.pow_succ]
    have hs : 256 ^ ((s.step x.1 x.2).k - s.k) * s.span ≤ 128 * (s.step x.1 x.2).span := by
      obtain ⟨_, _, m3⟩ := mid_span h x.2 hx
      unfold Rc.step Rc.norm
      split
      · dsimp only
        rw [show (s.mid x.1 x.2).k + 1 - s.k = 1 by show s.k + 1 - s.k = 1; omega, Nat.pow_one]
        omega
      · rw [show (s.mid x.1 x.2).k - s.k = 0 by show s.k - s.k = 0; omega, Nat.pow_zero, Nat.one_mul]
        exact m3
    generalize ((s.step x.1 x.2).run l).span = z at *
    generalize 256 ^ (((s.step x.1 x.2).run l).k - (s.step x.1 x.2).k) = A at *
    generalize 256 ^ ((s.step x.1 x.2).k - s.k) = B at *
    generalize (s.step x.1 x.2).span = y at *
    generalize 128 ^ l.length = C at *
    calc A * B * s.span = A * (B * s.span) := Nat.mul_assoc _ _ _
      _ ≤ A * (128 * y) := Nat.mul_le_mul_left _ hs
      _ = 128 * (A * y) := by rw [Nat.mul_left_comm]
      _ ≤ 128 * (C * z) := Nat.mul_le_mul_left _ i4
      _ = C * 128 * z := by rw [← Nat.mul_assoc, Nat.mul_comm 128 C]
def start (n : Nat) : Rc := ⟨List.replicate n 1024, 0, 4294967295, 0⟩
theorem start_good (n : Nat) : (start n).Good := ⟨by simp only [start]; rw [List.all_replicate]; simp [mayB], (by decide : 16777216 ≤ 4294967295), (by decide : 4294967295 < 4294967296)⟩
def enc (n : Nat) (l : List (Nat × Bool)) : Rc := (start n).run l
theorem start_len (n : Nat) : (start n).p.length = n := by simp [start]
theorem enc_facts {n : Nat} {l : List (Nat × Bool)} (h : within n l) : (enc n l).Good ∧ (enc n l).V < 256 ^ (4 + (enc n l).k) ∧ (enc n l).p.length = n ∧ 8 * (enc n l).k ≤ 7 * l.length := by
  obtain ⟨h1, h2, h3, h4⟩ := run_facts (l := l) (start_good n) (by rw [start_len]; exact h)
  refine ⟨h1, ?_, by rw [start_len] at h3; exact h3, ?_⟩
  · have hh := h2.hi
    have h0 : (start n).V + (start n).span = 4294967295 := by simp [start]
    have hk : (start n).k = 0 := rfl
    rw [h0, hk, Nat.sub_zero] at hh
    have hs := h1.lo
    show ((start n).run l).V < 256 ^ (4 + ((start n).run l).k)
    rw [Nat.pow_add]
    generalize 256 ^ ((start n).run l).k = A at *
    have : 4294967295 * A ≤ 256 ^ 4 * A := Nat.mul_le_mul_right _ (by decide)
    omega
  · have hk : (start n).k = 0 := rfl
    have h0 : (start n).span = 4294967295 := by simp only [start]
    have hz := h1.hi
    rw [hk, h0, Nat.sub_zero] at h4
    show 8 * ((start n).run l).k ≤ _
    generalize ((start n).run l).span = z at *
    generalize ((start n).run l).k = K at *
    have h5 : 256 ^ K * 4294967295 ≤ 128 ^ l.length * 4294967295 := Nat.le_trans h4 (Nat.mul_le_mul_left _ (by omega))
    have h6 : 256 ^ K ≤ 128 ^ l.length := Nat.le_of_mul_le_mul_right h5 (by decide)
    rw [show 256 = 2 ^ 8 from rfl, show 128 = 2 ^ 7 from rfl, ← Nat.pow_mul, ← Nat.pow_mul] at h6
    exact (Nat.pow_le_pow_iff_right (by decide)).1 h6
/-- the text -/
def encT (n : Nat) (l : List (Nat × Bool)) : List (BitVec 8) := be (5 + (enc n l).k) (enc n l).V
theorem encT_length (n : Nat) (l : List (Nat × Bool)) : (encT n l).length = 5 + (enc n l).k := be_length _ _
theorem encT_val {n : Nat} {l : List (Nat × Bool)} (h : within n l) : val (encT n l) = (enc n l).V := by
  obtain ⟨_, h2, _⟩ := enc_facts h
  refine val_be _ _ (Nat.lt_of_lt_of_le h2 (Nat.pow_le_pow_right (by decide) (by omega)))

/-! ### read again -/
structure Rr where
  p : List Int
  code : Nat
  span : Nat
  used : Nat
def Rr.part (r : Rr) (a : Nat) : Nat := r.span / 2048 * (r.p.getD a 0).toNat
def Rr.set (r : Rr) (a : Nat) : Bool := decide (r.part a ≤ r.code)
def Rr.mid (r : Rr) (a : Nat) : Rr := ⟨r.p.set a (learnI (r.p.getD a 0) (r.set a)), if r.set a then r.code - r.part a else r.code, if r.set a then r.span - r.part a else r.part a, r.used⟩
/-- is there an octet, where one is wanted -/
def Rr.may (r : Rr) (b : List (BitVec 8)) (a : Nat) : Prop := (r.mid a).span < 16777216 → r.used < b.length
def Rr.norm (r : Rr) (b : List (BitVec 8)) : Rr := if r.span < 16777216 then ⟨r.p, r.code * 256 + (b.getD r.used 0).toNat, r.span * 256, r.used + 1⟩ else r
def Rr.next (r : Rr) (b : List (BitVec 8)) (a : Nat) : Rr := (r.mid a).norm b
def open_ (n : Nat) (b : List (BitVec 8)) : Rr := ⟨List.replicate n 1024, val ((b.drop 1).take 4), 4294967295, 5⟩
/-- may a text be begun to be read -/
def mayOpen (b : List (BitVec 8)) : Prop := 5 ≤ b.length ∧ b.getD 0 0 = 0 ∧ val ((b.drop 1).take 4) ≠ 4294967295
/-- the reader is where the writer was -/
structure Met (b : List (BitVec 8)) (s : Rc) (r : Rr) : Prop where
  p : r.p = s.p
  span : r.span = s.span
  used : r.used = 5 + s.k
  code : r.code + s.V = val (b.take (5 + s.k))
/-- up to what makes the span great again; t: where the writer comes to (its first octets are the text's) -/
theorem met_mid {b : List (BitVec 8)} {s : Rc} {r : Rr} {a : Nat} {x : Bool} (h : Met b s r) (hg : s.Good) (ha : a < s.p.length) {t : Rc} (hl : Later (s.mid a x) t) (hb : 5 + t.k ≤ b.length)
    (hv : t.V ≤ val (b.take (5 + t.k)) ∧ val (b.take (5 + t.k)) < t.V + t.span) :
    r.set a = x ∧ (r.mid a).span = (s.mid a x).span ∧ (r.mid a).p = (s.mid a x).p ∧ (r.mid a).used = 5 + s.k ∧ (r.mid a).code + (s.mid a x).V = val (b.take (5 + s.k)) := by
  have hpart : r.part a = s.part a := by unfold Rr.part Rc.part; rw [h.p, h.span]
  obtain ⟨b1, b2, _⟩ := part_bounds hg ha
  have hk := hl.k
  have hsk : (s.mid a x).k = s.k := rfl
  rw [hsk] at hk
  have hW : val (b.take (5 + s.k)) = val (b.take (5 + t.k)) / 256 ^ (t.k - s.k) := by
    have e2 : b.take (5 + s.k) = (b.take (5 + t.k)).take (5 + s.k) := by rw [List.take_take, Nat.min_eq_left (by omega)]
    have hlen : (b.take (5 + t.k)).length = (5 + s.k) + (t.k - s.k) := by rw [List.length_take]; omega
    have hlt := val_lt (b.take (5 + t.k))
    rw [hlen, Nat.pow_add] at hlt
    conv => lhs; rw [e2, ← be_val (b.take (5 + t.k)), hlen, be_take]
    exact val_be _ _ ((Nat.div_lt_iff_lt_mul (Nat.pow_pos (by decide))).2 hlt)
  have hm : (s.mid a x).V ≤ val (b.take (5 + s.k)) ∧ val (b.take (5 + s.k)) < (s.mid a x).V + (s.mid a x).span := by
    have hp : 0 < 256 ^ (t.k - s.k) := Nat.pow_pos (by decide)
    have l1 := hl.lo
    have l2 := hl.hi
    rw [hsk] at l1 l2
    rw [hW]
    refine ⟨(Nat.le_div_iff_mul_le hp).2 (by omega), (Nat.div_lt_iff_lt_mul hp).2 (by omega)⟩
  have hc := h.code
  generalize val (b.take (5 + s.k)) = Z at *
  have hset : r.set a = x := by
    unfold Rr.set
    rw [hpart]
    cases x
    · simp only [Rc.mid, Bool.false_eq_true, if_false] at hm
      simp only [decide_eq_false_iff_not]; omega
    · simp only [Rc.mid, if_true] at hm
      simp only [decide_eq_true_eq]; omega
  refine ⟨hset, ?_, ?_, h.used, ?_⟩
  · unfold Rr.mid Rc.mid
    rw [hset, hpart, h.span]
  · unfold Rr.mid Rc.mid
    rw [hset, h.p]
  · unfold Rr.mid Rc.mid
    rw [hset, hpart]
    cases x
    · simp only [Bool.false_eq_true, if_false]; exact hc
    · simp only [Rc.mid, if_true] at hm ⊢; omega
theorem met_step {b : List (BitVec 8)} {s : Rc} {r : Rr} {a : Nat} {x : Bool} (h : Met b s r) (hg : s.Good) (ha : a < s.p.length) {t : Rc} (hl : Later (s.step a x) t) (hb : 5 + t.k ≤ b.length)
    (hv : t.V ≤ val (b.take (5 + t.k)) ∧ val (b.take (5 + t.k)) < t.V + t.span) :
    r.set a = x ∧ r.may b a ∧ Met b (s.step a x) (r.next b a) := by
  obtain ⟨hset, hspan, hpp, hused, hcode⟩ := met_mid h hg ha ((later_norm _).trans hl) hb hv
  refine ⟨hset, ?_, ?_⟩
  · intro hlt
    rw [hspan] at hlt
    have hk := hl.k
    rw [h.used]
    unfold Rc.step Rc.norm at hk
    rw [if_pos hlt] at hk
    have : (s.mid a x).k = s.k := rfl
    dsimp only at hk
    omega
  · have hk := hl.k
    unfold Rr.next Rr.norm
    unfold Rc.step Rc.norm at hk ⊢
    rw [hspan]
    have hsk : (s.mid a x).k = s.k := rfl
    split
    · rename_i hlt
      rw [if_pos hlt] at hk
      dsimp only at hk
      rw [hsk] at hk
      refine ⟨hpp, rfl, by dsimp only; rw [hused, hsk]; omega, ?_⟩
      dsimp only
      rw [hused, hsk, show 5 + (s.k + 1) = (5 + s.k) + 1 by omega, List.take_succ_eq_append_getElem (show 5 + s.k < b.length by omega), val_snoc, ← hcode]
      have : b.getD (5 + s.k) 0 = b[5 + s.k]'(by omega) := by simp [show 5 + s.k < b.length by omega]
      rw [this]
      omega
    · exact ⟨hpp, hspan, hused, hcode⟩

def rdN (b : List (BitVec 8)) (r : Rr) (l : List Nat) : Rr := l.foldl (fun r a => r.next b a) r
theorem rdN_snoc (b : List (BitVec 8)) (r : Rr) (l : List Nat) (a : Nat) : rdN b r (l ++ [a]) = (rdN b r l).next b a := by simp [rdN]
/-- bits, read one by one by their places, as long as the writer's later state is the text's -/
theorem met_run : ∀ {l : List (Nat × Bool)} {b : List (BitVec 8)} {s : Rc} {r : Rr} {t : Rc}, s.Good → within s.p.length l → Met b s r → Later (s.run l) t → 5 + t.k ≤ b.length →
    (t.V ≤ val (b.take (5 + t.k)) ∧ val (b.take (5 + t.k)) < t.V + t.span) →
    (∀ j (hj : j < l.length), (rdN b r ((l.take j).map Prod.fst)).set l[j].1 = l[j].2 ∧ (rdN b r ((l.take j).map Prod.fst)).may b l[j].1) ∧ Met b (s.run l) (rdN b r (l.map Prod.fst))
  | [], b, s, r, t, _, _, hm, _, _, _ => ⟨fun j hj => absurd hj (Nat.not_lt_zero j), hm⟩
  | x :: l, b, s, r, t, hg, hw, hm, hl, hb, hv => by
    have hx : x.1 < s.p.length := hw x List.mem_cons_self
    have g := step_good hg x.2 hx
    have hw' : within (s.step x.1 x.2).p.length l := fun y hy => by rw [step_len]; exact hw y (List.mem_cons_of_mem _ hy)
    obtain ⟨_, f2, _⟩ := run_facts g hw'
    have hl' : Later ((s.step x.1 x.2).run l) t := hl
    obtain ⟨m1, m2, m3⟩ := met_step hm hg hx (f2.trans hl') hb hv
    obtain ⟨i1, i2⟩ := met_run g hw' m3 hl' hb hv
    refine ⟨fun j hj => ?_, i2⟩
    cases j with
    | zero => exact ⟨m1, m2⟩
    | succ j => exact i1 j (by simpa using hj)
theorem val_zero_cons (l : List (BitVec 8)) : val (0#8 :: l) = val l := by simp [val]
theorem start_met {b : List (BitVec 8)} (n : Nat) (h5 : 5 ≤ b.length) (h0 : b.getD 0 0 = 0#8) : Met b (start n) (open_ n b) := by
  refine ⟨rfl, rfl, rfl, ?_⟩
  show val ((b.drop 1).take 4) + 0 = val (b.take 5)
  obtain ⟨c, m, rfl⟩ : ∃ c m, b = c :: m := by
    cases b with
    | nil => simp at h5
    | cons c m => exact ⟨c, m, rfl⟩
  simp only [List.getD_cons_zero] at h0
  subst h0
  rw [List.drop_succ_cons, List.drop_zero, List.take_succ_cons, val_zero_cons]; rfl
/-- a text that begins with what was written -/
structure Begins (n : Nat) (l : List (Nat × Bool)) (b : List (BitVec 8)) : Prop where
  len : 5 + (enc n l).k ≤ b.length
  pre : b.take (5 + (enc n l).k) = encT n l
theorem begins_val {n : Nat} {l : List (Nat × Bool)} {b : List (BitVec 8)} (hw : within n l) (h : Begins n l b) : (enc n l).V ≤ val (b.take (5 + (enc n l).k)) ∧ val (b.take (5 + (enc n l).k)) < (enc n l).V + (enc n l).span := by
  rw [h.pre, encT_val hw]
  have := (enc_facts hw).1.lo
  omega
theorem encT_head {n : Nat} {l : List (Nat × Bool)} (hw : within n l) : (encT n l).take 1 = [0#8] := by
  obtain ⟨_, hV, _⟩ := enc_facts hw
  unfold encT
  rw [show 5 + (enc n l).k = 1 + (4 + (enc n l).k) by omega, be_take, Nat.div_eq_of_lt hV]; rfl
/-- its first five octets may be begun with -/
theorem encT_five {n : Nat} {l : List (Nat × Bool)} (hw : within n l) : val ((encT n l).take 5) ≠ 4294967295 := by
  obtain ⟨h1, h2, _⟩ := run_facts (l := l) (start_good n) (by rw [start_len]; exact hw)
  have hh := h2.hi
  have h0 : (start n).V + (start n).span = 4294967295 := by simp [start]
  have hk : (start n).k = 0 := rfl
  have hs := h1.lo
  rw [h0, hk, Nat.sub_zero] at hh
  have hV : (enc n l).V < 4294967295 * 256 ^ (enc n l).k := by show ((start n).run l).V < 4294967295 * 256 ^ ((start n).run l).k; omega
  unfold encT
  rw [be_take]
  have hd := (Nat.div_lt_iff_lt_mul (Nat.pow_pos (by decide))).2 hV
  rw [val_be _ _ (Nat.lt_trans hd (by decide))]
  omega
theorem begins_open {n : Nat} {l : List (Nat × Bool)} {b : List (BitVec 8)} (hw : within n l) (hb : 5 ≤ b.length) (hp : b.take 5 = (encT n l).take 5) : mayOpen b ∧ Met b (start n) (open_ n b) := by
  have h0 : b.getD 0 0 = 0#8 := by
    have := congrArg (List.take 1) hp
    rw [List.take_take, List.take_take, Nat.min_eq_left (by decide), encT_head hw] at this
    cases b with
    | nil => simp at hb
    | cons c m => simpa using this
  have hm := start_met n hb h0
  refine ⟨⟨hb, h0, ?_⟩, hm⟩
  have hc := hm.code
  have e : val (b.take 5) ≠ 4294967295 := by rw [hp]; exact encT_five hw
  intro he
  apply e
  rw [← he]
  exact hc.symm
/-- what was written is read: the bits up to any place, by the same places -/
theorem back_run {n : Nat} {l : List (Nat × Bool)} {b : List (BitVec 8)} (hw : within n l) (h : Begins n l b) (c : Nat) :
    mayOpen b ∧ (∀ j (hj : j < (l.take c).length), (rdN b (open_ n b) (((l.take c).take j).map Prod.fst)).set (l.take c)[j].1 = (l.take c)[j].2 ∧ (rdN b (open_ n b) (((l.take c).take j).map Prod.fst)).may b (l.take c)[j].1) ∧
    (rdN b (open_ n b) ((l.take c).map Prod.fst)).used = 5 + (enc n (l.take c)).k := by
  have hb5 : 5 ≤ b.length := by have := h.len; omega
  have hp5 : b.take 5 = (encT n l).take 5 := by
    rw [← h.pre, List.take_take, Nat.min_eq_left (by omega)]
  obtain ⟨o1, o2⟩ := begins_open hw hb5 hp5
  have hwc : within (start n).p.length (l.take c) := fun x hx => by rw [start_len]; exact hw x (List.mem_of_mem_take hx)
  obtain ⟨f1, _, f3, _⟩ := run_facts (start_good n) hwc
  have hld : Later ((start n).run (l.take c)) (enc n l) := by
    have e : enc n l = ((start n).run (l.take c)).run (l.drop c) := by rw [← run_append, List.take_append_drop]; rfl
    rw [e]
    refine (run_facts f1 fun x hx => ?_).2.1
    rw [f3, start_len]
    exact hw x (List.mem_of_mem_drop hx)
  obtain ⟨r1, r2⟩ := met_run (start_good n) hwc o2 hld h.len (begins_val hw h)
  exact ⟨o1, r1, r2.used⟩
/-- where the last octet comes in -/
theorem last_norm : ∀ {l : List (Nat × Bool)} {s : Rc}, s.k < (s.run l).k → ∃ l1 x l2, l = l1 ++ x :: l2 ∧ (s.run l1).k + 1 = (s.run l).k ∧ ((s.run l1).step x.1 x.2).k = (s.run l).k
  | [], s, h => absurd h (Nat.lt_irrefl _)
  | x :: l, s, h => by
    by_cases h1 : (s.step x.1 x.2).k < ((s.step x.1 x.2).run l).k
    · obtain ⟨l1, y, l2, e, e1, e2⟩ := last_norm h1
      exact ⟨x :: l1, y, l2, by rw [e]; rfl, e1, e2⟩
    · have hle : (s.step x.1 x.2).k ≤ ((s.step x.1 x.2).run l).k := by
        have : ∀ (l : List (Nat × Bool)) (u : Rc), u.k ≤ (u.run l).k := by
          intro l
          induction l with
          | nil => exact fun u => Nat.le_refl _
          | cons y l ih => exact fun u => Nat.le_trans (by unfold Rc.step Rc.norm; split <;> simp [Rc.mid]) (ih (u.step y.1 y.2))
        exact this l _
      have hs : (s.step x.1 x.2).k ≤ s.k + 1 := by unfold Rc.step Rc.norm; split <;> simp [Rc.mid]
      have h' : s.k < ((s.step x.1 x.2).run l).k := h
      refine ⟨[], x, l, rfl, ?_, ?_⟩
      · show s.k + 1 = ((s.step x.1 x.2).run l).k; omega
      · show (s.step x.1 x.2).k = ((s.step x.1 x.2).run l).k; omega
/-- without its last octet a text is not read to its end -/
theorem short_run {n : Nat} {l : List (Nat × Bool)} (hw : within n l) (hk : 0 < (enc n l).k) {b : List (BitVec 8)} (hb : b = (encT n l).take (4 + (enc n l).k)) :
    mayOpen b ∧ ∃ j, ∃ hj : j < l.length, (∀ i (hi : i < j), (rdN b (open_ n b) ((l.take i).map Prod.fst)).may b (l[i]'(by omega)).1) ∧ ¬ (rdN b (open_ n b) ((l.take j).map Prod.fst)).may b l[j].1 := by
  have hlen : b.length = 4 + (enc n l).k := by rw [hb, List.length_take, encT_length]; omega
  have hp5 : b.take 5 = (encT n l).take 5 := by rw [hb, List.take_take, Nat.min_eq_left (by omega)]
  obtain ⟨o1, o2⟩ := begins_open hw (by omega) hp5
  refine ⟨o1, ?_⟩
  obtain ⟨l1, x, l2, hl, e1, e2⟩ := last_norm (l := l) (s := start n) hk
  have hw1 : within (start n).p.length l1 := fun y hy => by rw [start_len]; exact hw y (by rw [hl]; simp [hy])
  obtain ⟨g1, _, g3, _⟩ := run_facts (start_good n) hw1
  have hx : x.1 < ((start n).run l1).p.length := by rw [g3, start_len]; exact hw x (by rw [hl]; simp)
  have hstep := later_step g1 x.2 hx
  have hmid := later_mid g1 x.2 hx
  have hfin : Later (((start n).run l1).step x.1 x.2) (enc n l) := by
    have e : enc n l = (((start n).run l1).step x.1 x.2).run l2 := by unfold enc; rw [hl, run_append]; rfl
    rw [e]
    refine (run_facts (step_good g1 x.2 hx) fun y hy => ?_).2.1
    rw [step_len, g3, start_len]
    exact hw y (by rw [hl]; simp [hy])
  have hmf : Later (((start n).run l1).mid x.1 x.2) (enc n l) := (later_norm _).trans hfin
  have hmk : (((start n).run l1).mid x.1 x.2).k = ((start n).run l1).k := rfl
  have hK : ((start n).run l1).k + 1 = (enc n l).k := e1
  -- the text's number
  have hval : val b = (enc n l).V / 256 := by
    rw [hb]
    unfold encT
    rw [show 5 + (enc n l).k = (4 + (enc n l).k) + 1 by omega, be_take, Nat.pow_one, val_be]
    have := (enc_facts hw).2.1
    omega
  have hbt : b.take (5 + (((start n).run l1).mid x.1 x.2).k) = b := List.take_of_length_le (by rw [hmk]; omega)
  have hv : (((start n).run l1).mid x.1 x.2).V ≤ val (b.take (5 + (((start n).run l1).mid x.1 x.2).k)) ∧ val (b.take (5 + (((start n).run l1).mid x.1 x.2).k)) < (((start n).run l1).mid x.1 x.2).V + (((start n).run l1).mid x.1 x.2).span := by
    rw [hbt, hval]
    have h1 := hmf.lo
    have h2 := hmf.hi
    rw [hmk, show (enc n l).k - ((start n).run l1).k = 1 by omega, Nat.pow_one] at h1 h2
    have h3 := (enc_facts hw).1.lo
    omega
  have hb' : 5 + (((start n).run l1).mid x.1 x.2).k ≤ b.length := by rw [hmk]; omega
  obtain ⟨r1, r2⟩ := met_run (start_good n) hw1 o2 hmid hb' hv
  obtain ⟨_, m2, _, m4, _⟩ := met_mid r2 g1 hx (Later.refl _) hb' hv
  have hj : l1.length < l.length := by rw [hl]; simp
  have hlj : l[l1.length] = x := by simp [hl]
  have htk : ∀ i, i ≤ l1.length → l.take i = l1.take i := fun i hi => by rw [hl, List.take_append_of_le_length hi]
  refine ⟨l1.length, hj, fun i hi => ?_, ?_⟩
  · have h1 := (r1 i hi).2
    rw [htk i (by omega)]
    have : l[i]'(by omega) = l1[i] := by simp [hl, List.getElem_append_left hi]
    rw [this]; exact h1
  · rw [htk _ (Nat.le_refl _), List.take_length, hlj]
    intro hmay
    have hlt : (((start n).run l1).mid x.1 x.2).span < 16777216 := by
      have h1 : (((start n).run l1).step x.1 x.2).k = ((start n).run l1).k + 1 := by rw [e2]; exact e1.symm
      unfold Rc.step Rc.norm at h1
      split at h1
      · assumption
      · rw [hmk] at h1; omega
    have := hmay (by rw [m2]; exact hlt)
    have hu := r2.used
    omega
/-- no two lists of bits, by the same places, are written to one text -/
theorem encT_inj {n : Nat} {l m : List (Nat × Bool)} (hl : within n l) (hp : l.map Prod.fst = m.map Prod.fst) (h : encT n l = encT n m) : l = m := by
  have hm : within n m := fun x hx => by
    have : x.1 ∈ l.map Prod.fst := by rw [hp]; exact List.mem_map_of_mem hx
    obtain ⟨y, hy, e⟩ := List.mem_map.1 this
    rw [← e]; exact hl y hy
  have hk := congrArg List.length h
  rw [encT_length, encT_length] at hk
  have b1 : Begins n l (encT n l) := ⟨by rw [encT_length]; exact Nat.le_refl _, List.take_of_length_le (by rw [encT_length]; exact Nat.le_refl _)⟩
  have b2 : Begins n m (encT n l) := ⟨by rw [h, encT_length]; exact Nat.le_refl _, by rw [h]; exact List.take_of_length_le (by rw [encT_length]; exact Nat.le_refl _)⟩
  obtain ⟨_, r1, _⟩ := back_run hl b1 l.length
  obtain ⟨_, r2, _⟩ := back_run hm b2 m.length
  simp only [List.take_length] at r1 r2
  have hlen : l.length = m.length := by have := congrArg List.length hp; simpa using this
  apply List.ext_getElem hlen
  intro j h1 h2
  have e1 := (r1 j h1).1
  have e2 := (r2 j h2).1
  have hf : l[j].1 = m[j].1 := by
    have := congrArg (fun z => z[j]?) hp
    simpa [h1, h2] using this
  have ht : (l.take j).map Prod.fst = (m.take j).map Prod.fst := by rw [List.map_take, List.map_take, hp]
  rw [ht, hf, e2] at e1
  exact Prod.ext hf e1.symm
end Go.Kc
