/- How short what is packed is. No program in sight. -/
import Derived.Test.YtnkpjmcgecdkfaaZm
import Derived.Test.YtnkpjmcgecdkfaaMr
namespace Go.Kc
set_option maxRecDepth 20000 in
/-- a step that is not surprising costs about a bit -/
theorem cheap_step {s : Rc} (h : s.Good) {a : Nat} (b : Bool) (ha : a < s.p.length) (hw : if b then s.p.getD a 0 ≤ 1024 else 1024 ≤ s.p.getD a 0) : 256 ^ ((s.step a b).k - s.k) * s.span * 4096 ≤ 8193 * (s.step a b).span := by
  obtain ⟨h1, h2⟩ := (mayB_iff _).1 (all_get h.may ha)
  have hm : s.span * 4096 ≤ 8193 * (s.mid a b).span := by
    have hl := h.lo
    simp only [Rc.mid, Rc.part]
    generalize hp : s.p.getD a 0 = p at *
    obtain ⟨q, rfl⟩ : ∃ q : Nat, p = (q : Int) := ⟨p.toNat, by omega⟩
    rw [Int.toNat_natCast]
    generalize s.span = x at *
    have hq2 : x / 2048 * 2048 ≤ x := by omega
    have hq3 : x < x / 2048 * 2048 + 2048 := by omega
    have hq : 8192 ≤ x / 2048 := by omega
    generalize x / 2048 = y at *
    cases b
    · simp only [Bool.false_eq_true, if_false] at hw ⊢
      have : y * 1024 ≤ y * q := Nat.mul_le_mul_left _ (by omega)
      omega
    · simp only [if_true] at hw ⊢
      have : y * q ≤ y * 1024 := Nat.mul_le_mul_left _ (by omega)
      omega
  unfold Rc.step Rc.norm
  split
  · dsimp only
    rw [show (s.mid a b).k + 1 - s.k = 1 by show s.k + 1 - s.k = 1; omega, Nat.pow_one]
    omega
  · rw [show (s.mid a b).k - s.k = 0 by show s.k - s.k = 0; omega, Nat.pow_zero, Nat.one_mul]
    exact hm
theorem dear_step {s : Rc} (h : s.Good) {a : Nat} (b : Bool) (ha : a < s.p.length) : 256 ^ ((s.step a b).k - s.k) * s.span ≤ 128 * (s.step a b).span := by
  obtain ⟨_, _, m3⟩ := mid_span h b ha
  unfold Rc.step Rc.norm
  split
  · dsimp only
    rw [show (s.mid a b).k + 1 - s.k = 1 by show s.k + 1 - s.k = 1; omega, Nat.pow_one]
    omega
  · rw [show (s.mid a b).k - s.k = 0 by show s.k - s.k = 0; omega, Nat.pow_zero, Nat.one_mul]
    exact m3
/-- which bit a place favours -/
def Favours (fav : Nat → Option Bool) (p : List Int) : Prop := ∀ a, a < p.length → match fav a with
  | some true => p.getD a 0 ≤ 1024
  | some false => 1024 ≤ p.getD a 0
  | none => True
theorem step_p (s : Rc) (a : Nat) (b : Bool) : (s.step a b).p = s.p.set a (learnI (s.p.getD a 0) b) := by unfold Rc.step; rw [norm_p]; rfl
theorem favours_step {fav : Nat → Option Bool} {s : Rc} (hg : s.Good) (h : Favours fav s.p) {a : Nat} {b : Bool} (ha : a < s.p.length) (hf : fav a = some b ∨ fav a = none) : Favours fav (s.step a b).p := by
  intro j hj
  rw [step_p] at hj ⊢
  rw [List.length_set] at hj
  have h0 := h j hj
  obtain ⟨m1, m2⟩ := (mayB_iff _).1 (all_get hg.may ha)
  by_cases e : a = j
  · subst e
    have hv : (s.p.set a (learnI (s.p.getD a 0) b)).getD a 0 = learnI (s.p.getD a 0) b := by
      rw [List.getD_eq_getElem?_getD, List.getElem?_set_self ha]; rfl
    rw [hv]
    rcases hf with hf | hf
    · rw [hf] at h0 ⊢
      cases b
      · simp only at h0 ⊢
        simp only [learnI, Bool.false_eq_true, if_false]
        omega
      · simp only at h0 ⊢
        simp only [learnI, if_true]
        omega
    · rw [hf]; trivial
  · have hv : (s.p.set a (learnI (s.p.getD a 0) b)).getD j 0 = s.p.getD j 0 := by
      rw [List.getD_eq_getElem?_getD, List.getElem?_set_ne e, ← List.getD_eq_getElem?_getD]
    rw [hv]; exact h0
def cheapN (fav : Nat → Option Bool) (l : List (Nat × Bool)) : Nat := l.countP fun x => fav x.1 == some x.2
def dearN (fav : Nat → Option Bool) (l : List (Nat × Bool)) : Nat := l.countP fun x => !(fav x.1 == some x.2)
theorem run_cost {fav : Nat → Option Bool} : ∀ {l : List (Nat × Bool)} {s : Rc}, s.Good → within s.p.length l → Favours fav s.p → (∀ x ∈ l, fav x.1 = some x.2 ∨ fav x.1 = none) →
    256 ^ ((s.run l).k - s.k) * s.span * 4096 ^ (cheapN fav l) ≤ 8193 ^ (cheapN fav l) * 128 ^ (dearN fav l) * (s.run l).span
  | [], s, _, _, _, _ => by simp [Rc.run, cheapN, dearN]
  | x :: l, s, h, hw, hf, hc => by
    have hx : x.1 < s.p.length := hw x List.mem_cons_self
    have g := step_good h x.2 hx
    have hl := later_step h x.2 hx
    have hw2 : within (s.step x.1 x.2).p.length l := fun y hy => by rw [step_len]; exact hw y (List.mem_cons_of_mem _ hy)
    have ih := run_cost (l := l) g hw2 (favours_step h hf hx (hc x List.mem_cons_self)) (fun y hy => hc y (List.mem_cons_of_mem _ hy))
    obtain ⟨_, i2, _, _⟩ := run_facts g hw2
    have k1 := hl.k
    have k2 := i2.k
    show 256 ^ (((s.step x.1 x.2).run l).k - s.k) * s.span * _ ≤ _ * ((s.step x.1 x.2).run l).span
    rw [show ((s.step x.1 x.2).run l).k - s.k = (((s.step x.1 x.2).run l).k - (s.step x.1 x.2).k) + ((s.step x.1 x.2).k - s.k) by omega, Nat.pow_add]
    unfold cheapN dearN at ih ⊢
    rw [List.countP_cons, List.countP_cons]
    by_cases hfx : fav x.1 = some x.2
    · have e1 : (fav x.1 == some x.2) = true := by rw [hfx]; simp
      rw [e1]
      simp only [if_true, Bool.not_true, Bool.false_eq_true, if_false, Nat.add_zero]
      have hs := cheap_step h x.2 hx (by
        have h0 := hf x.1 hx
        rw [hfx] at h0
        cases hb : x.2
        · rw [hb] at h0; simpa using h0
        · rw [hb] at h0; simpa using h0)
      rw [Nat.pow_succ, Nat.pow_succ]
      generalize ((s.step x.1 x.2).run l).span = z at *
      generalize 256 ^ (((s.step x.1 x.2).run l).k - (s.step x.1 x.2).k) = A at *
      generalize 256 ^ ((s.step x.1 x.2).k - s.k) = B at *
      generalize (s.step x.1 x.2).span = y at *
      generalize List.countP (fun x => fav x.1 == some x.2) l = F at *
      generalize List.countP (fun x => !(fav x.1 == some x.2)) l = G at *
      calc A * B * s.span * (4096 ^ F * 4096) = (A * 4096 ^ F) * (B * s.span * 4096) := by ac_rfl
        _ ≤ (A * 4096 ^ F) * (8193 * y) := Nat.mul_le_mul_left _ hs
        _ = 8193 * (A * y * 4096 ^ F) := by ac_rfl
        _ ≤ 8193 * (8193 ^ F * 128 ^ G * z) := Nat.mul_le_mul_left _ ih
        _ = 8193 ^ F * 8193 * 128 ^ G * z := by ac_rfl
    · have e1 : (fav x.1 == some x.2) = false := by simpa using hfx
      rw [e1]
      simp only [if_true, Bool.not_false, Bool.false_eq_true, if_false, Nat.add_zero]
      have hs := dear_step h x.2 hx
      rw [Nat.pow_succ 128]
      generalize ((s.step x.1 x.2).run l).span = z at *
      generalize 256 ^ (((s.step x.1 x.2).run l).k - (s.step x.1 x.2).k) = A at *
      generalize 256 ^ ((s.step x.1 x.2).k - s.k) = B at *
      generalize (s.step x.1 x.2).span = y at *
      generalize List.countP (fun x => fav x.1 == some x.2) l = F at *
      generalize List.countP (fun x => !(fav x.1 == some x.2)) l = G at *
      calc A * B * s.span * 4096 ^ F = (A * 4096 ^ F) * (B * s.span) := by ac_rfl
        _ ≤ (A * 4096 ^ F) * (128 * y) := Nat.mul_le_mul_left _ hs
        _ = 128 * (A * y * 4096 ^ F) := by ac_rfl
        _ ≤ 128 * (8193 ^ F * 128 ^ G * z) := Nat.mul_le_mul_left _ ih
        _ = 8193 ^ F * (128 ^ G * 128) * z := by ac_rfl
theorem pow_near : ∀ f, f ≤ 250 → 8193 ^ f ≤ 8192 ^ f * 2 := by decide +kernel
/-- the octets behind the first five, of bits that begin with cheap ones -/
theorem enc_short {n : Nat} {fav : Nat → Option Bool} {l r : List (Nat × Bool)} (hw : within n (l ++ r)) (hf : Favours fav (List.replicate n 1024)) (hc : ∀ x ∈ l, fav x.1 = some x.2 ∨ fav x.1 = none) (h250 : cheapN fav l ≤ 250) :
    8 * (enc n (l ++ r)).k ≤ cheapN fav l + 1 + 7 * dearN fav l + 7 * r.length := by
  have hwl : within (start n).p.length l := by rw [start_len]; exact fun x hx => hw x (List.mem_append_left _ hx)
  obtain ⟨g1, g2, g3, _⟩ := run_facts (start_good n) hwl
  have h1 := run_cost (fav := fav) (start_good n) hwl hf hc
  have hwr : within ((start n).run l).p.length r := by rw [g3, start_len]; exact fun x hx => hw x (List.mem_append_right _ hx)
  obtain ⟨r1, r2, _, r4⟩ := run_facts g1 hwr
  have e : enc n (l ++ r) = ((start n).run l).run r := run_append _ _ _
  rw [e]
  have k2 := r2.k
  have hz := r1.hi
  have hs0 : (start n).span = 4294967295 := rfl
  have hk0 : (start n).k = 0 := rfl
  rw [hk0, Nat.sub_zero, hs0] at h1
  have hp := pow_near _ h250
  generalize (((start n).run l).run r).span = z at *
  generalize hK : (((start n).run l).run r).k = K at *
  generalize ((start n).run l).k = J at *
  generalize ((start n).run l).span = y at *
  generalize cheapN fav l = F at *
  generalize dearN fav l = G at *
  have h3 : 256 ^ K * 4294967295 * 4096 ^ F ≤ 8193 ^ F * 128 ^ G * 128 ^ r.length * z := by
    have eK : K = (K - J) + J := by omega
    rw [eK, Nat.pow_add]
    calc 256 ^ (K - J) * 256 ^ J * 4294967295 * 4096 ^ F = 256 ^ (K - J) * (256 ^ J * 4294967295 * 4096 ^ F) := by ac_rfl
      _ ≤ 256 ^ (K - J) * (8193 ^ F * 128 ^ G * y) := Nat.mul_le_mul_left _ h1
      _ = 8193 ^ F * 128 ^ G * (256 ^ (K - J) * y) := by ac_rfl
      _ ≤ 8193 ^ F * 128 ^ G * (128 ^ r.length * z) := Nat.mul_le_mul_left _ r4
      _ = _ := by ac_rfl
  have h4 : 256 ^ K * 4294967295 * 4096 ^ F ≤ 8192 ^ F * 2 * 128 ^ G * 128 ^ r.length * 4294967295 :=
    Nat.le_trans h3 (Nat.mul_le_mul (Nat.mul_le_mul_right _ (Nat.mul_le_mul_right _ hp)) (by omega))
  have h5 : 256 ^ K * 4096 ^ F ≤ 8192 ^ F * 2 * 128 ^ G * 128 ^ r.length := by
    refine Nat.le_of_mul_le_mul_right (c := 4294967295) ?_ (by decide)
    calc 256 ^ K * 4096 ^ F * 4294967295 = 256 ^ K * 4294967295 * 4096 ^ F := by ac_rfl
      _ ≤ _ := h4
  have h6 : 2 ^ (8 * K + 12 * F) ≤ 2 ^ (13 * F + 1 + 7 * G + 7 * r.length) := by
    have a1 : (256 : Nat) ^ K = 2 ^ (8 * K) := by rw [Nat.pow_mul]
    have a2 : (4096 : Nat) ^ F = 2 ^ (12 * F) := by rw [Nat.pow_mul]
    have a3 : (8192 : Nat) ^ F = 2 ^ (13 * F) := by rw [Nat.pow_mul]
    have a4 : (128 : Nat) ^ G = 2 ^ (7 * G) := by rw [Nat.pow_mul]
    have a5 : (128 : Nat) ^ r.length = 2 ^ (7 * r.length) := by rw [Nat.pow_mul]
    rw [a1, a2, a3, a4, a5] at h5
    rw [Nat.pow_add, Nat.pow_add, Nat.pow_add, Nat.pow_add, Nat.pow_one]
    exact h5
  have := (Nat.pow_le_pow_iff_right (by decide)).1 h6
  omega
end Go.Kc
namespace Go.Pz
open Go.Pb Go.Mt Go.Kc
theorem bitsAll_told {m : Nat} : ∀ {l : List Tok}, okFrom m l → (bitsAll l).length ≤ 9 * told l := by
  intro l
  induction l generalizing m with
  | nil => intro _; simp [bitsAll]
  | cons t r ih =>
    intro h
    have e : bitsAll (t :: r) = bitsOf t ++ bitsAll r := by simp [bitsAll]
    have := ih h.2
    have ht := h.1
    rw [e, List.length_append, bitsOf_length, told_cons]
    unfold Tok.ok at ht
    unfold Tok.size
    split <;> omega
/-- the tokens of one octet again and again -/
theorem toks_rep (n : Nat) (c : BitVec 8) : ∀ (f p : Nat), 0 < p → p ≤ n → n ≤ p + f →
    ∃ m rest, toksFrom (List.replicate n c) f p = List.replicate m ⟨0, 18, 1⟩ ++ rest ∧ 18 * m ≤ n - p ∧ (bitsAll rest).length ≤ 18
  | 0, p, h0, h1, h2 => ⟨0, [], rfl, by omega, by simp [bitsAll]⟩
  | f + 1, p, h0, h1, h2 => by
    by_cases hp : p < n
    · by_cases h18 : 18 ≤ n - p
      · have ht : tokAt (List.replicate n c) p = ⟨0, 18, 1⟩ := by
          rw [tokAt_rep n c p hp h0, show min (n - p) 18 = 18 by omega]; rfl
        obtain ⟨m, rest, e, hm, hr⟩ := toks_rep n c f (p + 18) (by omega) (by omega) (by omega)
        refine ⟨m + 1, rest, ?_, by omega, hr⟩
        unfold toksFrom
        rw [if_pos (by rw [List.length_replicate]; exact hp), ht]
        show _ :: toksFrom _ f (p + 18) = _
        rw [e, List.replicate_succ]; rfl
      · refine ⟨0, toksFrom (List.replicate n c) (f + 1) p, by simp, by omega, ?_⟩
        by_cases h3 : 3 ≤ n - p
        · have ht : tokAt (List.replicate n c) p = ⟨0, ((n - p : Nat) : Int), 1⟩ := by
            rw [tokAt_rep n c p hp h0, show min (n - p) 18 = n - p by omega, if_pos h3]
          unfold toksFrom
          rw [if_pos (by rw [List.length_replicate]; exact hp), ht]
          have hs : (Tok.mk 0 ((n - p : Nat) : Int) 1).size = n - p := by
            unfold Tok.size; dsimp only; rw [if_neg (by omega)]; omega
          rw [hs, toksFrom_stop (by rw [List.length_replicate]; omega)]
          have e : bitsAll [Tok.mk 0 ((n - p : Nat) : Int) 1] = bitsOf (Tok.mk 0 ((n - p : Nat) : Int) 1) := by simp [bitsAll]
          rw [e, bitsOf_length]
          split <;> omega
        · obtain ⟨_, s2, _⟩ := toksFrom_spec (b := List.replicate n c) (f + 1) p (by rw [List.length_replicate]; omega) (by rw [List.length_replicate]; omega)
          obtain ⟨s1, _, _⟩ := toksFrom_spec (b := List.replicate n c) (f + 1) p (by rw [List.length_replicate]; omega) (by rw [List.length_replicate]; omega)
          have := bitsAll_told s1
          rw [List.length_replicate] at s2
          omega
    · exact ⟨0, [], by rw [toksFrom_stop (by rw [List.length_replicate]; omega)]; rfl, by omega, by simp [bitsAll]⟩
/-- which bits the first octet and the whole repetitions favour -/
def favT (c : BitVec 8) (a : Nat) : Option Bool :=
  ((prs (numT (256 + c.toNat) 0 8 ++ (numT 31 256 4 ++ numT 256 272 8))).lookup a)
theorem lookup_of_nodup {α β : Type} [DecidableEq α] : ∀ {l : List (α × β)} {x : α × β}, (l.map Prod.fst).Nodup → x ∈ l → l.lookup x.1 = some x.2
  | [], x, _, h => by cases h
  | (a, b) :: l, x, hn, h => by
    rw [List.map_cons, List.nodup_cons] at hn
    rcases List.mem_cons.1 h with rfl | h
    · simp [List.lookup]
    · have hne : x.1 ≠ a := fun e => hn.1 (List.mem_map.2 ⟨x, h, e⟩)
      rw [List.lookup, beq_eq_false_iff_ne.2 hne]
      exact lookup_of_nodup hn.2 h
theorem fav_nodup : ∀ c : BitVec 8, ((prs (numT (256 + c.toNat) 0 8 ++ (numT 31 256 4 ++ numT 256 272 8))).map Prod.fst).Nodup ∧ favT c 0 = none := by decide +kernel
theorem fav_all (c : BitVec 8) : ∀ x ∈ prs (numT (256 + c.toNat) 0 8 ++ (numT 31 256 4 ++ numT 256 272 8)), favT c x.1 = some x.2 := fun x hx => lookup_of_nodup (fav_nodup c).1 hx
theorem fav_even (c : BitVec 8) (n : Nat) : Favours (favT c) (List.replicate n 1024) := by
  intro a ha
  rw [List.length_replicate] at ha
  have e : (List.replicate n (1024 : Int)).getD a 0 = 1024 := by
    rw [List.getD_eq_getElem?_getD, List.getElem?_eq_getElem (by simpa using ha)]; simp
  rw [e]
  split <;> simp
theorem prs_append (l r : List Bt) : prs (l ++ r) = prs l ++ prs r := by simp [prs]
theorem countP_of {α : Type} {p : α → Bool} : ∀ {l : List α}, (∀ x ∈ l, p x = true) → l.countP p = l.length
  | [], _ => rfl
  | x :: l, h => by
    rw [List.countP_cons, h x List.mem_cons_self, countP_of (fun y hy => h y (List.mem_cons_of_mem _ hy))]; rfl
theorem countP_no {α : Type} {p : α → Bool} : ∀ {l : List α}, (∀ x ∈ l, p x = false) → l.countP p = 0
  | [], _ => rfl
  | x :: l, h => by
    rw [List.countP_cons, h x List.mem_cons_self, countP_no (fun y hy => h y (List.mem_cons_of_mem _ hy))]; rfl
def sameL (c : BitVec 8) (m : Nat) : List (Nat × Bool) := prs (bitsAll (⟨c, 0, 0⟩ :: List.replicate m ⟨0, 18, 1⟩))
theorem same_counts (c : BitVec 8) : ∀ m, cheapN (favT c) (sameL c m) = 8 + 12 * m ∧ dearN (favT c) (sameL c m) = 1 + m ∧ (∀ x ∈ sameL c m, favT c x.1 = some x.2 ∨ favT c x.1 = none)
  | 0 => by
    have e : sameL c 0 = (0, false) :: prs (numT (256 + c.toNat) 0 8) := by simp [sameL, bitsAll, bitsOf, prs]
    have h1 : ∀ x ∈ prs (numT (256 + c.toNat) 0 8), favT c x.1 = some x.2 := fun x hx => fav_all c x (by rw [prs_append]; exact List.mem_append_left _ hx)
    have h0 := (fav_nodup c).2
    refine ⟨?_, ?_, ?_⟩
    · unfold cheapN
      rw [e, List.countP_cons, countP_of (fun x hx => by rw [h1 x hx]; simp), prs_length, numT_length, h0]; rfl
    · unfold dearN
      rw [e, List.countP_cons, countP_no (fun x hx => by rw [h1 x hx]; simp), h0]; rfl
    · intro x hx
      rw [e] at hx
      rcases List.mem_cons.1 hx with rfl | hx
      · exact .inr h0
      · exact .inl (h1 x hx)
  | m + 1 => by
    obtain ⟨i1, i2, i3⟩ := same_counts c m
    have e : sameL c (m + 1) = sameL c m ++ ((0, true) :: prs (numT 31 256 4 ++ numT 256 272 8)) := by
      unfold sameL
      rw [List.replicate_succ', ← List.cons_append, bitsAll_append, prs_append]
      congr 1
    have h1 : ∀ x ∈ prs (numT 31 256 4 ++ numT 256 272 8), favT c x.1 = some x.2 := fun x hx => fav_all c x (by rw [prs_append]; exact List.mem_append_right _ hx)
    have h0 := (fav_nodup c).2
    refine ⟨?_, ?_, ?_⟩
    · unfold cheapN at i1 ⊢
      rw [e, List.countP_append, i1, List.countP_cons, countP_of (fun x hx => by rw [h1 x hx]; simp), prs_length, List.length_append, numT_length, numT_length, h0]
      simp; omega
    · unfold dearN at i2 ⊢
      rw [e, List.countP_append, i2, List.countP_cons, countP_no (fun x hx => by rw [h1 x hx]; simp), h0]
      simp; omega
    · intro x hx
      rw [e] at hx
      rcases List.mem_append.1 hx with hx | hx
      · exact i3 x hx
      · rcases List.mem_cons.1 hx with rfl | hx
        · exact .inr h0
        · exact .inl (h1 x hx)
theorem within_all {m : Nat} {l : List Tok} (h : okFrom m l) : within 528 (prs (bitsAll l)) := by
  intro x hx
  unfold prs at hx
  obtain ⟨y, hy, rfl⟩ := List.mem_map.1 hx
  have := bits_within h y hy
  dsimp only
  omega
theorem pack_same (c : BitVec 8) (n : Nat) (hn : n ≤ 300) : (packT (List.replicate n c)).length ≤ 60 + n / 6 := by
  unfold packT
  rw [List.length_append, encT_length, List.length_replicate]
  show 4 + (5 + _) ≤ _
  cases n with
  | zero =>
    have e : tokens (List.replicate 0 c) = [] := rfl
    rw [e]
    have : (enc 528 (prs (bitsAll []))).k = 0 := rfl
    omega
  | succ n =>
    obtain ⟨m, rest, e, hm, hr⟩ := toks_rep (n + 1) c n 1 (by omega) (by omega) (by omega)
    have et : tokens (List.replicate (n + 1) c) = (⟨c, 0, 0⟩ :: List.replicate m ⟨0, 18, 1⟩) ++ rest := by
      unfold tokens
      rw [List.length_replicate]
      unfold toksFrom
      rw [if_pos (by rw [List.length_replicate]; omega), tokAt_rep0 _ _ (by omega)]
      show _ :: toksFrom _ n 1 = _
      rw [e]; rfl
    have hw := within_all (tokens_spec (List.replicate (n + 1) c)).1
    rw [et, bitsAll_append, prs_append] at hw ⊢
    obtain ⟨c1, c2, c3⟩ := same_counts c m
    have h := enc_short hw (fav_even c 528) c3 (by show cheapN (favT c) (sameL c m) ≤ 250; rw [c1]; omega)
    rw [prs_length] at h
    change 8 * (enc 528 (sameL c m ++ prs (bitsAll rest))).k ≤ cheapN (favT c) (sameL c m) + 1 + 7 * dearN (favT c) (sameL c m) + _ at h
    rw [c1, c2] at h
    change 4 + (5 + (enc 528 (sameL c m ++ prs (bitsAll rest))).k) ≤ _
    generalize (enc 528 (sameL c m ++ prs (bitsAll rest))).k = K at *
    omega
theorem pack_short (b : List (BitVec 8)) : (packT b).length ≤ 16 + 9 * b.length := by
  obtain ⟨s1, s2, _⟩ := tokens_spec b
  have h1 := bitsAll_told s1
  obtain ⟨_, _, _, h4⟩ := enc_facts (within_all s1)
  rw [prs_length] at h4
  unfold packT
  rw [List.length_append, encT_length]
  show 4 + (5 + _) ≤ _
  omega
end Go.Pz
