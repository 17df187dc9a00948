/- Tokens: which may be, how much they tell, and what; what was there already. No program in sight. -/
import Derived.Test.YtnkpjmcgecdkfaaB
namespace Go.Mt

structure Tok where
  lit : BitVec 8
  len : Int
  dist : Int
  deriving DecidableEq

/-! ### which may be, and how much they tell -/
def Tok.ok (t : Tok) (n : Nat) : Prop :=
  (t.len = 0 ∧ t.dist = 0) ∨ (3 ≤ t.len ∧ t.len ≤ 18 ∧ 1 ≤ t.dist ∧ t.dist ≤ 256 ∧ t.dist ≤ (n : Int) ∧ t.lit = 0)
def Tok.size (t : Tok) : Nat := if t.len = 0 then 1 else t.len.toNat
def okFrom : Nat → List Tok → Prop
  | _, [] => True
  | n, t :: r => t.ok n ∧ okFrom (n + t.size) r
def told (l : List Tok) : Nat := (l.map Tok.size).sum
theorem told_nil : told [] = 0 := rfl
theorem told_append (l r : List Tok) : told (l ++ r) = told l + told r := by simp [told]
theorem told_one (t : Tok) : told [t] = t.size := by simp [told]
theorem told_cons (t : Tok) (r : List Tok) : told (t :: r) = t.size + told r := by simp [told]
theorem okFrom_append : ∀ (n : Nat) (l r : List Tok), okFrom n (l ++ r) ↔ okFrom n l ∧ okFrom (n + told l) r
  | n, [], r => by simp [okFrom, told]
  | n, t :: l, r => by
    have h := okFrom_append (n + t.size) l r
    rw [List.cons_append]
    show (t.ok n ∧ okFrom (n + t.size) (l ++ r)) ↔ (t.ok n ∧ okFrom (n + t.size) l) ∧ okFrom (n + told (t :: l)) r
    rw [h, told_cons, Nat.add_assoc, and_assoc]
theorem Tok.ok_size {t : Tok} {n : Nat} (h : t.ok n) : 1 ≤ t.size ∧ t.size ≤ 18 := by
  unfold Tok.size
  rcases h with ⟨h, _⟩ | ⟨h1, h2, _⟩
  · rw [if_pos h]; omega
  · rw [if_neg (by omega)]; omega
theorem Tok.ok_len {t : Tok} {n : Nat} (h : t.ok n) : 0 ≤ t.len ∧ t.len ≤ 18 := by
  rcases h with ⟨h, _⟩ | ⟨h1, h2, _⟩ <;> omega
theorem told_bounds : ∀ (n : Nat) (l : List Tok), okFrom n l → l.length ≤ told l ∧ told l ≤ 18 * l.length
  | n, [], _ => by simp [told]
  | n, t :: r, h => by
    have h1 := Tok.ok_size h.1
    have h2 := told_bounds _ r h.2
    rw [told_cons, List.length_cons]
    omega
theorem okFrom_take {n : Nat} {l : List Tok} (k : Nat) (h : okFrom n l) : okFrom n (l.take k) := by
  rw [← List.take_append_drop k l, okFrom_append] at h
  exact h.1
theorem take_succ' {l : List Tok} {k : Nat} (h : k < l.length) : l.take (k + 1) = l.take k ++ [l[k]] := List.take_succ_eq_append_getElem h
theorem okFrom_next {l : List Tok} {k : Nat} (h : k < l.length) : okFrom 0 (l.take (k + 1)) ↔ okFrom 0 (l.take k) ∧ (l[k]).ok (told (l.take k)) := by
  rw [take_succ' h, okFrom_append]
  simp [okFrom]
theorem told_next {l : List Tok} {k : Nat} (h : k < l.length) : told (l.take (k + 1)) = told (l.take k) + (l[k]).size := by
  rw [take_succ' h, told_append, told_one]
theorem told_take_le (l : List Tok) (k : Nat) : told (l.take k) ≤ told l := by
  conv => rhs; rw [← List.take_append_drop k l, told_append]
  omega

/-! ### what they tell -/
def again (d : Nat) : Nat → List (BitVec 8) → List (BitVec 8)
  | 0, b => b
  | k + 1, b => again d k (b ++ [b.getD (b.length - d) 0])
def Tok.tell (b : List (BitVec 8)) (t : Tok) : List (BitVec 8) := if t.len = 0 then b ++ [t.lit] else again t.dist.toNat t.len.toNat b
def text (l : List Tok) : List (BitVec 8) := l.foldl Tok.tell []
theorem again_length (d : Nat) : ∀ (k : Nat) (b : List (BitVec 8)), (again d k b).length = b.length + k
  | 0, _ => rfl
  | k + 1, b => by
    show (again d k _).length = _
    rw [again_length d k, List.length_append, List.length_singleton]; omega
theorem again_pre (d : Nat) : ∀ (k : Nat) (b : List (BitVec 8)), (again d k b).take b.length = b
  | 0, b => List.take_length
  | k + 1, b => by
    show (again d k (b ++ [b.getD (b.length - d) 0])).take b.length = b
    have h := again_pre d k (b ++ [b.getD (b.length - d) 0])
    have h2 := congrArg (List.take b.length) h
    rw [List.take_take, List.length_append, Nat.min_eq_left (by omega), List.take_append_of_le_length (Nat.le_refl _), List.take_length] at h2
    exact h2
/-- the other way about: one octet more at the end -/
theorem again_succ (d : Nat) : ∀ (k : Nat) (b : List (BitVec 8)), again d (k + 1) b = again d k b ++ [(again d k b).getD ((again d k b).length - d) 0]
  | 0, _ => rfl
  | k + 1, b => by
    show again d (k + 1) (b ++ [b.getD (b.length - d) 0]) = _
    rw [again_succ d k]
    rfl
theorem tell_length {b : List (BitVec 8)} {t : Tok} (h : 0 ≤ t.len) : (Tok.tell b t).length = b.length + t.size := by
  unfold Tok.tell Tok.size
  split
  · simp
  · rw [again_length]
theorem tell_pre (b : List (BitVec 8)) (t : Tok) : (Tok.tell b t).take b.length = b := by
  unfold Tok.tell
  split
  · simp
  · exact again_pre _ _ _
/-- a text that begins so, and goes on as it did so far behind, is it -/
theorem again_of (d : Nat) (b c : List (BitVec 8)) (n : Nat) (hb : b.length = n) (hd : 1 ≤ d) (hdn : d ≤ n) (hp : c.take n = b) : ∀ k, n + k ≤ c.length → (∀ i, n ≤ i → i < n + k → c.getD i 0 = c.getD (i - d) 0) → again d k b = c.take (n + k)
  | 0, _, _ => hp.symm
  | k + 1, hl, h => by
    rw [again_succ, again_of d b c n hb hd hdn hp k (by omega) (fun i h1 h2 => h i h1 (by omega)), List.length_take, Nat.min_eq_left (by omega)]
    rw [← Nat.add_assoc, List.take_succ_eq_append_getElem (show n + k < c.length by omega)]
    congr 2
    have h1 := h (n + k) (by omega) (by omega)
    rw [List.getD_eq_getElem?_getD, List.getElem?_take_of_lt (by omega), ← List.getD_eq_getElem?_getD, ← h1]
    simp [show n + k < c.length by omega]
/-- what is told so: each octet as so far behind -/
theorem again_get (d : Nat) (b : List (BitVec 8)) (hd : 1 ≤ d) : ∀ k i, b.length ≤ i → i < b.length + k → (again d k b).getD i 0 = (again d k b).getD (i - d) 0
  | 0, i, h1, h2 => by omega
  | k + 1, i, h1, h2 => by
    rw [again_succ]
    have hl := again_length d k b
    by_cases hi : i < b.length + k
    · have ih := again_get d b hd k i h1 hi
      have e : ∀ j, j < b.length + k → (again d k b ++ [(again d k b).getD ((again d k b).length - d) 0]).getD j 0 = (again d k b).getD j 0 := fun j hj => by
        rw [List.getD_eq_getElem?_getD, List.getElem?_append_left (by omega), ← List.getD_eq_getElem?_getD]
      rw [e i hi, e (i - d) (by omega), ih]
    · obtain rfl : i = b.length + k := by omega
      by_cases hz : b.length + k = 0
      · rw [hz, Nat.zero_sub]
      · have e1 : ∀ (l : List (BitVec 8)) (c : BitVec 8) (n : Nat), l.length = n → (l ++ [c]).getD n 0 = c := fun l c n h => by subst h; simp
        have e2 : ∀ (l : List (BitVec 8)) (c : BitVec 8) (n : Nat), n < l.length → (l ++ [c]).getD n 0 = l.getD n 0 := fun l c n h => by
          rw [List.getD_eq_getElem?_getD, List.getElem?_append_left h, ← List.getD_eq_getElem?_getD]
        rw [e1 _ _ _ hl, e2 _ _ _ (by omega), hl]
theorem text_append (l r : List Tok) : text (l ++ r) = r.foldl Tok.tell (text l) := by simp [text]
theorem text_next {l : List Tok} {k : Nat} (h : k < l.length) : text (l.take (k + 1)) = Tok.tell (text (l.take k)) l[k] := by
  rw [take_succ' h, text_append]; rfl
theorem fold_length : ∀ (l : List Tok) (b : List (BitVec 8)), okFrom b.length l → (l.foldl Tok.tell b).length = b.length + told l
  | [], b, _ => by simp [told]
  | t :: r, b, h => by
    have h1 := tell_length (b := b) (Tok.ok_len h.1).1
    show (r.foldl Tok.tell (Tok.tell b t)).length = _
    rw [fold_length r _ (by rw [h1]; exact h.2), h1, told_cons]; omega
theorem text_length {l : List Tok} (h : okFrom 0 l) : (text l).length = told l := by
  unfold text
  rw [fold_length l [] h]; simp
theorem fold_pre : ∀ (l : List Tok) (b : List (BitVec 8)), (l.foldl Tok.tell b).take b.length = b
  | [], b => List.take_length
  | t :: r, b => by
    show (r.foldl Tok.tell (Tok.tell b t)).take b.length = b
    have h := congrArg (List.take b.length) (fold_pre r (Tok.tell b t))
    have hle : b.length ≤ (Tok.tell b t).length := by
      have := congrArg List.length (tell_pre b t)
      rw [List.length_take] at this; omega
    rw [List.take_take, Nat.min_eq_left hle, tell_pre] at h
    exact h
theorem text_take {l : List Tok} (h : okFrom 0 l) (k : Nat) : (text l).take (told (l.take k)) = text (l.take k) := by
  have e : text l = (l.drop k).foldl Tok.tell (text (l.take k)) := by rw [← text_append, List.take_append_drop]
  rw [e, ← text_length (okFrom_take k h)]
  exact fold_pre _ _

/-! ### what was there already -/
/-- so many octets are there again, so far behind -/
def agree (b : List (BitVec 8)) (d at_ n : Nat) : Prop := ∀ i, i < n → at_ + i < b.length ∧ b.getD (at_ + i) 0 = b.getD (at_ + i - d) 0
instance (b : List (BitVec 8)) (d at_ n : Nat) : Decidable (agree b d at_ n) := by unfold agree; infer_instance
theorem agree_zero (b : List (BitVec 8)) (d at_ : Nat) : agree b d at_ 0 := fun i h => by omega
theorem agree_mono {b : List (BitVec 8)} {d at_ m n : Nat} (h : agree b d at_ n) (hm : m ≤ n) : agree b d at_ m := fun i hi => h i (by omega)
theorem agree_succ {b : List (BitVec 8)} {d at_ n : Nat} (h : agree b d at_ n) (h1 : at_ + n < b.length) (h2 : b.getD (at_ + n) 0 = b.getD (at_ + n - d) 0) : agree b d at_ (n + 1) := fun i hi => by
  rcases Nat.lt_or_ge i n with h' | h'
  · exact h i h'
  · obtain rfl : i = n := by omega
    exact ⟨h1, h2⟩
def com (b : List (BitVec 8)) (d at_ : Nat) : Nat → Nat
  | 0 => 0
  | k + 1 => if agree b d at_ (k + 1) then k + 1 else com b d at_ k
theorem com_le (b : List (BitVec 8)) (d at_ : Nat) : ∀ k, com b d at_ k ≤ k
  | 0 => Nat.le_refl _
  | k + 1 => by
    unfold com
    split
    · omega
    · have := com_le b d at_ k; omega
theorem com_agree (b : List (BitVec 8)) (d at_ : Nat) : ∀ k, agree b d at_ (com b d at_ k)
  | 0 => agree_zero _ _ _
  | k + 1 => by
    unfold com
    split
    · assumption
    · exact com_agree b d at_ k
theorem com_max {b : List (BitVec 8)} {d at_ n : Nat} (h : agree b d at_ n) : ∀ k, n ≤ k → n ≤ com b d at_ k
  | 0, hk => hk
  | k + 1, hk => by
    unfold com
    split
    · omega
    · rename_i hn
      rcases Nat.lt_or_ge n (k + 1) with h' | h'
      · exact com_max h k (by omega)
      · obtain rfl : n = k + 1 := by omega
        exact absurd h hn
/-- where it ends -/
theorem com_eq {b : List (BitVec 8)} {d at_ n : Nat} (h : agree b d at_ n) (hn : n ≤ 18) (he : n = 18 ∨ ¬ agree b d at_ (n + 1)) : com b d at_ 18 = n := by
  have h1 := com_max h 18 hn
  have h2 := com_le b d at_ 18
  rcases he with rfl | he
  · omega
  · rcases Nat.lt_or_ge n (com b d at_ 18) with h' | h'
    · exact absurd (agree_mono (com_agree b d at_ 18) h') he
    · omega
/-- the longest of the first so many distances, the nearest of these -/
def best (b : List (BitVec 8)) (at_ : Nat) : Nat → Nat × Nat
  | 0 => (0, 0)
  | k + 1 => if (best b at_ k).1 < com b (k + 1) at_ 18 then (com b (k + 1) at_ 18, k + 1) else best b at_ k
theorem best_spec (b : List (BitVec 8)) (at_ : Nat) : ∀ k, (best b at_ k).1 ≤ 18 ∧ (best b at_ k).2 ≤ k ∧ ((best b at_ k).1 = 0 ∧ (best b at_ k).2 = 0 ∨ 1 ≤ (best b at_ k).2 ∧ 1 ≤ (best b at_ k).1 ∧ (best b at_ k).1 = com b (best b at_ k).2 at_ 18) ∧
    (∀ d, 1 ≤ d → d ≤ k → com b d at_ 18 ≤ (best b at_ k).1) ∧ (∀ d, 1 ≤ d → d < (best b at_ k).2 → com b d at_ 18 < (best b at_ k).1)
  | 0 => ⟨by simp [best], by simp [best], .inl ⟨rfl, rfl⟩, fun d h1 h2 => by omega, fun d h1 h2 => by simp [best] at h2⟩
  | k + 1 => by
    obtain ⟨h1, h2, h3, h4, h5⟩ := best_spec b at_ k
    have hc := com_le b (k + 1) at_ 18
    unfold best
    split
    · rename_i hlt
      refine ⟨hc, Nat.le_refl _, .inr ⟨Nat.succ_pos _, by omega, rfl⟩, fun d hd hk => ?_, fun d hd hk => ?_⟩
      · dsimp only
        rcases Nat.lt_or_ge d (k + 1) with h' | h'
        · have := h4 d hd (by omega); omega
        · obtain rfl : d = k + 1 := by omega
          exact Nat.le_refl _
      · dsimp only at hk ⊢
        have := h4 d hd (by omega); omega
    · rename_i hlt
      refine ⟨h1, by omega, h3, fun d hd hk => ?_, h5⟩
      rcases Nat.lt_or_ge d (k + 1) with h' | h'
      · exact h4 d hd (by omega)
      · obtain rfl : d = k + 1 := by omega
        omega
def found (b : List (BitVec 8)) (at_ : Nat) : Nat × Nat := best b at_ (min 256 at_)
def tokAt (b : List (BitVec 8)) (at_ : Nat) : Tok := if 3 ≤ (found b at_).1 then ⟨0, (found b at_).1, (found b at_).2⟩ else ⟨b.getD at_ 0, 0, 0⟩
theorem found_agree (b : List (BitVec 8)) (at_ : Nat) : agree b (found b at_).2 at_ (found b at_).1 := by
  unfold found
  obtain ⟨_, _, h3, _⟩ := best_spec b at_ (min 256 at_)
  rcases h3 with ⟨h, _⟩ | ⟨_, _, h⟩
  · rw [h]; exact agree_zero _ _ _
  · conv => arg 4; rw [h]
    exact com_agree _ _ _ _
theorem tokAt_ok {b : List (BitVec 8)} {at_ : Nat} : (tokAt b at_).ok at_ := by
  obtain ⟨h1, h2, h3, _⟩ := best_spec b at_ (min 256 at_)
  unfold tokAt found
  split
  · rename_i h
    refine .inr ⟨by dsimp only; omega, by dsimp only; omega, ?_, by dsimp only; omega, by dsimp only; omega, rfl⟩
    dsimp only
    rcases h3 with h3 | h3 <;> omega
  · exact .inl ⟨rfl, rfl⟩
theorem tokAt_tell {b : List (BitVec 8)} {at_ : Nat} (h : at_ < b.length) : at_ + (tokAt b at_).size ≤ b.length ∧ Tok.tell (b.take at_) (tokAt b at_) = b.take (at_ + (tokAt b at_).size) := by
  obtain ⟨h1, h2, h3, _⟩ := best_spec b at_ (min 256 at_)
  have ha := found_agree b at_
  unfold tokAt
  by_cases hc : 3 ≤ (found b at_).1
  · rw [if_pos hc]
    unfold Tok.tell Tok.size
    dsimp only
    rw [if_neg (by omega), if_neg (by omega)]
    simp only [Int.toNat_natCast]
    have hn := (ha ((found b at_).1 - 1) (by omega)).1
    refine ⟨by omega, again_of _ _ b at_ (by rw [List.length_take]; omega) ?_ ?_ rfl _ (by omega) ?_⟩
    · unfold found at hc ⊢
      rcases h3 with h3 | h3 <;> omega
    · unfold found; omega
    · intro i hi1 hi2
      have := (ha (i - at_) (by omega)).2
      rwa [show at_ + (i - at_) = i by omega] at this
  · rw [if_neg hc]
    unfold Tok.tell Tok.size
    dsimp only
    rw [if_pos rfl, if_pos rfl]
    refine ⟨by omega, ?_⟩
    rw [List.take_succ_eq_append_getElem h]
    simp [h]
/-- a text's tokens from a place on -/
def toksFrom (b : List (BitVec 8)) : Nat → Nat → List Tok
  | 0, _ => []
  | f + 1, at_ => if at_ < b.length then tokAt b at_ :: toksFrom b f (at_ + (tokAt b at_).size) else []
def tokens (b : List (BitVec 8)) : List Tok := toksFrom b b.length 0
theorem toksFrom_spec {b : List (BitVec 8)} : ∀ f at_, at_ ≤ b.length → b.length ≤ at_ + f →
    okFrom at_ (toksFrom b f at_) ∧ at_ + told (toksFrom b f at_) = b.length ∧ (toksFrom b f at_).foldl Tok.tell (b.take at_) = b
  | 0, at_, h1, h2 => by
    obtain rfl : at_ = b.length := by omega
    simp [toksFrom, okFrom, told]
  | f + 1, at_, h1, h2 => by
    unfold toksFrom
    by_cases h : at_ < b.length
    · rw [if_pos h]
      obtain ⟨t1, t2⟩ := tokAt_tell h
      have hs := Tok.ok_size (tokAt_ok (b := b) (at_ := at_))
      obtain ⟨i1, i2, i3⟩ := toksFrom_spec (b := b) f (at_ + (tokAt b at_).size) t1 (by omega)
      refine ⟨⟨tokAt_ok, i1⟩, by rw [told_cons]; omega, ?_⟩
      show (toksFrom b f _).foldl Tok.tell (Tok.tell (b.take at_) (tokAt b at_)) = b
      rw [t2, i3]
    · rw [if_neg h]
      obtain rfl : at_ = b.length := by omega
      simp [okFrom, told]
theorem toksFrom_stop {b : List (BitVec 8)} {at_ : Nat} (h : b.length ≤ at_) : ∀ f, toksFrom b f at_ = []
  | 0 => rfl
  | f + 1 => by unfold toksFrom; rw [if_neg (by omega)]
theorem toksFrom_fuel {b : List (BitVec 8)} : ∀ f g at_, b.length ≤ at_ + f → b.length ≤ at_ + g → toksFrom b f at_ = toksFrom b g at_
  | 0, g, at_, h1, h2 => (toksFrom_stop (b := b) (by omega) g).symm
  | f + 1, 0, at_, h1, h2 => toksFrom_stop (b := b) (by omega) (f + 1)
  | f + 1, g + 1, at_, h1, h2 => by
    unfold toksFrom
    split
    · have hs := Tok.ok_size (tokAt_ok (b := b) (at_ := at_))
      rw [toksFrom_fuel f g _ (by omega) (by omega)]
    · rfl
theorem tokens_spec (b : List (BitVec 8)) : okFrom 0 (tokens b) ∧ told (tokens b) = b.length ∧ text (tokens b) = b := by
  obtain ⟨h1, h2, h3⟩ := toksFrom_spec (b := b) b.length 0 (by omega) (by omega)
  exact ⟨h1, by rw [Nat.zero_add] at h2; exact h2, by rw [List.take_zero] at h3; exact h3⟩
end Go.Mt
