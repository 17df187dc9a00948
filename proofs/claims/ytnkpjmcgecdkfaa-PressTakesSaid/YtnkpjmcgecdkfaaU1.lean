/- Of several texts of this claim, one behind the other: Mm O T A G. -/
import Derived.Test.YtnkpjmcgecdkfaaB
import Derived.Test.YtnkpjmcgecdkfaaE
import Derived.Test.YtnkpjmcgecdkfaaRows

/- Tokens: which may be, how much they tell, and what; what was there already. No program in sight. -/
namespace Go.Mt

structure Tok where
  lit : BitVec 8
  len : Int
  dist : Int
  deriving DecidableEq

/-! ### which may be, and how much they tell -/
def Tok.ok (t : Tok) (n : Nat) : Prop :=
  (t.len = 0 ∧ t.dist = 0) ∨ (3 ≤ t.len ∧ t.len ≤ 18 ∧ 1 ≤ t.dist ∧ t.dist ≤ 256 ∧ t.dist ≤ (n : Int) ∧ t.lit = 0)
def Tok.size (t : Tok) : Nat := if t.len = 0 then 1 else t.len.toNat
def okFrom : Nat → List Tok → Prop
  | _, [] => True
  | n, t :: r => t.ok n ∧ okFrom (n + t.size) r
def told (l : List Tok) : Nat := (l.map Tok.size).sum
theorem told_nil : told [] = 0 := rfl
theorem told_append (l r : List Tok) : told (l ++ r) = told l + told r := by simp [told]
theorem told_one (t : Tok) : told [t] = t.size := by simp [told]
theorem told_cons (t : Tok) (r : List Tok) : told (t :: r) = t.size + told r := by simp [told]
theorem okFrom_append : ∀ (n : Nat) (l r : List Tok), okFrom n (l ++ r) ↔ okFrom n l ∧ okFrom (n + told l) r
  | n, [], r => by simp [okFrom, told]
  | n, t :: l, r => by
    have h := okFrom_append (n + t.size) l r
    rw [List.cons_append]
    show (t.ok n ∧ okFrom (n + t.size) (l ++ r)) ↔ (t.ok n ∧ okFrom (n + t.size) l) ∧ okFrom (n + told (t :: l)) r
    rw [h, told_cons, Nat.add_assoc, and_assoc]
theorem Tok.ok_size {t : Tok} {n : Nat} (h : t.ok n) : 1 ≤ t.size ∧ t.size ≤ 18 := by
  unfold Tok.size
  rcases h with ⟨h, _⟩ | ⟨h1, h2, _⟩
  · rw [if_pos h]; omega
  · rw [if_neg (by omega)]; omega
theorem Tok.ok_len {t : Tok} {n : Nat} (h : t.ok n) : 0 ≤ t.len ∧ t.len ≤ 18 := by
  rcases h with ⟨h, _⟩ | ⟨h1, h2, _⟩ <;> omega
theorem told_bounds : ∀ (n : Nat) (l : List Tok), okFrom n l → l.length ≤ told l ∧ told l ≤ 18 * l.length
  | n, [], _ => by simp [told]
  | n, t :: r, h => by
    have h1 := Tok.ok_size h.1
    have h2 := told_bounds _ r h.2
    rw [told_cons, List.length_cons]
    omega
theorem okFrom_take {n : Nat} {l : List Tok} (k : Nat) (h : okFrom n l) : okFrom n (l.take k) := by
  rw [← List.take_append_drop k l, okFrom_append] at h
  exact h.1
theorem take_succ' {l : List Tok} {k : Nat} (h : k < l.length) : l.take (k + 1) = l.take k ++ [l[k]] := List.take_succ_eq_append_getElem h
theorem okFrom_next {l : List Tok} {k : Nat} (h : k < l.length) : okFrom 0 (l.take (k + 1)) ↔ okFrom 0 (l.take k) ∧ (l[k]).ok (told (l.take k)) := by
  rw [take_succ' h, okFrom_append]
  simp [okFrom]
theorem told_next {l : List Tok} {k : Nat} (h : k < l.length) : told (l.take (k + 1)) = told (l.take k) + (l[k]).size := by
  rw [take_succ' h, told_append, told_one]
theorem told_take_le (l : List Tok) (k : Nat) : told (l.take k) ≤ told l := by
  conv => rhs; rw [← List.take_append_drop k l, told_append]
  omega

/-! ### what they tell -/
def again (d : Nat) : Nat → List (BitVec 8) → List (BitVec 8)
  | 0, b => b
  | k + 1, b => again d k (b ++ [b.getD (b.length - d) 0])
def Tok.tell (b : List (BitVec 8)) (t : Tok) : List (BitVec 8) := if t.len = 0 then b ++ [t.lit] else again t.dist.toNat t.len.toNat b
def text (l : List Tok) : List (BitVec 8) := l.foldl Tok.tell []
theorem again_length (d : Nat) : ∀ (k : Nat) (b : List (BitVec 8)), (again d k b).length = b.length + k
  | 0, _ => rfl
  | k + 1, b => by
    show (again d k _).length = _
    rw [again_length d k, List.length_append, List.length_singleton]; omega
theorem again_pre (d : Nat) : ∀ (k : Nat) (b : List (BitVec 8)), (again d k b).take b.length = b
  | 0, b => List.take_length
  | k + 1, b => by
    show (again d k (b ++ [b.getD (b.length - d) 0])).take b.length = b
    have h := again_pre d k (b ++ [b.getD (b.length - d) 0])
    have h2 := congrArg (List.take b.length) h
    rw [List.take_take, List.length_append, Nat.min_eq_left (by omega), List.take_append_of_le_length (Nat.le_refl _), List.take_length] at h2
    exact h2
/-- the other way about: one octet more at the end -/
theorem again_succ (d : Nat) : ∀ (k : Nat) (b : List (BitVec 8)), again d (k + 1) b = again d k b ++ [(again d k b).getD ((again d k b).length - d) 0]
  | 0, _ => rfl
  | k + 1, b => by
    show again d (k + 1) (b ++ [b.getD (b.length - d) 0]) = _
    rw [again_succ d k]
    rfl
theorem tell_length {b : List (BitVec 8)} {t : Tok} (h : 0 ≤ t.len) : (Tok.tell b t).length = b.length + t.size := by
  unfold Tok.tell Tok.size
  split
  · simp
  · rw [again_length]
theorem tell_pre (b : List (BitVec 8)) (t : Tok) : (Tok.tell b t).take b.length = b := by
  unfold Tok.tell
  split
  · simp
  · exact again_pre _ _ _
/-- a text that begins so, and goes on as it did so far behind, is it -/
theorem again_of (d : Nat) (b c : List (BitVec 8)) (n : Nat) (hb : b.length = n) (hd : 1 ≤ d) (hdn : d ≤ n) (hp : c.take n = b) : ∀ k, n + k ≤ c.length → (∀ i, n ≤ i → i < n + k → c.getD i 0 = c.getD (i - d) 0) → again d k b = c.take (n + k)
  | 0, _, _ => hp.symm
  | k + 1, hl, h => by
    rw [again_succ, again_of d b c n hb hd hdn hp k (by omega) (fun i h1 h2 => h i h1 (by omega)), List.length_take, Nat.min_eq_left (by omega)]
    rw [← Nat.add_assoc, List.take_succ_eq_append_getElem (show n + k < c.length by omega)]
    congr 2
    have h1 := h (n + k) (by omega) (by omega)
    rw [List.getD_eq_getElem?_getD, List.getElem?_take_of_lt (by omega), ← List.getD_eq_getElem?_getD, ← h1]
    simp [show n + k < c.length by omega]
/-- what is told so: each octet as so far behind -/
theorem again_get (d : Nat) (b : List (BitVec 8)) (hd : 1 ≤ d) : ∀ k i, b.length ≤ i → i < b.length + k → (again d k b).getD i 0 = (again d k b).getD (i - d) 0
  | 0, i, h1, h2 => by omega
  | k + 1, i, h1, h2 => by
    rw [again_succ]
    have hl := again_length d k b
    by_cases hi : i < b.length + k
    · have ih := again_get d b hd k i h1 hi
      have e : ∀ j, j < b.length + k → (again d k b ++ [(again d k b).getD ((again d k b).length - d) 0]).getD j 0 = (again d k b).getD j 0 := fun j hj => by
        rw [List.getD_eq_getElem?_getD, List.getElem?_append_left (by omega), ← List.getD_eq_getElem?_getD]
      rw [e i hi, e (i - d) (by omega), ih]
    · obtain rfl : i = b.length + k := by omega
      by_cases hz : b.length + k = 0
      · rw [hz, Nat.zero_sub]
      · have e1 : ∀ (l : List (BitVec 8)) (c : BitVec 8) (n : Nat), l.length = n → (l ++ [c]).getD n 0 = c := fun l c n h => by subst h; simp
        have e2 : ∀ (l : List (BitVec 8)) (c : BitVec 8) (n : Nat), n < l.length → (l ++ [c]).getD n 0 = l.getD n 0 := fun l c n h => by
          rw [List.getD_eq_getElem?_getD, List.getElem?_append_left h, ← List.getD_eq_getElem?_getD]
        rw [e1 _ _ _ hl, e2 _ _ _ (by omega), hl]
theorem text_append (l r : List Tok) : text (l ++ r) = r.foldl Tok.tell (text l) := by simp [text]
theorem text_next {l : List Tok} {k : Nat} (h : k < l.length) : text (l.take (k + 1)) = Tok.tell (text (l.take k)) l[k] := by
  rw [take_succ' h, text_append]; rfl
theorem fold_length : ∀ (l : List Tok) (b : List (BitVec 8)), okFrom b.length l → (l.foldl Tok.tell b).length = b.length + told l
  | [], b, _ => by simp [told]
  | t :: r, b, h => by
    have h1 := tell_length (b := b) (Tok.ok_len h.1).1
    show (r.foldl Tok.tell (Tok.tell b t)).length = _
    rw [fold_length r _ (by rw [h1]; exact h.2), h1, told_cons]; omega
theorem text_length {l : List Tok} (h : okFrom 0 l) : (text l).length = told l := by
  unfold text
  rw [fold_length l [] h]; simp
theorem fold_pre : ∀ (l : List Tok) (b : List (BitVec 8)), (l.foldl Tok.tell b).take b.length = b
  | [], b => List.take_length
  | t :: r, b => by
    show (r.foldl Tok.tell (Tok.tell b t)).take b.length = b
    have h := congrArg (List.take b.length) (fold_pre r (Tok.tell b t))
    have hle : b.length ≤ (Tok.tell b t).length := by
      have := congrArg List.length (tell_pre b t)
      rw [List.length_take] at this; omega
    rw [List.take_take, Nat.min_eq_left hle, tell_pre] at h
    exact h
theorem text_take {l : List Tok} (h : okFrom 0 l) (k : Nat) : (text l).take (told (l.take k)) = text (l.take k) := by
  have e : text l = (l.drop k).foldl Tok.tell (text (l.take k)) := by rw [← text_append, List.take_append_drop]
  rw [e, ← text_length (okFrom_take k h)]
  exact fold_pre _ _

/-! ### what was there already -/
/-- so many octets are there again, so far behind -/
def agree (b : List (BitVec 8)) (d at_ n : Nat) : Prop := ∀ i, i < n → at_ + i < b.length ∧ b.getD (at_ + i) 0 = b.getD (at_ + i - d) 0
instance (b : List (BitVec 8)) (d at_ n : Nat) : Decidable (agree b d at_ n) := by unfold agree; infer_instance
theorem agree_zero (b : List (BitVec 8)) (d at_ : Nat) : agree b d at_ 0 := fun i h => by omega
theorem agree_mono {b : List (BitVec 8)} {d at_ m n : Nat} (h : agree b d at_ n) (hm : m ≤ n) : agree b d at_ m := fun i hi => h i (by omega)
theorem agree_succ {b : List (BitVec 8)} {d at_ n : Nat} (h : agree b d at_ n) (h1 : at_ + n < b.length) (h2 : b.getD (at_ + n) 0 = b.getD (at_ + n - d) 0) : agree b d at_ (n + 1) := fun i hi => by
  rcases Nat.lt_or_ge i n with h' | h'
  · exact h i h'
  · obtain rfl : i = n := by omega
    exact ⟨h1, h2⟩
def com (b : List (BitVec 8)) (d at_ : Nat) : Nat → Nat
  | 0 => 0
  | k + 1 => if agree b d at_ (k + 1) then k + 1 else com b d at_ k
theorem com_le (b : List (BitVec 8)) (d at_ : Nat) : ∀ k, com b d at_ k ≤ k
  | 0 => Nat.le_refl _
  | k + 1 => by
    unfold com
    split
    · omega
    · have := com_le b d at_ k; omega
theorem com_agree (b : List (BitVec 8)) (d at_ : Nat) : ∀ k, agree b d at_ (com b d at_ k)
  | 0 => agree_zero _ _ _
  | k + 1 => by
    unfold com
    split
    · assumption
    · exact com_agree b d at_ k
theorem com_max {b : List (BitVec 8)} {d at_ n : Nat} (h : agree b d at_ n) : ∀ k, n ≤ k → n ≤ com b d at_ k
  | 0, hk => hk
  | k + 1, hk => by
    unfold com
    split
    · omega
    · rename_i hn
      rcases Nat.lt_or_ge n (k + 1) with h' | h'
      · exact com_max h k (by omega)
      · obtain rfl : n = k + 1 := by omega
        exact absurd h hn
/-- where it ends -/
theorem com_eq {b : List (BitVec 8)} {d at_ n : Nat} (h : agree b d at_ n) (hn : n ≤ 18) (he : n = 18 ∨ ¬ agree b d at_ (n + 1)) : com b d at_ 18 = n := by
  have h1 := com_max h 18 hn
  have h2 := com_le b d at_ 18
  rcases he with rfl | he
  · omega
  · rcases Nat.lt_or_ge n (com b d at_ 18) with h' | h'
    · exact absurd (agree_mono (com_agree b d at_ 18) h') he
    · omega
/-- the longest of the first so many distances, the nearest of these -/
def best (b : List (BitVec 8)) (at_ : Nat) : Nat → Nat × Nat
  | 0 => (0, 0)
  | k + 1 => if (best b at_ k).1 < com b (k + 1) at_ 18 then (com b (k + 1) at_ 18, k + 1) else best b at_ k
theorem best_spec (b : List (BitVec 8)) (at_ : Nat) : ∀ k, (best b at_ k).1 ≤ 18 ∧ (best b at_ k).2 ≤ k ∧ ((best b at_ k).1 = 0 ∧ (best b at_ k).2 = 0 ∨ 1 ≤ (best b at_ k).2 ∧ 1 ≤ (best b at_ k).1 ∧ (best b at_ k).1 = com b (best b at_ k).2 at_ 18) ∧
    (∀ d, 1 ≤ d → d ≤ k → com b d at_ 18 ≤ (best b at_ k).1) ∧ (∀ d, 1 ≤ d → d < (best b at_ k).2 → com b d at_ 18 < (best b at_ k).1)
  | 0 => ⟨by simp [best], by simp [best], .inl ⟨rfl, rfl⟩, fun d h1 h2 => by omega, fun d h1 h2 => by simp [best] at h2⟩
  | k + 1 => by
    obtain ⟨h1, h2, h3, h4, h5⟩ := best_spec b at_ k
    have hc := com_le b (k + 1) at_ 18
    unfold best
    split
    · rename_i hlt
      refine ⟨hc, Nat.le_refl _, .inr ⟨Nat.succ_pos _, by omega, rfl⟩, fun d hd hk => ?_, fun d hd hk => ?_⟩
      · dsimp only
        rcases Nat.lt_or_ge d (k + 1) with h' | h'
        · have := h4 d hd (by omega); omega
        · obtain rfl : d = k + 1 := by omega
          exact Nat.le_refl _
      · dsimp only at hk ⊢
        have := h4 d hd (by omega); omega
    · rename_i hlt
      refine ⟨h1, by omega, h3, fun d hd hk => ?_, h5⟩
      rcases Nat.lt_or_ge d (k + 1) with h' | h'
      · exact h4 d hd (by omega)
      · obtain rfl : d = k + 1 := by omega
        omega
def found (b : List (BitVec 8)) (at_ : Nat) : Nat × Nat := best b at_ (min 256 at_)
def tokAt (b : List (BitVec 8)) (at_ : Nat) : Tok := if 3 ≤ (found b at_).1 then ⟨0, (found b at_).1, (found b at_).2⟩ else ⟨b.getD at_ 0, 0, 0⟩
theorem found_agree (b : List (BitVec 8)) (at_ : Nat) : agree b (found b at_).2 at_ (found b at_).1 := by
  unfold found
  obtain ⟨_, _, h3, _⟩ := best_spec b at_ (min 256 at_)
  rcases h3 with ⟨h, _⟩ | ⟨_, _, h⟩
  · rw [h]; exact agree_zero _ _ _
  · conv => arg 4; rw [h]
    exact com_agree _ _ _ _
theorem tokAt_ok {b : List (BitVec 8)} {at_ : Nat} : (tokAt b at_).ok at_ := by
  obtain ⟨h1, h2, h3, _⟩ := best_spec b at_ (min 256 at_)
  unfold tokAt found
  split
  · rename_i h
    refine .inr ⟨by dsimp only; omega, by dsimp only; omega, ?_, by dsimp only; omega, by dsimp only; omega, rfl⟩
    dsimp only
    rcases h3 with h3 | h3 <;> omega
  · exact .inl ⟨rfl, rfl⟩
theorem tokAt_tell {b : List (BitVec 8)} {at_ : Nat} (h : at_ < b.length) : at_ + (tokAt b at_).size ≤ b.length ∧ Tok.tell (b.take at_) (tokAt b at_) = b.take (at_ + (tokAt b at_).size) := by
  obtain ⟨h1, h2, h3, _⟩ := best_spec b at_ (min 256 at_)
  have ha := found_agree b at_
  unfold tokAt
  by_cases hc : 3 ≤ (found b at_).1
  · rw [if_pos hc]
    unfold Tok.tell Tok.size
    dsimp only
    rw [if_neg (by omega), if_neg (by omega)]
    simp only [Int.toNat_natCast]
    have hn := (ha ((found b at_).1 - 1) (by omega)).1
    refine ⟨by omega, again_of _ _ b at_ (by rw [List.length_take]; omega) ?_ ?_ rfl _ (by omega) ?_⟩
    · unfold found at hc ⊢
      rcases h3 with h3 | h3 <;> omega
    · unfold found; omega
    · intro i hi1 hi2
      have := (ha (i - at_) (by omega)).2
      rwa [show at_ + (i - at_) = i by omega] at this
  · rw [if_neg hc]
    unfold Tok.tell Tok.size
    dsimp only
    rw [if_pos rfl, if_pos rfl]
    refine ⟨by omega, ?_⟩
    rw [List.take_succ_eq_append_getElem h]
    simp [h]
/-- a text's tokens from a place on -/
def toksFrom (b : List (BitVec 8)) : Nat → Nat → List Tok
  | 0, _ => []
  | f + 1, at_ => if at_ < b.length then tokAt b at_ :: toksFrom b f (at_ + (tokAt b at_).size) else []
def tokens (b : List (BitVec 8)) : List Tok := toksFrom b b.length 0
theorem toksFrom_spec {b : List (BitVec 8)} : ∀ f at_, at_ ≤ b.length → b.length ≤ at_ + f →
    okFrom at_ (toksFrom b f at_) ∧ at_ + told (toksFrom b f at_) = b.length ∧ (toksFrom b f at_).foldl Tok.tell (b.take at_) = b
  | 0, at_, h1, h2 => by
    obtain rfl : at_ = b.length := by omega
    simp [toksFrom, okFrom, told]
  | f + 1, at_, h1, h2 => by
    unfold toksFrom
    by_cases h : at_ < b.length
    · rw [if_pos h]
      obtain ⟨t1, t2⟩ := tokAt_tell h
      have hs := Tok.ok_size (tokAt_ok (b := b) (at_ := at_))
      obtain ⟨i1, i2, i3⟩ := toksFrom_spec (b := b) f (at_ + (tokAt b at_).size) t1 (by omega)
      refine ⟨⟨tokAt_ok, i1⟩, by rw [told_cons]; omega, ?_⟩
      show (toksFrom b f _).foldl Tok.tell (Tok.tell (b.take at_) (tokAt b at_)) = b
      rw [t2, i3]
    · rw [if_neg h]
      obtain rfl : at_ = b.length := by omega
      simp [okFrom, told]
theorem toksFrom_stop {b : List (BitVec 8)} {at_ : Nat} (h : b.length ≤ at_) : ∀ f, toksFrom b f at_ = []
  | 0 => rfl
  | f + 1 => by unfold toksFrom; rw [if_neg (by omega)]
theorem toksFrom_fuel {b : List (BitVec 8)} : ∀ f g at_, b.length ≤ at_ + f → b.length ≤ at_ + g → toksFrom b f at_ = toksFrom b g at_
  | 0, g, at_, h1, h2 => (toksFrom_stop (b := b) (by omega) g).symm
  | f + 1, 0, at_, h1, h2 => toksFrom_stop (b := b) (by omega) (f + 1)
  | f + 1, g + 1, at_, h1, h2 => by
    unfold toksFrom
    split
    · have hs := Tok.ok_size (tokAt_ok (b := b) (at_ := at_))
      rw [toksFrom_fuel f g _ (by omega) (by omega)]
    · rfl
theorem tokens_spec (b : List (BitVec 8)) : okFrom 0 (tokens b) ∧ told (tokens b) = b.length ∧ text (tokens b) = b := by
  obtain ⟨h1, h2, h3⟩ := toksFrom_spec (b := b) b.length 0 (by omega) (by omega)
  exact ⟨h1, by rw [Nat.zero_add] at h2; exact h2, by rw [List.take_zero] at h3; exact h3⟩
end Go.Mt

/- A region that draws its order: one walk in the order of the text serves every order, where whatever touches the world stands in one order (two reads aside). -/
namespace Go.Ord
open Go.RowKit

/-! ### Computations that leave the world alone and don't look at it -/

variable (P : Program)

/-- it ends in a halt, whatever it is told -/
def dead {α : Type} : Sem α → Prop
  | .halt _ => True
  | .program k => dead (k P)
  | .choose _ k => ∀ n, dead (k n)
  | .new _ k => ∀ n, dead (k n)
  | _ => False

def still {α : Type} : Sem α → Prop
  | .pure _ => True
  | .halt _ => True
  | .program k => still (k P)
  | .choose _ k => ∀ n, dead P (k n)
  | .new _ k => ∀ n, dead P (k n)
  | _ => False

/-- it may look, and leaves the world alone -/
def reads {α : Type} : Sem α → Prop
  | .pure _ => True
  | .halt _ => True
  | .program k => reads (k P)
  | .load _ _ k => ∀ v, reads (k v)
  | .shape _ k => ∀ v, reads (k v)
  | .frozen _ k => ∀ v, reads (k v)
  | .getObj _ k => ∀ v, reads (k v)
  | .choose _ k => ∀ n, dead P (k n)
  | .new _ k => ∀ n, dead P (k n)
  | _ => False

variable {P}

theorem dead_bind' {α β : Type} {x : Sem α} (f : α → Sem β) (h : dead P x) : dead P (x.bind f) := by
  induction x with
  | halt _ => trivial
  | program k ih => exact ih P h
  | choose q k ih => exact fun n => ih n (h n)
  | new o k ih => exact fun n => ih n (h n)
  | _ => exact h.elim
theorem dead_still {α : Type} {x : Sem α} (h : dead P x) : still P x := by
  induction x with
  | halt _ => trivial
  | program k ih => exact ih P h
  | choose q k ih => exact h
  | new o k ih => exact h
  | _ => exact h.elim
theorem still_bindR {α β : Type} {x : Sem α} {f : α → Sem β} (h : still P x) (hf : ∀ a w w', x.run P w = .ok a w' → still P (f a)) : still P (x.bind f) := by
  induction x with
  | pure a => exact hf a default default (by simp [Sem.run, default])
  | halt _ => trivial
  | program k ih => exact ih P h (fun a w w' hr => hf a w w' (by simpa [Sem.run] using hr))
  | choose q k ih => exact fun n => dead_bind' f (h n)
  | new o k ih => exact fun n => dead_bind' f (h n)
  | _ => exact h.elim
theorem still_bind' {α β : Type} {x : Sem α} {f : α → Sem β} (h : still P x) (hf : ∀ a, still P (f a)) : still P (x.bind f) := still_bindR h fun a _ _ _ => hf a
theorem still_reads {α : Type} {x : Sem α} (h : still P x) : reads P x := by
  induction x with
  | pure a => trivial
  | halt _ => trivial
  | program k ih => exact ih P h
  | choose q k ih => exact h
  | new o k ih => exact h
  | _ => exact h.elim
theorem reads_bind' {α β : Type} {x : Sem α} {f : α → Sem β} (h : reads P x) (hf : ∀ a, reads P (f a)) : reads P (x.bind f) := by
  induction x with
  | pure a => exact hf a
  | halt _ => trivial
  | program k ih => exact ih P h
  | load m a k ih => exact fun p => ih p (h p)
  | shape r k ih => exact fun p => ih p (h p)
  | frozen r k ih => exact fun p => ih p (h p)
  | getObj r k ih => exact fun p => ih p (h p)
  | choose q k ih => exact fun n => dead_bind' f (h n)
  | new o k ih => exact fun n => dead_bind' f (h n)
  | _ => exact h.elim

theorem dead_run {α : Type} {x : Sem α} (h : dead P x) {w w1 : World} {v : α} (hr : x.run P w = .ok v w1) : False := by
  induction x generalizing w with
  | halt _ => simp [Sem.run] at hr
  | program k ih => exact ih P h (by simpa [Sem.run] using hr)
  | choose q k ih =>
    simp only [Sem.run] at hr
    split at hr
    · exact ih _ (h _) hr
    · exact ih _ (h _) hr
  | new o k ih => exact ih _ (h _) (by simpa [Sem.run] using hr)
  | _ => exact h.elim

theorem still_run {α : Type} {x : Sem α} (h : still P x) {w w1 : World} {v : α} (hr : x.run P w = .ok v w1) : w1 = w ∧ ∀ w', x.run P w' = .ok v w' := by
  induction x generalizing w with
  | pure a => simp only [Sem.run, Result.ok.injEq] at hr ⊢; obtain ⟨rfl, rfl⟩ := hr; simp
  | halt _ => simp [Sem.run] at hr
  | program k ih => simpa [Sem.run] using ih P h (by simpa [Sem.run] using hr)
  | choose q k ih =>
    exfalso
    simp only [Sem.run] at hr
    split at hr
    · exact dead_run (h _) hr
    · exact dead_run (h _) hr
  | new o k ih => exact (dead_run (h _) (by simpa [Sem.run] using hr)).elim
  | _ => exact h.elim

theorem reads_run {α : Type} {x : Sem α} (h : reads P x) {w w1 : World} {v : α} (hr : x.run P w = .ok v w1) : w1 = w := by
  induction x generalizing w with
  | pure a => simp only [Sem.run, Result.ok.injEq] at hr; exact hr.2.symm
  | halt _ => simp [Sem.run] at hr
  | program k ih => exact ih P h (by simpa [Sem.run] using hr)
  | load m a k ih =>
    simp only [Sem.run] at hr
    split at hr
    · exact ih _ (h _) hr
    · split at hr
      · exact ih _ (h _) hr
      · simp at hr
  | shape r k ih => exact ih _ (h _) (by simpa [Sem.run] using hr)
  | frozen r k ih => exact ih _ (h _) (by simpa [Sem.run] using hr)
  | getObj r k ih =>
    simp only [Sem.run] at hr
    split at hr
    · simp at hr
    · exact ih _ (h _) hr
    · simp at hr
  | choose q k ih =>
    exfalso
    simp only [Sem.run] at hr
    split at hr
    · exact dead_run (h _) hr
    · exact dead_run (h _) hr
  | new o k ih => exact (dead_run (h _) (by simpa [Sem.run] using hr)).elim
  | _ => exact h.elim

/-! the same for '>>=' -/
theorem still_bind {α β : Type} {x : Sem α} {f : α → Sem β} (h : still P x) (hf : ∀ a, still P (f a)) : still P (x >>= f) := still_bind' h hf
theorem still_bindK {α β : Type} {x : Sem α} {f : α → Sem β} (h : still P x) (hf : ∀ a w w', x.run P w = .ok a w' → still P (f a)) : still P (x >>= f) := still_bindR h hf
theorem dead_bind {α β : Type} {x : Sem α} (f : α → Sem β) (h : dead P x) : dead P (x >>= f) := dead_bind' f h
theorem reads_bind {α β : Type} {x : Sem α} {f : α → Sem β} (h : reads P x) (hf : ∀ a, reads P (f a)) : reads P (x >>= f) := reads_bind' h hf
theorem still_pure {α : Type} (a : α) : still P (Pure.pure a : Sem α) := trivial
theorem reads_pure {α : Type} (a : α) : reads P (Pure.pure a : Sem α) := trivial
theorem still_stuck {α : Type} (s : String) : still P (stuck s : Sem α) := trivial
theorem still_unsupported {α : Type} (u : Unsupported) : still P (unsupported u : Sem α) := trivial
theorem still_goPanic {α : Type} (v : Value) : still P (goPanic v : Sem α) := trivial
theorem still_underlying (t : TypeId) : still P (underlying t) := by
  unfold underlying
  refine still_bind (show still P program from trivial) fun p => ?_
  split <;> trivial
theorem still_typeInfo (t : TypeId) : still P (typeInfo t) := by
  unfold typeInfo
  refine still_bind (show still P program from trivial) fun p => ?_
  split <;> trivial
theorem still_sizeOf (t : TypeId) : still P (sizeOf t) := by
  unfold sizeOf
  exact still_bind (still_typeInfo t) fun _ => trivial
theorem still_asIntOf (v : Value) : still P (asIntOf v) := by
  unfold asIntOf; split <;> trivial
theorem still_asBool (v : Value) : still P (asBool v) := by
  unfold asBool; split <;> trivial
theorem still_sureAddr (v : Value) : still P (Instr.sureAddr v) := by
  unfold Instr.sureAddr; split <;> trivial
theorem dead_goPanic {α : Type} (v : Value) : dead P (goPanic v : Sem α) := trivial

/-! ### The kinds of operations -/
inductive Kind where
  | p | r | w | s
  deriving DecidableEq

def flat (P : Program) (t : TypeId) : Bool :=
  match P.underlying t with
  | some (.int _) | some .bool | some .string => true
  | _ => false
def flatInt (P : Program) (t : TypeId) : Bool :=
  match P.underlying t with
  | some (.int _) => true
  | _ => false

def fieldOk (P : Program) (s : TypeId) (f : Nat) : Bool :=
  match P.underlying s with
  | some (.struct fs) => ((fs[f]?).bind fun x => (P.info? x.type).map fun i => i.size != 0).getD false
  | _ => false
def calleeKind : Callee → Kind
  | .builtin .len => .p
  | .builtin .cap => .p
  | _ => .w
def kindOf (P : Program) : Op → Kind
  | .move _ | .assign _ | .pick .. | .nilCheck _ | .indexAddr .. | .slice .. | .extract .. | .makeFunc .. | .sliceToArrayPointer .. | .unOp .. => .p
  | .fieldAddr s _ f => if fieldOk P s f then .p else .w
  | .binOp _ t _ _ _ => if flat P t then .p else .w
  | .convert s d _ => if flatInt P s && flatInt P d then .p else .w
  | .call c => calleeKind c.callee
  | .load .. => .r
  | _ => .w

def isInt : Value → Bool
  | .int _ _ => true
  | _ => false
/-- are the values such that the operation doesn't look at the world? -/
def okVals (P : Program) (o : Op) (a : Act) : Bool :=
  match o with
  | .binOp _ t x y _ => !flat P t || (match a.eval x, a.eval y with | .int _ _, .int _ _ | .bool _, .bool _ | .string _, .string _ => true | _, _ => false)
  | .convert s d x => !(flatInt P s && flatInt P d) || isInt (a.eval x)
  | .nilCheck x => match a.eval x with | .pointer (some _) => true | _ => false
  | .call c => (match c.callee with | .builtin .len | .builtin .cap => (match c.args.toList with | [x] => (match a.eval x with | .slice .. | .string _ => true | _ => false) | _ => false) | _ => true)
  | .slice _ x lo hi mx => (match a.eval x with | .slice .. | .string _ | .pointer (some _) => true | _ => false) && (lo.toList ++ hi.toList ++ mx.toList).all fun y => isInt (a.eval y)
  | .indexAddr _ _ y => isInt (a.eval y)
  | .unOp op _ x => match op, a.eval x with | .neg, .int _ _ | .xor, .int _ _ | .not, .bool _ => true | _, _ => false
  | _ => true

theorem dead_of_still_halt {α β : Type} {x : Sem α} {f : α → Sem β} (h : still P x) (hf : ∀ a, dead P (f a)) : dead P (x.bind f) := by
  induction x with
  | pure a => exact hf a
  | halt _ => trivial
  | program k ih => exact ih P h
  | choose q k ih => exact fun n => dead_bind' f (h n)
  | new o k ih => exact fun n => dead_bind' f (h n)
  | _ => exact h.elim
theorem dead_then {α β : Type} {x : Sem α} {f : α → Sem β} (h : still P x) (hf : ∀ a, dead P (f a)) : dead P (x >>= f) := dead_of_still_halt h hf
theorem still_elemOf (t : TypeId) : still P (elemOf t) := by
  unfold elemOf
  refine still_bind (still_underlying t) fun d => ?_
  split <;> trivial
theorem dead_newVar {β : Type} (t : TypeId) (v : Value) (f : Addr → Sem β) (hf : ∀ a, dead P (f a)) : dead P (newVar t v >>= f) := by
  intro n
  exact hf _

theorem dead_runtimePanic {α : Type} (e : RuntimeError) : dead P (runtimePanic e : Sem α) := by
  unfold runtimePanic
  refine dead_then (show still P program from trivial) fun p => ?_
  cases e with
  | typeAssertion i c a m =>
    refine dead_then (still_elemOf _) fun t => ?_
    exact dead_newVar _ _ _ fun _ => trivial
  | panicNil =>
    refine dead_then (still_elemOf _) fun t => ?_
    exact dead_newVar _ _ _ fun _ => trivial
  | _ => trivial

theorem dead_boundsPanic {α : Type} (k : IntKind) (x y : Int) (c : BoundsCode) : dead P (boundsPanic k x y c : Sem α) := by
  unfold boundsPanic
  split
  · intro n
    show dead P (runtimePanic (.bounds (IntKind.i64.wrap x) y (n == 1) c) : Sem α)
    exact dead_runtimePanic _
  · show dead P (runtimePanic (.bounds (IntKind.i64.wrap x) y (k != .u64) c) : Sem α)
    exact dead_runtimePanic _

theorem still_intArith (op : BinOp) (k : IntKind) (x y : Int) : still P (Op.intArith op k x y) := by
  unfold Op.intArith; split <;> trivial
theorem still_intDiv (op : BinOp) (k : IntKind) (x y : Int) : still P (Op.intDiv op k x y) := by
  unfold Op.intDiv
  split
  · exact dead_still (dead_runtimePanic _)
  · split <;> trivial
theorem still_intBits (op : BinOp) (k : IntKind) (x y : Int) : still P (Op.intBits op k x y) := by
  unfold Op.intBits; dsimp only; split <;> trivial
theorem still_intCmp (op : BinOp) (x y : Int) : still P (Op.intCmp op x y) := by
  unfold Op.intCmp; split <;> trivial
theorem still_shift (op : BinOp) (k yk : IntKind) (x y : Int) : still P (Op.shift op k x yk y) := by
  unfold Op.shift
  split
  · exact dead_still (dead_runtimePanic _)
  · dsimp only; split <;> trivial
theorem still_stringOp (op : BinOp) (a b : ByteArray) : still P (Op.stringOp op a b) := by
  unfold Op.stringOp
  repeat' (first | trivial | split | (refine still_bind ?_ fun _ => ?_) | exact dead_still (dead_runtimePanic _))

theorem still_sliceBound (x : Value) (y : Nat) (c : BoundsCode) : still P (Instr.sliceBound x y c) := by
  unfold Instr.sliceBound
  refine still_bind (still_asIntOf x) fun ki => ?_
  obtain ⟨k, i⟩ := ki
  dsimp only
  split
  · trivial
  · exact dead_still (dead_boundsPanic _ _ _ _)
theorem still_sliceBounds (b : Bool) (len cap : Nat) (lo hi mx : Option Value) : still P (Instr.sliceBounds b len cap lo hi mx) := by
  unfold Instr.sliceBounds
  repeat' (first | exact still_sliceBound _ _ _ | trivial | (refine still_bind ?_ fun _ => ?_) | split)
theorem still_slice (t : TypeId) (x : Value) (lo hi mx : Option Value) : still P (Instr.slice t x lo hi mx) := by
  unfold Instr.slice
  refine still_bind (still_underlying t) fun d => ?_
  repeat' (first | exact still_sliceBounds _ _ _ _ _ _ | exact still_sizeOf _ | exact still_underlying _ | exact still_sureAddr _ | trivial | (refine still_bind ?_ fun _ => ?_) | split)
  all_goals (unfold asAddr; split <;> first | trivial | exact dead_still (dead_runtimePanic _))
theorem still_sliceAt (t : TypeId) (x : Value) (lo hi mx : Option Value) : still P (Instr.sliceAt t x lo hi mx) := by
  unfold Instr.sliceAt
  refine still_bind (still_underlying t) fun d => ?_
  split
  · repeat' (first | exact still_sliceBounds _ _ _ _ _ _ | exact still_sizeOf _ | exact still_sureAddr _ | trivial | (refine still_bind ?_ fun _ => ?_))
  · exact still_slice _ _ _ _ _
theorem still_indexAt (t : TypeId) (x i : Value) : still P (Instr.indexAt t x i) := by
  unfold Instr.indexAt
  refine still_bind (still_asIntOf i) fun ki => ?_
  obtain ⟨k, n⟩ := ki
  dsimp only
  refine still_bind (still_underlying t) fun d => ?_
  repeat' (first | exact still_sizeOf _ | exact still_underlying _ | exact still_sureAddr _ | trivial | exact dead_still (dead_boundsPanic _ _ _ _) | (refine still_bind ?_ fun _ => ?_) | split)
theorem still_extract (t : Value) (i : Nat) : still P (Instr.extract t i) := by
  unfold Instr.extract
  repeat' (first | trivial | split)
theorem still_arrayAt (t : TypeId) (x : Value) : still P (Instr.arrayAt t x) := by
  unfold Instr.arrayAt
  refine still_bind (still_underlying t) fun d => ?_
  repeat' (first | trivial | exact dead_still (dead_runtimePanic _) | split)


theorem still_value {x : Sem Value} (h : still P x) : still P (do pure (.value (← x)) : Sem Next) := still_bind h fun _ => trivial

theorem still_binOp (op : BinOp) (t : TypeId) (x y : Operand) (u v : Value) (h : (match u, v with | .int _ _, .int _ _ | .bool _, .bool _ | .string _, .string _ => true | _, _ => false) = true) :
    still P (do eqGuard op t x y u v; binOp op t u v) := by
  have hg : still P (eqGuard op t x y u v) := by
    cases u <;> cases v <;> (try (exact Bool.noConfusion h))
    · rw [eqGuard_at_bool]; trivial
    · rw [eqGuard_at_int]; trivial
    · rw [eqGuard_at_string]; trivial
  refine still_bind hg fun _ => ?_
  clear hg
  cases u <;> cases v <;> (try (exact Bool.noConfusion h))
  · rename_i b c
    have he : still P (Op.equal t (.bool b) (.bool c)) := by
      unfold Op.equal Op.maxDepth
      rw [Op.equalIn]
      refine still_bind (still_underlying _) fun d => ?_
      split <;> first | trivial | (simp_all; done)
    cases op <;> simp only [binOp] <;> first | trivial | exact still_bind he fun _ => trivial
  · rename_i k a k' b
    unfold binOp
    repeat' (first | exact still_shift _ _ _ _ _ | trivial | exact still_intArith _ _ _ _ | exact still_intDiv _ _ _ _ | exact still_intBits _ _ _ _ | exact still_intCmp _ _ _ | split)
    all_goals simp_all
  · rename_i a b
    unfold binOp
    repeat' (first | exact still_stringOp _ _ _ | trivial | split)
    all_goals simp_all

theorem still_kind {o : Oper} {a : Act} (hk : kindOf P o.op = .p) (hv : okVals P o.op a = true) : still P (execOp a.eval o) := by
  obtain ⟨dst, op, ty, pos, aft, gd⟩ := o
  dsimp only at hk hv
  cases op <;> simp only [kindOf] at hk <;> try (exact absurd hk (by decide))
  case move x => trivial
  case assign x => trivial
  case pick c x y => exact still_bind (still_asBool _) fun b => by trivial
  case nilCheck x =>
    simp only [okVals] at hv
    unfold execOp
    dsimp only
    generalize a.eval x = v at hv ⊢
    cases v <;> (try (exact Bool.noConfusion hv))
    rename_i p
    cases p <;> (try (exact Bool.noConfusion hv))
    trivial
  case binOp op t x y yt =>
    split at hk
    · rename_i hf
      simp only [okVals, hf, Bool.not_true, Bool.false_or] at hv
      exact still_value (still_binOp op t x y _ _ hv)
    · exact absurd hk (by decide)
  case unOp op t x =>
    simp only [okVals] at hv
    refine still_value ?_
    generalize a.eval x = v at hv ⊢
    cases op <;> cases v <;> (try (exact Bool.noConfusion hv)) <;> simp only [Op.unary] <;> first | trivial | exact still_intArith _ _ _ _ | exact still_intBits _ _ _ _
  case convert s d x =>
    split at hk
    · rename_i hf
      simp only [okVals, hf, Bool.not_true, Bool.false_or] at hv
      refine still_value ?_
      generalize a.eval x = v at hv ⊢
      cases v <;> (try (exact Bool.noConfusion hv))
      rename_i k n
      simp only [Bool.and_eq_true] at hf
      obtain ⟨hs, hd⟩ := hf
      have hs' : ∃ k, P.underlying s = some (.int k) := by
        unfold flatInt at hs; split at hs
        · exact ⟨_, by assumption⟩
        · cases hs
      have hd' : ∃ k, P.underlying d = some (.int k) := by
        unfold flatInt at hd; split at hd
        · exact ⟨_, by assumption⟩
        · cases hd
      obtain ⟨ks, hs'⟩ := hs'
      obtain ⟨kd, hd'⟩ := hd'
      unfold convert
      refine still_bindK (still_underlying _) fun ds w w' hr => ?_
      rw [run_underlying hs'] at hr
      simp only [Result.ok.injEq] at hr
      obtain ⟨rfl, _⟩ := hr
      refine still_bindK (still_underlying _) fun ds w w' hr => ?_
      rw [run_underlying hd'] at hr
      simp only [Result.ok.injEq] at hr
      obtain ⟨rfl, _⟩ := hr
      trivial
    · exact absurd hk (by decide)
  case sliceToArrayPointer t x => exact still_value (still_arrayAt _ _)
  case makeFunc f x y => trivial
  case slice t x lo hi mx => exact still_value (still_sliceAt _ _ _ _ _)
  case fieldAddr s x f =>
    split at hk
    · rename_i hf
      refine still_value ?_
      unfold Instr.fieldAt
      refine still_bindK (still_underlying _) fun ds w w' hr => ?_
      unfold fieldOk at hf
      split at hf
      · rename_i fs hu
        rw [run_underlying hu] at hr
        simp only [Result.ok.injEq] at hr
        obtain ⟨rfl, _⟩ := hr
        dsimp only
        cases hfs : fs[f]? with
        | none => trivial
        | some fl =>
          rw [hfs] at hf
          dsimp only at hf ⊢
          refine still_bind (still_sureAddr _) fun ad => ?_
          refine still_bind ?_ fun _ => by trivial
          unfold fieldPlace
          cases hi : P.info? fl.type with
          | none => rw [Option.bind_some, hi] at hf; cases hf
          | some inf =>
            rw [Option.bind_some, hi] at hf
            refine still_bindK (still_sizeOf _) fun n w w' hr => ?_
            have hn : n = inf.size := by
              simp [sizeOf, typeInfo, hi] at hr
              exact hr.1.symm
            have h0 : n ≠ 0 := by
              subst hn; simpa using hf
            rw [if_neg h0]
            trivial
      · cases hf
    · exact absurd hk (by decide)
  case indexAddr t x i => exact still_value (still_indexAt _ _ _)
  case extract t i => exact still_value (still_extract _ _)
  case call c =>
    obtain ⟨callee, args, ats⟩ := c
    dsimp only at hk
    have hc : callee = .builtin .len ∨ callee = .builtin .cap := by
      unfold calleeKind at hk
      split at hk
      · exact .inl rfl
      · exact .inr rfl
      · cases hk
    have hargs : ∃ x, args = #[x] ∧ (match a.eval x with | .slice .. | .string _ => true | _ => false) = true := by
      simp only [okVals] at hv
      rcases hc with rfl | rfl
      all_goals
        dsimp only at hv
        split at hv
        · rename_i x hx
          exact ⟨x, by rw [← Array.toArray_toList (xs := args), hx], hv⟩
        · cases hv
    obtain ⟨x, rfl, hx⟩ := hargs
    unfold execOp
    dsimp only
    unfold resolve
    rcases hc with rfl | rfl
    all_goals
      dsimp only
      generalize hv' : a.eval x = v at hx ⊢
      refine still_bindK trivial fun d w w' hr => ?_
      simp only [Sem.run_pure, Result.ok.injEq] at hr
      obtain ⟨rfl, _⟩ := hr
      refine still_value ?_
      simp only [List.map_toArray, List.map_cons, List.map_nil, hv']
      first | unfold Builtin.len_ | unfold Builtin.cap_
      repeat' (first | exact still_underlying _ | trivial | (refine still_bind ?_ fun _ => ?_) | split)
      all_goals simp_all


theorem valued {x : Sem Value} {w w' : World} {n : Next} (h : (do pure (.value (← x)) : Sem Next).run P w = .ok n w') : ∃ v, n = .value v := by
  rw [Sem.run_bind] at h
  cases hx : x.run P w with
  | ok v w1 => rw [hx] at h; simp at h; exact ⟨v, h.1.symm⟩
  | halt e w1 => rw [hx] at h; simp at h

theorem kind_value {o : Oper} {a : Act} {w w' : World} {n : Next} (hk : kindOf P o.op ≠ .w) (h : (execOp a.eval o).run P w = .ok n w') : ∃ v, n = .value v := by
  obtain ⟨dst, op, ty, pos, aft, gd⟩ := o
  dsimp only at hk
  cases op <;> simp only [kindOf] at hk <;> try (exact absurd rfl hk)
  case move x => exact ⟨_, by simpa [execOp] using (Result.ok.inj h).1.symm⟩
  case assign x => exact ⟨_, by simpa [execOp] using (Result.ok.inj h).1.symm⟩
  case pick c x y =>
    unfold execOp at h
    dsimp only at h
    rw [Sem.run_bind] at h
    cases hx : (asBool (a.eval c)).run P w with
    | ok v w1 => rw [hx] at h; simp at h; exact ⟨_, h.1.symm⟩
    | halt e w1 => rw [hx] at h; simp at h
  case nilCheck x =>
    unfold execOp at h
    dsimp only at h
    split at h
    · exact (dead_run (dead_runtimePanic _) h).elim
    · exact (dead_run (dead_runtimePanic _) h).elim
    · exact (dead_run (dead_runtimePanic _) h).elim
    · split at h
      · exact (dead_run (dead_runtimePanic _) h).elim
      · rw [Sem.run_bind] at h
        simp only [run_program, Result.andThen_ok, Sem.run_bind] at h
        generalize hz : (nilAhead _ _ _ _).run P w = z at h
        cases z with
        | ok v w1 =>
          simp only [Result.andThen_ok] at h
          split at h
          · simp at h
          · simp at h; exact ⟨_, h.1.symm⟩
        | halt e w1 => simp at h
      · simp at h; exact ⟨_, h.1.symm⟩
    · simp at h; exact ⟨_, h.1.symm⟩
  case binOp => exact valued h
  case unOp => exact valued h
  case convert => exact valued h
  case sliceToArrayPointer => exact valued h
  case makeFunc => exact valued h
  case slice => exact valued h
  case fieldAddr => exact valued h
  case indexAddr => exact valued h
  case extract => exact valued h
  case load => exact valued h
  case call c =>
    obtain ⟨callee, args, ats⟩ := c
    dsimp only at hk
    have hc : callee = .builtin .len ∨ callee = .builtin .cap := by
      unfold calleeKind at hk
      split at hk
      · exact .inl rfl
      · exact .inr rfl
      · exact absurd rfl hk
    unfold execOp resolve at h
    rcases hc with rfl | rfl
    all_goals
      dsimp only at h
      rw [Sem.run_bind, Sem.run_pure, Result.andThen_ok] at h
      exact valued h

theorem reads_load (t : TypeId) (a : Addr) : reads P (loadVar t a) := by
  have hload : ∀ (a : Addr), reads P (load a) := fun a v => trivial
  have hcells : ∀ (n i : Nat) (acc : Array Value), reads P (loadCellsFrom a i n acc) := by
    intro n
    induction n with
    | zero => intro i acc; trivial
    | succ n ih => intro i acc; exact reads_bind (hload _) fun v => ih _ _
  unfold loadVar
  have hagg : reads P (isAgg t) := by
    unfold isAgg
    exact reads_bind (still_reads (still_underlying _)) fun d => by split <;> trivial
  refine reads_bind hagg fun b => ?_
  split
  · refine reads_bind (still_reads (still_sizeOf _)) fun n => ?_
    refine reads_bind (hcells _ _ _) fun _ => trivial
  · exact hload a

theorem kind_r {o : Oper} {a : Act} (hk : kindOf P o.op = .r) : reads P (execOp a.eval o) := by
  obtain ⟨dst, op, ty, pos, aft, gd⟩ := o
  dsimp only at hk
  cases op <;> simp only [kindOf] at hk <;> try (exact Kind.noConfusion hk)
  case load t x =>
    refine reads_bind ?_ fun _ => trivial
    unfold Instr.loadAt
    exact reads_bind (still_reads (still_sureAddr _)) fun ad => reads_load t ad
  case fieldAddr => split at hk <;> cases hk
  case binOp => split at hk <;> cases hk
  case convert => split at hk <;> cases hk
  case call c =>
    unfold calleeKind at hk
    split at hk <;> cases hk

/-! ### One operation, and two in turn
S: what holds of every world that the region meets; st: which operations yield one value in every such world (loads of cells that nothing in the region writes). -/
def OnlyN (Q : Exit → Act → World → Prop) : Exit → Act → World → Prop
  | .normal, a, w => Q .normal a w
  | _, _, _ => False

def kindS (P : Program) (st : Op → Bool) (o : Op) : Kind := if st o then .s else kindOf P o

variable {ops : Array Oper} {Q : Exit → Act → World → Prop} {S : World → Prop} {st : Op → Bool}

def opI (P : Program) (ops : Array Oper) (S : World → Prop) (st : Op → Bool) (Q : Exit → Act → World → Prop) (o : Oper) (K : Act → World → Prop) (a : Act) (w : World) : Prop :=
  if Region.wanted o (yielded ops a.tmps) then
    okVals P o.op a = true ∧ (if st o.op then ∃ v, (∀ w', S w' → (execOp a.eval o).run P w' = .ok (.value v) w') ∧ K (a.put o.dst v) w else o.wp P a w (fun a w => S w ∧ K a w) (OnlyN Q))
  else K (a.put o.dst undef) w

theorem onlyN_false {Q : Exit → Act → World → Prop} : ¬ LetsOut (OnlyN Q) := fun ⟨_, _, h⟩ => h

theorem upon_state {o : Oper} {a b : Act} {next next' : Act → World → Prop} {r : Result Next} (hd : b.defers = a.defers) (h : o.upon P a next (OnlyN Q) r)
    (hn : ∀ D u w', next ({ a with defers := D }.put o.dst u) w' → next' ({ b with defers := D }.put o.dst u) w') : o.upon P b next' (OnlyN Q) r := by
  cases r with
  | halt e w' =>
    cases e <;> simp only [Oper.upon] at h ⊢
    exact h
  | ok n w' =>
    cases n <;> simp only [Oper.upon] at h ⊢
    case value v => have := hn a.defers v w' h; rwa [← hd] at this
    case skip => have := hn a.defers undef w' h; rwa [← hd] at this
    case defer d => have := hn (d :: a.defers) undef w' h; rwa [← hd] at this
    case enter f args =>
      refine Calls.mono h fun e w'' he => ?_
      cases e with
      | returned v => have := hn a.defers v w'' he; rwa [← hd] at this
      | panicked c => exact he.elim
      | outgrown => exact he
    case row row args =>
      refine Rows.mono h fun v w'' he => ?_
      have := hn a.defers v w'' he; rwa [← hd] at this

theorem upon_some {o : Oper} {a : Act} {next : Act → World → Prop} {r : Result Next} (h : o.upon P a next (OnlyN Q) r) :
    ∃ D u w', next ({ a with defers := D }.put o.dst u) w' := by
  cases r with
  | halt e w' =>
    cases e <;> simp only [Oper.upon] at h
    exact h.elim
  | ok n w' =>
    cases n <;> simp only [Oper.upon] at h
    case value v => exact ⟨a.defers, v, w', h⟩
    case skip => exact ⟨a.defers, undef, w', h⟩
    case defer d => exact ⟨_, undef, w', h⟩
    case enter f args =>
      obtain ⟨e, w'', fr, hR, _⟩ := h []
      cases e with
      | returned v => exact ⟨a.defers, v, w'', hR⟩
      | panicked c => exact hR.elim
      | outgrown => exact (onlyN_false hR).elim
    case row row args =>
      obtain ⟨v, w'', hR, _⟩ := h default []
      exact ⟨a.defers, v, w'', hR⟩

theorem opI_mono {o : Oper} {a : Act} {w : World} {K K' : Act → World → Prop} (hS : S w) (h : ∀ a w, S w → K a w → K' a w) (hh : opI P ops S st Q o K a w) : opI P ops S st Q o K' a w := by
  unfold opI at *
  split
  · rename_i hw
    rw [if_pos hw] at hh
    refine ⟨hh.1, ?_⟩
    have h2 := hh.2
    split
    · rename_i hs
      rw [if_pos hs] at h2
      obtain ⟨v, hv, hk⟩ := h2
      exact ⟨v, hv, h _ _ hS hk⟩
    · rename_i hs
      rw [if_neg hs] at h2
      exact upon_state rfl h2 fun D u w' hk => ⟨hk.1, h _ _ hk.1 hk.2⟩
  · rename_i hw
    rw [if_neg hw] at hh
    exact h _ _ hS hh

/-- in state 'a' the operation leaves v, in whatever world that meets S -/
def Gives (P : Program) (ops : Array Oper) (S : World → Prop) (o : Oper) (v : Value) (a : Act) : Prop :=
  (Region.wanted o (yielded ops a.tmps) = true ∧ okVals P o.op a = true ∧ ∀ w, S w → (execOp a.eval o).run P w = .ok (.value v) w) ∨
  (Region.wanted o (yielded ops a.tmps) = false ∧ v = undef)
def GivesAt (P : Program) (ops : Array Oper) (o : Oper) (v : Value) (a : Act) (w : World) : Prop :=
  (Region.wanted o (yielded ops a.tmps) = true ∧ okVals P o.op a = true ∧ (execOp a.eval o).run P w = .ok (.value v) w) ∨
  (Region.wanted o (yielded ops a.tmps) = false ∧ v = undef)

theorem Gives.opI {o : Oper} {v : Value} {a : Act} {w : World} {K : Act → World → Prop} (h : Gives P ops S o v a) (hS : S w) (hK : K (a.put o.dst v) w) : opI P ops S st Q o K a w := by
  unfold Go.Ord.opI
  rcases h with ⟨hw, hv, hr⟩ | ⟨hw, rfl⟩
  · rw [if_pos hw]
    refine ⟨hv, ?_⟩
    split
    · exact ⟨v, hr, hK⟩
    · unfold Oper.wp
      rw [hr w hS]
      exact ⟨hS, hK⟩
  · rw [if_neg (by rw [hw]; exact Bool.false_ne_true)]
    exact hK
theorem GivesAt.opI {o : Oper} {v : Value} {a : Act} {w : World} {K : Act → World → Prop} (hs : st o.op = false) (h : GivesAt P ops o v a w) (hS : S w) (hK : K (a.put o.dst v) w) : opI P ops S st Q o K a w := by
  unfold Go.Ord.opI
  rcases h with ⟨hw, hv, hr⟩ | ⟨hw, rfl⟩
  · rw [if_pos hw]
    refine ⟨hv, ?_⟩
    rw [if_neg (by rw [hs]; exact Bool.false_ne_true)]
    unfold Oper.wp
    rw [hr]
    exact ⟨hS, hK⟩
  · rw [if_neg (by rw [hw]; exact Bool.false_ne_true)]
    exact hK

theorem gives_of {o : Oper} {a : Act} {w : World} {K : Act → World → Prop} (hk : kindS P st o.op = .p ∨ kindS P st o.op = .s) (h : opI P ops S st Q o K a w) : ∃ v, Gives P ops S o v a ∧ K (a.put o.dst v) w := by
  unfold opI at h
  by_cases hw : Region.wanted o (yielded ops a.tmps) = true
  · rw [if_pos hw] at h
    obtain ⟨hv, hwp⟩ := h
    by_cases hs : st o.op = true
    · rw [if_pos hs] at hwp
      obtain ⟨v, hr, hK⟩ := hwp
      exact ⟨v, .inl ⟨hw, hv, hr⟩, hK⟩
    · rw [if_neg hs] at hwp
      have hp : kindOf P o.op = .p := by
        unfold kindS at hk
        rw [if_neg hs] at hk
        rcases hk with hk | hk
        · exact hk
        · exfalso
          revert hk
          generalize o.op = op
          cases op <;> simp only [kindOf] <;> (try split) <;> (try decide)
          all_goals (unfold calleeKind; split <;> decide)
      unfold Oper.wp at hwp
      cases hr : (execOp a.eval o).run P w with
      | halt e w' => rw [hr] at hwp; cases e <;> simp only [Oper.upon] at hwp; exact hwp.elim
      | ok n w' =>
        obtain ⟨v, rfl⟩ := kind_value (by rw [hp]; decide) hr
        obtain ⟨rfl, hall⟩ := still_run (still_kind hp hv) hr
        rw [hr] at hwp
        exact ⟨v, .inl ⟨hw, hv, fun w _ => hall w⟩, hwp.2⟩
  · rw [if_neg hw] at h
    exact ⟨undef, .inr ⟨by simpa using hw, rfl⟩, h⟩
theorem givesAt_of {o : Oper} {a : Act} {w : World} {K : Act → World → Prop} (hk : kindS P st o.op = .r) (h : opI P ops S st Q o K a w) : ∃ v, GivesAt P ops o v a w ∧ K (a.put o.dst v) w := by
  have hs : st o.op = false := by
    unfold kindS at hk
    split at hk
    · cases hk
    · simp_all
  have hk' : kindOf P o.op = .r := by
    unfold kindS at hk
    rwa [if_neg (by rw [hs]; exact Bool.false_ne_true)] at hk
  unfold opI at h
  by_cases hw : Region.wanted o (yielded ops a.tmps) = true
  · rw [if_pos hw] at h
    obtain ⟨hv, hwp⟩ := h
    rw [if_neg (by rw [hs]; exact Bool.false_ne_true)] at hwp
    unfold Oper.wp at hwp
    cases hr : (execOp a.eval o).run P w with
    | halt e w' => rw [hr] at hwp; cases e <;> simp only [Oper.upon] at hwp; exact hwp.elim
    | ok n w' =>
      obtain ⟨v, rfl⟩ := kind_value (by rw [hk']; decide) hr
      obtain rfl := reads_run (kind_r hk') hr
      rw [hr] at hwp
      exact ⟨v, .inl ⟨hw, hv, hr⟩, hwp.2⟩
  · rw [if_neg hw] at h
    exact ⟨undef, .inr ⟨by simpa using hw, rfl⟩, h⟩

theorem okVals_congr {op : Op} {a b : Act} (h : ∀ x ∈ op.operands, b.eval x = a.eval x) : okVals P op b = okVals P op a := by
  cases op <;> simp only [okVals] <;> try rfl
  case nilCheck x => rw [h x (by simp [Op.operands])]
  case binOp op t x y yt => rw [h x (by simp [Op.operands]), h y (by simp [Op.operands])]
  case unOp op t x => rw [h x (by simp [Op.operands])]
  case convert s d x => rw [h x (by simp [Op.operands])]
  case indexAddr t x i => rw [h i (by simp [Op.operands])]
  case slice t x lo hi mx =>
    rw [h x (by simp [Op.operands])]
    congr 1
    have hh : ∀ y ∈ lo.toList ++ hi.toList ++ mx.toList, isInt (b.eval y) = isInt (a.eval y) := fun y hy => by
      rw [h y]
      simp only [Op.operands]
      simp only [List.mem_append] at hy
      simp only [Array.mem_append]
      rcases hy with (hy | hy) | hy
      · exact .inl (.inl (.inr (by simpa using hy)))
      · exact .inl (.inr (by simpa using hy))
      · exact .inr (by simpa using hy)
    generalize lo.toList ++ hi.toList ++ mx.toList = l at hh
    induction l with
    | nil => rfl
    | cons y l ih => simp only [List.all_cons]; rw [hh y (by simp), ih fun z hz => hh z (by simp [hz])]
  case call c =>
    obtain ⟨callee, args, ats⟩ := c
    dsimp only
    have hh : ∀ x ∈ args.toList, b.eval x = a.eval x := fun x hx => h x (by
      simp only [Op.operands, Call.operands]
      exact Array.mem_append.2 (.inr (by simpa using hx)))
    split <;> try rfl
    all_goals
      generalize args.toList = l at hh
      cases l with
      | nil => rfl
      | cons x l =>
        cases l with
        | nil => dsimp only; rw [hh x (by simp)]
        | cons y l => rfl

theorem okVals_put {o : Oper} {a : Act} {dst : Option Tmp} {v : Value} (h : ∀ d, dst = some d → d ∉ o.looksAt ops) : okVals P o.op (a.put dst v) = okVals P o.op a :=
  okVals_congr fun x hx => Act.eval_put fun d hd hxd => h d hd (by
    subst hxd
    exact List.mem_append_left _ (List.mem_filterMap.2 ⟨.tmp d, by simpa using hx, rfl⟩))

theorem Gives.of_same {o : Oper} {v : Value} {a b : Act} (h : Gives P ops S o v a) (he : execOp b.eval o = execOp a.eval o) (hw : Region.wanted o (yielded ops b.tmps) = Region.wanted o (yielded ops a.tmps))
    (hv : okVals P o.op b = okVals P o.op a) : Gives P ops S o v b := by
  unfold Gives at *; rw [he, hw, hv]; exact h
theorem GivesAt.of_same {o : Oper} {v : Value} {a b : Act} {w : World} (h : GivesAt P ops o v a w) (he : execOp b.eval o = execOp a.eval o) (hw : Region.wanted o (yielded ops b.tmps) = Region.wanted o (yielded ops a.tmps))
    (hv : okVals P o.op b = okVals P o.op a) : GivesAt P ops o v b w := by
  unfold GivesAt at *; rw [he, hw, hv]; exact h
theorem Gives.unique {o : Oper} {u v : Value} {a : Act} {w : World} (hS : S w) (h : Gives P ops S o u a) (k : Gives P ops S o v a) : u = v := by
  rcases h with ⟨h1, _, h2⟩ | ⟨h1, h2⟩ <;> rcases k with ⟨k1, _, k2⟩ | ⟨k1, k2⟩
  · have := (h2 w hS).symm.trans (k2 w hS)
    simpa using this
  · rw [h1] at k1; cases k1
  · rw [h1] at k1; cases k1
  · rw [h2, k2]

variable {oi oj : Oper}

/-- the same operation, in a state that differs in what an operation apart has left (and in the deferred calls) -/
theorem opI_conv {o : Oper} {a b : Act} {w : World} {K K' : Act → World → Prop} (hS : S w) (hd : b.defers = a.defers) (he : execOp b.eval o = execOp a.eval o) (hw : Region.wanted o (yielded ops b.tmps) = Region.wanted o (yielded ops a.tmps))
    (hv : okVals P o.op b = okVals P o.op a) (h : opI P ops S st Q o K a w)
    (hn : ∀ D u w', S w' → K ({ a with defers := D }.put o.dst u) w' → K' ({ b with defers := D }.put o.dst u) w') : opI P ops S st Q o K' b w := by
  unfold opI at *
  rw [hw, hv]
  split
  · rename_i hw'
    rw [if_pos hw'] at h
    refine ⟨h.1, ?_⟩
    have h2 := h.2
    split
    · rename_i hs
      rw [if_pos hs] at h2
      obtain ⟨v, hr, hk⟩ := h2
      have := hn a.defers v w hS hk
      rw [← hd] at this
      exact ⟨v, by rw [he]; exact hr, this⟩
    · rename_i hs
      rw [if_neg hs] at h2
      unfold Oper.wp at *
      rw [he]
      exact upon_state hd h2 fun D u w' hk => ⟨hk.1, hn D u w' hk.1 hk.2⟩
  · rename_i hw'
    rw [if_neg hw'] at h
    have := hn a.defers undef w hS h
    rwa [← hd] at this

theorem opI_some {o : Oper} {a : Act} {w : World} {K : Act → World → Prop} (hS : S w) (h : opI P ops S st Q o K a w) : ∃ D u w', S w' ∧ K ({ a with defers := D }.put o.dst u) w' := by
  unfold opI at h
  split at h
  · have h2 := h.2
    split at h2
    · obtain ⟨v, _, hk⟩ := h2
      exact ⟨a.defers, v, w, hS, hk⟩
    · obtain ⟨D, u, w', hk⟩ := upon_some h2
      exact ⟨D, u, w', hk.1, hk.2⟩
  · exact ⟨a.defers, undef, w, hS, h⟩

theorem put_D (a : Act) (x : Option Tmp) (v : Value) (D : List Deferred) : { a.put x v with defers := D } = { a with defers := D }.put x v := by
  cases x <;> rfl

def quietK (a : Kind) : Bool := a == .p || a == .s
def compat (a b : Kind) : Bool := quietK a || quietK b || (a == .r && b == .r)
theorem quietK_spec {a : Kind} (h : quietK a = true) : a = .p ∨ a = .s := by
  cases a <;> simp_all [quietK]

theorem swap (hap : oi.apart ops oj = true) (hsi : ∀ cs b, oi.op ≠ .select cs b) (hsj : ∀ cs b, oj.op ≠ .select cs b) (hc : compat (kindS P st oi.op) (kindS P st oj.op) = true)
    {K : Act → World → Prop} {a : Act} {w : World} (hS : S w) (h : opI P ops S st Q oi (opI P ops S st Q oj K) a w) : opI P ops S st Q oj (opI P ops S st Q oi K) a w := by
  obtain ⟨h1, h2, h3⟩ := Oper.apart_spec hap
  have ej : ∀ (a : Act) v, execOp (a.put oi.dst v).eval oj = execOp a.eval oj := fun a v => execOp_put oj hsj a _ v h1
  have wj : ∀ (a : Act) v, Region.wanted oj (yielded ops (a.put oi.dst v).tmps) = Region.wanted oj (yielded ops a.tmps) := fun a v => wanted_put oj a _ v h1
  have vj : ∀ (a : Act) v, okVals P oj.op (a.put oi.dst v) = okVals P oj.op a := fun a v => okVals_put h1
  have ei : ∀ (a : Act) v, execOp (a.put oj.dst v).eval oi = execOp a.eval oi := fun a v => execOp_put oi hsi a _ v h3
  have wi : ∀ (a : Act) v, Region.wanted oi (yielded ops (a.put oj.dst v).tmps) = Region.wanted oi (yielded ops a.tmps) := fun a v => wanted_put oi a _ v h3
  have vi : ∀ (a : Act) v, okVals P oi.op (a.put oj.dst v) = okVals P oi.op a := fun a v => okVals_put h3
  have hD : ∀ (o : Oper) (a : Act) D, execOp ({ a with defers := D } : Act).eval o = execOp a.eval o ∧ Region.wanted o (yielded ops ({ a with defers := D } : Act).tmps) = Region.wanted o (yielded ops a.tmps) ∧ okVals P o.op { a with defers := D } = okVals P o.op a := by
    intro o a D
    have he : ({ a with defers := D } : Act).eval = a.eval := by funext x; cases x <;> rfl
    exact ⟨by rw [he], rfl, okVals_congr fun x _ => by rw [he]⟩
  have comm : ∀ (a : Act) v u, (a.put oi.dst v).put oj.dst u = (a.put oj.dst u).put oi.dst v := fun a v u => Act.put_comm a v u h2
  by_cases hi : quietK (kindS P st oi.op) = true
  · obtain ⟨v, hg, hj⟩ := gives_of (quietK_spec hi) h
    refine opI_conv (a := a.put oi.dst v) hS (by cases oi.dst <;> rfl) (ej a v).symm (wj a v).symm (vj a v).symm hj ?_
    intro D u w' hS' hk
    rw [put_D, comm] at hk
    exact Gives.opI (hg.of_same ((ei _ u).trans (hD oi a D).1) ((wi _ u).trans (hD oi a D).2.1) ((vi _ u).trans (hD oi a D).2.2)) hS' hk
  · by_cases hj : quietK (kindS P st oj.op) = true
    · obtain ⟨D, u, w', hS', hk⟩ := opI_some hS h
      obtain ⟨v, hg, _⟩ := gives_of (quietK_spec hj) hk
      have hg' : Gives P ops S oj v a := hg.of_same (((ej _ u).trans (hD oj a D).1).symm) (((wj _ u).trans (hD oj a D).2.1).symm) (((vj _ u).trans (hD oj a D).2.2).symm)
      refine hg'.opI hS ?_
      refine opI_conv (a := a) hS (by cases oj.dst <;> rfl) (ei a v) (wi a v) (vi a v) h ?_
      intro D2 u2 w2 hS2 hk2
      obtain ⟨v2, hg2, hK2⟩ := gives_of (quietK_spec hj) hk2
      have : v2 = v := hg2.unique hS2 (hg'.of_same ((ej _ u2).trans (hD oj a D2).1) ((wj _ u2).trans (hD oj a D2).2.1) ((vj _ u2).trans (hD oj a D2).2.2))
      rw [this, comm] at hK2
      rw [put_D]
      exact hK2
    · have hir : kindS P st oi.op = .r := by
        cases hk : kindS P st oi.op <;> cases hk' : kindS P st oj.op <;> simp_all [compat, quietK]
      have hjr : kindS P st oj.op = .r := by
        cases hk : kindS P st oi.op <;> cases hk' : kindS P st oj.op <;> simp_all [compat, quietK]
      have hsi' : st oi.op = false := by
        unfold kindS at hir
        split at hir
        · cases hir
        · simp_all
      have hsj' : st oj.op = false := by
        unfold kindS at hjr
        split at hjr
        · cases hjr
        · simp_all
      obtain ⟨v, hg, hk⟩ := givesAt_of hir h
      obtain ⟨u, hgj, hK⟩ := givesAt_of hjr hk
      refine GivesAt.opI hsj' (hgj.of_same (ej a v).symm (wj a v).symm (vj a v).symm) hS ?_
      refine GivesAt.opI hsi' (hg.of_same (ei a u) (wi a u) (vi a u)) hS ?_
      rw [comm] at hK
      exact hK

def noS : World → Prop := fun _ => True
def noSt : Op → Bool := fun _ => false
def depsOf (ops : Array Oper) (i : Nat) : List Nat :=
  (List.range ops.size).foldl (fun acc j => if i < j && ((ops[j]?).map fun o => o.after.toList.any fun e => Region.binds .any e && (e.on == i || acc.contains e.on)).getD false then acc ++ [j] else acc) []

/-- the last operation stands behind each other one -/
def lastB (ops : Array Oper) : Bool := (List.range ops.size).all fun i => i + 1 == ops.size || (depsOf ops i).contains (ops.size - 1)

/-! ### Whatever order -/
def wpAnyI (P : Program) (ops : Array Oper) (S : World → Prop) (st : Op → Bool) (Q : Exit → Act → World → Prop) : Nat → Array Bool → Act → World → Prop
  | 0, listed, a, w => Region.ready .any ops listed = [] ∧ Q .normal a w
  | fuel + 1, listed, a, w =>
    (Region.ready .any ops listed = [] → Q .normal a w) ∧
    ∀ i ∈ Region.ready .any ops listed, ∃ oi, ops[i]? = some oi ∧ (opI P ops S st Q oi (wpAnyI P ops S st Q fuel (listed.setIfInBounds i true)) a w ∨
      (i + 1 = ops.size ∧ lastB ops = true ∧ Region.ready .any ops (listed.setIfInBounds i true) = [] ∧ opI P ops noS noSt Q oi (fun a w => Q .normal a w) a w))

theorem wp_of_onlyN {o : Oper} {a : Act} {w : World} {K : Act → World → Prop} (h : o.wp P a w K (OnlyN Q)) : o.wp P a w K Q := by
  unfold Oper.wp at *
  generalize (execOp a.eval o).run P w = r at *
  cases r with
  | halt e w' => cases e <;> simp only [Oper.upon] at h ⊢; exact h.elim
  | ok n w' =>
    cases n <;> simp only [Oper.upon] at h ⊢ <;> try exact h
    refine Calls.mono h fun e w'' he => ?_
    cases e with
    | returned v => exact he
    | panicked c => exact he.elim
    | outgrown => exact (onlyN_false he).elim

theorem wpAny_done {listed : Array Bool} {a : Act} {w : World} (hr : Region.ready .any ops listed = []) (h : Q .normal a w) : ∀ (fuel : Nat), wpAny P .any ops Q fuel listed a w
  | 0 => ⟨hr, h⟩
  | fuel + 1 => ⟨fun _ => h, fun i hi => by rw [hr] at hi; cases hi⟩

theorem wpAny_of_I : ∀ (fuel : Nat) (listed : Array Bool) (a : Act) (w : World), S w → wpAnyI P ops S st Q fuel listed a w → wpAny P .any ops Q fuel listed a w
  | 0, _, _, _, _, h => h
  | fuel + 1, listed, a, w, hS, h => by
    refine ⟨h.1, fun i hi => ?_⟩
    obtain ⟨oi, ho, hop⟩ := h.2 i hi
    unfold wpOp
    rw [ho]
    dsimp only
    rcases hop with hop | ⟨_, _, hr, hop⟩
    · unfold opI at hop
      split
      · rename_i hw
        rw [if_pos hw] at hop
        have h2 := hop.2
        split at h2
        · obtain ⟨v, hr, hk⟩ := h2
          refine .inl ?_
          unfold Oper.wp
          rw [hr w hS]
          exact wpAny_of_I fuel _ _ _ hS hk
        · exact .inl (Oper.wp_mono (fun a w hk => wpAny_of_I fuel _ a w hk.1 hk.2) (wp_of_onlyN h2))
      · rename_i hw
        rw [if_neg hw] at hop
        exact wpAny_of_I fuel _ _ _ hS hop
    · unfold opI at hop
      split
      · rename_i hw
        rw [if_pos hw] at hop
        have h2 := hop.2
        rw [if_neg (show ¬ noSt oi.op = true from Bool.false_ne_true)] at h2
        exact .inl (Oper.wp_mono (fun a w hk => wpAny_done hr hk.2 fuel) (wp_of_onlyN h2))
      · rename_i hw
        rw [if_neg hw] at hop
        exact wpAny_done hr hop fuel

theorem any_first {i : Nat} {oi : Oper} (hi : ops[i]? = some oi) (hsel : ∀ (j : Nat) (o : Oper) cs b, ops[j]? = some o → o.op ≠ .select cs b) (D : List Nat)
    (hD : ∀ j ∈ D, ∀ oj, ops[j]? = some oj → ∃ e ∈ oj.after, Region.binds .any e = true ∧ (e.on = i ∨ e.on ∈ D))
    (hlast : lastB ops = true → ∀ j, j + 1 = ops.size → j ≠ i → j ∈ D) :
    ∀ (fuel : Nat) (listed : Array Bool) (a : Act) (w : World), S w →
      (∀ j oj, ops[j]? = some oj → j ≠ i → listed.getD j true = false → j ∉ D → oi.apart ops oj = true ∧ compat (kindS P st oi.op) (kindS P st oj.op) = true) →
      (∀ j ∈ D, listed.getD j false = false) →
      i ∈ Region.ready .any ops listed → opI P ops S st Q oi (wpAnyI P ops S st Q fuel (listed.setIfInBounds i true)) a w → wpAnyI P ops S st Q (fuel + 1) listed a w := by
  intro fuel
  induction fuel with
  | zero =>
    intro listed a w hS _ _ hr H
    refine ⟨fun h => (by rw [h] at hr; cases hr), fun j hj => ?_⟩
    by_cases hji : j = i
    · subst hji; exact ⟨oi, hi, .inl H⟩
    · have h0 := ready_mono hj hji
      obtain ⟨_, _, _, _, hK⟩ := opI_some hS H
      rw [hK.1] at h0
      cases h0
  | succ fuel ih =>
    intro listed a w hS hfree hDl hr H
    refine ⟨fun h => (by rw [h] at hr; cases hr), fun j hj => ?_⟩
    by_cases hji : j = i
    · subst hji; exact ⟨oi, hi, .inl H⟩
    · obtain ⟨hjun, oj, hoj, hall⟩ := mem_ready.1 hj
      have hiun : listed.getD i false = true → False := fun h1 => by
        have h0 := (mem_ready.1 hr).1
        rcases Nat.lt_or_ge i listed.size with h' | h'
        · simp [h'] at h0 h1; rw [h0] at h1; cases h1
        · simp [Array.getElem?_eq_none h'] at h1
      have hjD : j ∉ D := fun hm => by
        obtain ⟨e, he, hb, h⟩ := hD j hm oj hoj
        have h1 := hall e he hb
        rcases h with h | h
        · rw [h] at h1; exact hiun h1
        · rw [hDl _ h] at h1; cases h1
      obtain ⟨hap, hco⟩ := hfree j oj hoj hji hjun hjD
      have hstep : opI P ops S st Q oi (opI P ops S st Q oj (wpAnyI P ops S st Q fuel ((listed.setIfInBounds i true).setIfInBounds j true))) a w := by
        refine opI_mono hS (fun a' w' _ hk => ?_) H
        obtain ⟨oj', hoj', h⟩ := hk.2 j (ready_mono hj hji)
        rw [hoj] at hoj'
        obtain rfl := Option.some.inj hoj'
        rcases h with h | ⟨hjs, hlb, _, _⟩
        · exact h
        · exact (hjD (hlast hlb j hjs hji)).elim
      have hsw := swap hap (fun cs b => hsel i oi cs b hi) (fun cs b => hsel j oj cs b hoj) hco hS hstep
      refine ⟨oj, hoj, .inl (opI_mono hS (fun a' w' hS' hk => ?_) hsw)⟩
      refine ih (listed.setIfInBounds j true) a' w' hS' ?_ ?_ (ready_mono hr (Ne.symm hji)) ?_
      · intro k ok hk' hki hun hkD
        refine hfree k ok hk' hki ?_ hkD
        by_cases hjk : j = k
        · subst hjk; exact hjun
        · rw [getD_set_ne true hjk] at hun; exact hun
      · intro k hk'
        have hjk : j ≠ k := fun h => hjD (h ▸ hk')
        rw [getD_set_ne false hjk]; exact hDl k hk'
      · rw [Array.setIfInBounds_comm _ _ hji]
        exact hk

/-- the walk in the order of the text -/
def wpI (P : Program) (ops : Array Oper) (S : World → Prop) (st : Op → Bool) (Q : Exit → Act → World → Prop) : List Oper → Act → World → Prop
  | [], a, w => Q .normal a w
  | o :: rest, a, w => opI P ops S st Q o (wpI P ops S st Q rest) a w ∨ (rest = [] ∧ lastB ops = true ∧ st o.op = false ∧ opI P ops noS noSt Q o (fun a w => Q .normal a w) a w)

def okB (P : Program) (st : Op → Bool) (ops : Array Oper) : Bool :=
  Region.noSelect ops && (List.range ops.size).all fun i =>
    match ops[i]? with
    | none => true
    | some oi =>
      let D := depsOf ops i
      (oi.after.toList.all fun e => !Region.binds .any e || e.on < i) &&
      (D.all fun j => i < j && match ops[j]? with | some oj => oj.after.toList.any (fun e => Region.binds .any e && (e.on == i || D.contains e.on)) | none => true) &&
      (List.range ops.size).all fun j => j ≤ i || D.contains j || match ops[j]? with | some oj => oi.apart ops oj && compat (kindS P st oi.op) (kindS P st oj.op) | none => true

theorem any_lex (hB : okB P st ops = true) : ∀ (l : List Oper) (k : Nat) (listed : Array Bool) (a : Act) (w : World), S w → k + l.length = ops.size → (∀ j, l[j]? = ops[k + j]?) → listed.size = ops.size →
    (∀ j, j < ops.size → listed[j]? = some (decide (j < k))) → wpI P ops S st Q l a w → wpAnyI P ops S st Q l.length listed a w
  | [], k, listed, a, w, _, hk, _, hs, hl, h => by
    refine ⟨?_, h⟩
    rw [List.eq_nil_iff_forall_not_mem]
    intro j hj
    obtain ⟨h0, o, ho, _⟩ := mem_ready.1 hj
    have hlt : j < ops.size := (Array.getElem?_eq_some_iff.1 ho).1
    have hjk : j < k := by simp at hk; omega
    have := hl j hlt
    simp [Array.getD_eq_getD_getElem?, this, hjk] at h0
  | o :: l, k, listed, a, w, hS, hk, hl0, hs, hl, h => by
    have h0 : ops[k]? = some o := by simpa using (hl0 0).symm
    have hklt : k < ops.size := (Array.getElem?_eq_some_iff.1 h0).1
    unfold okB at hB
    simp only [Bool.and_eq_true] at hB
    obtain ⟨hsel, hall⟩ := hB
    have hk1 := List.all_eq_true.1 hall k (List.mem_range.2 hklt)
    rw [h0] at hk1
    simp only [Bool.and_eq_true] at hk1
    obtain ⟨⟨he, hD⟩, hf⟩ := hk1
    have get : ∀ j d, j < ops.size → listed.getD j d = decide (j < k) := fun j d hj => by simp [Array.getD_eq_getD_getElem?, hl j hj]
    have hready : k ∈ Region.ready .any ops listed := by
      rw [mem_ready]
      refine ⟨by rw [get k true hklt]; simp, o, h0, fun e hem hb => ?_⟩
      have := List.all_eq_true.1 he e (by simpa using hem)
      simp only [hb, Bool.not_true, Bool.false_or, decide_eq_true_eq] at this
      rw [get e.on false (by omega)]; simpa using this
    rcases h with h | ⟨rfl, hlb, _, h⟩
    case inr =>
      have hks : k + 1 = ops.size := by simpa using hk
      refine ⟨fun hr => (by rw [hr] at hready; cases hready), fun i hi => ?_⟩
      obtain ⟨hi0, oi, hoi, _⟩ := mem_ready.1 hi
      have hilt : i < ops.size := (Array.getElem?_eq_some_iff.1 hoi).1
      rw [get i true hilt] at hi0
      have hik : ¬ i < k := by simpa using hi0
      obtain rfl : i = k := by omega
      refine ⟨o, h0, .inr ⟨hks, hlb, ?_, h⟩⟩
      rw [List.eq_nil_iff_forall_not_mem]
      intro j hj
      obtain ⟨hj0, oj, hoj, _⟩ := mem_ready.1 hj
      have hjlt : j < ops.size := (Array.getElem?_eq_some_iff.1 hoj).1
      by_cases hij : i = j
      · subst hij
        rw [Array.getD_eq_getD_getElem?, Array.getElem?_setIfInBounds, if_pos rfl, if_pos (by omega)] at hj0
        simp at hj0
      · rw [getD_set_ne true hij, get j true hjlt] at hj0
        have : ¬ j < i := by simpa using hj0
        omega
    refine any_first h0 (Region.noSelect_spec hsel) (depsOf ops k) ?_ ?_ l.length listed a w hS ?_ ?_ ?_ ?_
    · intro j hj oj hoj
      have := List.all_eq_true.1 hD j hj
      simp only [Bool.and_eq_true, hoj, List.any_eq_true, Bool.or_eq_true, beq_iff_eq, List.contains_iff_mem] at this
      obtain ⟨_, e, he1, he2, he3⟩ := this
      exact ⟨e, by simpa using he1, he2, he3⟩
    · intro hlb j hjs hjk
      have := List.all_eq_true.1 hlb k (List.mem_range.2 hklt)
      simp only [Bool.or_eq_true, beq_iff_eq, List.contains_iff_mem] at this
      rcases this with h' | h'
      · omega
      · rwa [show j = ops.size - 1 by omega]
    · intro j oj hoj hjk hun hjD
      have hjlt : j < ops.size := (Array.getElem?_eq_some_iff.1 hoj).1
      have h2 := get j true hjlt
      rw [hun] at h2
      have hge : ¬ j < k := by simpa using h2.symm
      have := List.all_eq_true.1 hf j (List.mem_range.2 hjlt)
      simp only [hoj, Bool.or_eq_true, Bool.and_eq_true, decide_eq_true_eq, List.contains_iff_mem] at this
      rcases this with (h3 | h3) | h3
      · omega
      · exact (hjD h3).elim
      · exact h3
    · intro j hj
      have := List.all_eq_true.1 hD j hj
      simp only [Bool.and_eq_true, decide_eq_true_eq] at this
      by_cases hjlt : j < ops.size
      · rw [get j false hjlt]; simp; omega
      · have : listed[j]? = none := Array.getElem?_eq_none (by omega)
        simp [Array.getD_eq_getD_getElem?, this]
    · exact hready
    · refine opI_mono hS (fun a' w' hS' hk' => ?_) h
      refine any_lex (by unfold okB; simp only [Bool.and_eq_true]; exact ⟨hsel, hall⟩) l (k + 1) _ a' w' hS' (by simp at hk; omega) (fun j => by have := hl0 (j + 1); simpa [Nat.add_assoc, Nat.add_comm 1 j] using this) (by simpa using hs) ?_ hk'
      intro j hj
      rw [Array.getElem?_setIfInBounds]
      by_cases hkj : k = j
      · subst hkj
        rw [if_pos rfl, if_pos (by omega)]
        simp
      · rw [if_neg hkj, hl j hj]
        congr 1
        apply decide_eq_decide.2
        omega

/-- **A REGION THAT DRAWS ITS ORDER, BY ONE WALK IN THE ORDER OF THE TEXT.** S holds of every world that is met; 'st' names the loads that yield one value in each such world. -/
theorem wp_region_textS (S : World → Prop) (st : Op → Bool) {id : Nat} {a : Act} {w : World} {l : List Oper} (hm : P.follows .mixedOrders = true) (hB : okB P st l.toArray = true) (hS : S w.drew)
    (h : wpI P l.toArray S st Q l a w.drew) : (Code.region id l.toArray true).wp P Q a w := by
  refine wp_region_any hm (wpAny_of_I (S := S) (st := st) _ _ _ _ hS ?_)
  have := any_lex (Q := Q) (S := S) hB l 0 (Array.replicate l.toArray.size false) a w.drew hS (by simp) (by simp) (by simp) (by intro j hj; simp at hj; simp [hj]) h
  simpa using this
theorem wp_region_text {id : Nat} {a : Act} {w : World} {l : List Oper} (hm : P.follows .mixedOrders = true) (hB : okB P noSt l.toArray = true)
    (h : wpI P l.toArray noS noSt Q l a w.drew) : (Code.region id l.toArray true).wp P Q a w := wp_region_textS noS noSt hm hB trivial h

/-! ### Steps of that walk -/
theorem wpI_nil {a : Act} {w : World} (h : Q .normal a w) : wpI P ops S st Q [] a w := h
theorem opI_step {o : Oper} {a : Act} {w : World} {K : Act → World → Prop} (hg : o.guard = none) (hs : st o.op = false) (hv : okVals P o.op a = true)
    (h1 : wpList P ops (OnlyN (fun _ a w => S w ∧ K a w)) [o] a w) : opI P ops S st Q o K a w := by
  unfold opI
  have hw : Region.wanted o (yielded ops a.tmps) = true := by simp [Region.wanted, hg]
  rw [if_pos hw]
  refine ⟨hv, ?_⟩
  rw [if_neg (by rw [hs]; exact Bool.false_ne_true)]
  unfold wpList at h1
  rw [if_pos hw] at h1
  rcases h1 with h1 | ⟨_, h1⟩
  · unfold Oper.wp at *
    generalize (execOp a.eval o).run P w = r at *
    cases r with
    | halt e w' => cases e <;> simp only [Oper.upon] at h1 ⊢; exact h1.elim
    | ok n w' =>
      cases n <;> simp only [Oper.upon] at h1 ⊢ <;> exact h1
  · exact (onlyN_false h1).elim
/-- an operation without a guard: by the laws of 'wpList' -/
theorem wpI_step {o : Oper} {rest : List Oper} {a : Act} {w : World} (hg : o.guard = none) (hs : st o.op = false) (hv : okVals P o.op a = true)
    (h : ∀ K : Act → World → Prop, (∀ a w, wpI P ops S st Q rest a w → K a w) → wpList P ops (OnlyN (fun _ a w => S w ∧ K a w)) [o] a w) : wpI P ops S st Q (o :: rest) a w :=
  .inl (opI_step hg hs hv (h (wpI P ops S st Q rest) (fun _ _ h => h)))
/-- the last operation, where all others stand ahead of it: it need not keep S -/
theorem wpI_last {o : Oper} {a : Act} {w : World} (hlb : lastB ops = true) (hs : st o.op = false) (hg : o.guard = none) (hv : okVals P o.op a = true)
    (h : ∀ K : Act → World → Prop, (∀ a w, Q .normal a w → K a w) → wpList P ops (OnlyN (fun _ a w => noS w ∧ K a w)) [o] a w) : wpI P ops S st Q [o] a w :=
  .inr ⟨rfl, hlb, hs, opI_step hg rfl hv (h (fun a w => Q .normal a w) (fun _ _ h => h))⟩
/-- an operation that yields one value in every world of S -/
theorem wpI_steady {o : Oper} {rest : List Oper} {a : Act} {w : World} (v : Value) (hg : o.guard = none) (hs : st o.op = true) (hv : okVals P o.op a = true)
    (hr : ∀ w', S w' → (execOp a.eval o).run P w' = .ok (.value v) w') (h : wpI P ops S st Q rest (a.put o.dst v) w) : wpI P ops S st Q (o :: rest) a w := by
  refine .inl ?_
  show opI P ops S st Q o _ a w
  unfold opI
  have hw : Region.wanted o (yielded ops a.tmps) = true := by simp [Region.wanted, hg]
  rw [if_pos hw]
  refine ⟨hv, ?_⟩
  rw [if_pos hs]
  exact ⟨v, hr, h⟩

/-- an operation whose guard says no, or yes -/
theorem wpI_skip {o : Oper} {rest : List Oper} {a : Act} {w : World} (hw : Region.wanted o (yielded ops a.tmps) = false) (h : wpI P ops S st Q rest (a.put o.dst undef) w) : wpI P ops S st Q (o :: rest) a w := by
  refine .inl ?_
  show opI P ops S st Q o _ a w
  unfold opI
  rw [if_neg (by rw [hw]; exact Bool.false_ne_true)]
  exact h
theorem wpI_want {d : Option Tmp} {op : Op} {ty : TypeId} {pos : String} {aft : Array Edge} {g : Nat × Bool} {rest : List Oper} {a : Act} {w : World} (hw : Region.wanted { dst := d, op := op, type := ty, pos := pos, after := aft, guard := some g } (yielded ops a.tmps) = true)
    (h : wpI P ops S st Q ({ dst := d, op := op, type := ty, pos := pos, after := aft, guard := none } :: rest) a w) :
    wpI P ops S st Q ({ dst := d, op := op, type := ty, pos := pos, after := aft, guard := some g } :: rest) a w := by
  have h2 : opI P ops S st Q { dst := d, op := op, type := ty, pos := pos, after := aft, guard := none } (wpI P ops S st Q rest) a w ∨ (rest = [] ∧ lastB ops = true ∧ st op = false ∧ opI P ops noS noSt Q { dst := d, op := op, type := ty, pos := pos, after := aft, guard := none } (fun a w => Q .normal a w) a w) := h
  refine h2.imp (fun h2 => ?_) (fun h2 => ⟨h2.1, h2.2.1, h2.2.2.1, ?_⟩)
  · show opI P ops S st Q _ _ a w
    unfold opI at *
    rw [if_pos hw]
    rw [if_pos (by simp [Region.wanted])] at h2
    exact h2
  · have h3 := h2.2.2.2
    unfold opI at *
    rw [if_pos hw]
    rw [if_pos (by simp [Region.wanted])] at h3
    exact h3

/-! gates and small facts for the walk's arms -/
theorem gI {o : Oper} {rest : List Oper} {a : Act} {w : World} (h : wpI P ops S st Q (o :: rest) a w) : wpI P ops S st Q (o :: rest) a w := h
theorem gOnly {K : Act → World → Prop} {a : Act} {w : World} (hS : S w) (h : K a w) : OnlyN (fun _ a w => S w ∧ K a w) .normal a w := ⟨hS, h⟩
theorem gOnly0 {K : Act → World → Prop} {a : Act} {w : World} (h : K a w) : OnlyN (fun _ a w => noS w ∧ K a w) .normal a w := ⟨trivial, h⟩
theorem ok_int {op : BinOp} {t yt : TypeId} {x y : Operand} {a : Act} {k k' : IntKind} {m n : Int} (hx : a.eval x = .int k m) (hy : a.eval y = .int k' n) : okVals P (.binOp op t x y yt) a = true := by
  simp [okVals, hx, hy]
theorem ok_bool {op : BinOp} {t yt : TypeId} {x y : Operand} {a : Act} {m n : Bool} (hx : a.eval x = .bool m) (hy : a.eval y = .bool n) : okVals P (.binOp op t x y yt) a = true := by
  simp [okVals, hx, hy]
theorem ok_str {op : BinOp} {t yt : TypeId} {x y : Operand} {a : Act} {m n : ByteArray} (hx : a.eval x = .string m) (hy : a.eval y = .string n) : okVals P (.binOp op t x y yt) a = true := by
  simp [okVals, hx, hy]
theorem ok_agg {op : BinOp} {t yt : TypeId} {x y : Operand} {a : Act} (h : flat P t = false) : okVals P (.binOp op t x y yt) a = true := by
  simp [okVals, h]
theorem ok_conv {s d : TypeId} {x : Operand} {a : Act} {k : IntKind} {m : Int} (hx : a.eval x = .int k m) : okVals P (.convert s d x) a = true := by
  simp [okVals, hx, isInt]
theorem ok_convS {s d : TypeId} {x : Operand} {a : Act} (h : flatInt P s = false) : okVals P (.convert s d x) a = true := by
  simp [okVals, h]


/-! what a load yields -/
def aggT (P : Program) (T : TypeId) : Option Bool := (P.underlying T).map fun d => match d with | .struct _ | .array _ _ => true | _ => false

theorem run_isAgg {T : TypeId} {b : Bool} (hT : aggT P T = some b) (w : World) : (isAgg T).run P w = .ok b w := by
  obtain ⟨d, hd, hb⟩ := Option.map_eq_some_iff.1 hT
  unfold isAgg
  rw [Sem.run_bind, run_underlying hd]
  subst hb
  cases d <;> rfl
theorem run_load_one {d : Option Tmp} {ty : TypeId} {pos : String} {aft : Array Edge} {gd : Option (Nat × Bool)} {T : TypeId} {x : Operand} {a : Act} {w : World} {ad : Addr} {v : Value}
    (hx : a.eval x = .pointer (some ad)) (hT : aggT P T = some false) (hc : w.cell? ad = some v) :
    (execOp a.eval { dst := d, op := .load T x, type := ty, pos := pos, after := aft, guard := gd }).run P w = .ok (.value v) w := by
  simp [execOp, Instr.loadAt, hx, Instr.sureAddr, loadVar, run_isAgg hT, hc]
theorem run_load_many {d : Option Tmp} {ty : TypeId} {pos : String} {aft : Array Edge} {gd : Option (Nat × Bool)} {T : TypeId} {x : Operand} {a : Act} {w : World} {ad : Addr} (cs : List Value)
    (hx : a.eval x = .pointer (some ad)) (hT : aggT P T = some true) (hi : (P.info? T).map (·.size) = some cs.length) (hc : ∀ j v, cs[j]? = some v → w.cell? (ad.add j) = some v) :
    (execOp a.eval { dst := d, op := .load T x, type := ty, pos := pos, after := aft, guard := gd }).run P w = .ok (.value (.agg cs.toArray)) w := by
  obtain ⟨inf, hinf, hs⟩ := Option.map_eq_some_iff.1 hi
  have hl := run_loadCells_list (P := P) w ad cs hc
  simp [execOp, Instr.loadAt, hx, Instr.sureAddr, loadVar, run_isAgg hT, sizeOf, typeInfo, hinf, hs, hl]

/-- a load of a whole variable, wherever it stands -/
theorem own_loadCells {d : Option Tmp} {ty : TypeId} {pos : String} {aft : Array Edge} {rest : List Oper} {T : TypeId} {x : Operand} {a : Act} {w : World} {ad : Addr} (cs : List Value)
    (hx : a.eval x = .pointer (some ad)) (hT : aggT P T = some true) (hi : (P.info? T).map (·.size) = some cs.length) (hc : ∀ j v, cs[j]? = some v → w.cell? (ad.add j) = some v)
    (h : wpList P ops Q rest (a.put d (.agg cs.toArray)) w) :
    wpList P ops Q ({ dst := d, op := .load T x, type := ty, pos := pos, after := aft, guard := none } :: rest) a w := by
  refine wpList_plain rfl fun K hK => ?_
  unfold Oper.wp
  rw [run_load_many cs hx hT hi hc]
  exact hK _ _ h


theorem run_value {d : Option Tmp} {ty : TypeId} {pos : String} {aft : Array Edge} {gd : Option (Nat × Bool)} {s t : TypeId} {x : Operand} {a : Act} {w : World} {u v : Value}
    (hx : a.eval x = u) (h : (convert s t u).run P w = .ok v w) : (execOp a.eval { dst := d, op := .convert s t x, type := ty, pos := pos, after := aft, guard := gd }).run P w = .ok (.value v) w := by
  simp [execOp, hx, h]
theorem run_arrayAt {arr e : TypeId} {n : Nat} (h : P.underlying arr = some (.array n e)) (a : Option Addr) (len cap : Nat) (hl : n ≤ len) (w : World) :
    (Instr.arrayAt arr (.slice a len cap)).run P w = .ok (.pointer a) w := by
  unfold Instr.arrayAt
  rw [Sem.run_bind, run_underlying h, Result.andThen_ok]
  simp [show ¬ len < n by omega]

end Go.Ord

/- The types' sizes: one closed fact over a table. -/
namespace Go.Proofs.Ytnkpjmcgecdkfaa
open Go.RowKit Go.Own Go.Ord

def tyTab : List (Nat × (Bool × Nat)) := [(2, false, 1), (3, false, 1), (4, false, 1), (5, false, 1), (9, false, 1), (12, false, 1), (21, false, 1), (22, false, 1), (24, false, 1), (25, false, 1), (30, true, 3), (32, true, 2), (34, false, 1), (51, false, 1), (54, false, 1), (56, true, 2), (59, false, 1), (60, false, 1), (62, true, 4), (68, false, 1), (77, false, 1), (78, false, 1), (80, true, 6), (91, true, 5), (107, false, 1)]
theorem tyTab_ok : (tyTab.all fun x => aggT Try.prog x.1 == some x.2.1 && (Try.prog.info? x.1).map (·.size) == some x.2.2) = true := by kernel_rfl
theorem mem_of_lookup {β : Type} : ∀ {l : List (Nat × β)} {k : Nat} {v : β}, l.lookup k = some v → (k, v) ∈ l
  | [], _, _, h => by simp at h
  | (k', v') :: r, k, v, h => by
    simp only [List.lookup] at h
    split at h
    · rename_i he
      simp only [Option.some.injEq] at h
      have := eq_of_beq he
      subst this h
      exact List.mem_cons_self
    · exact List.mem_cons_of_mem _ (mem_of_lookup h)
theorem ty_both {t n : Nat} {b : Bool} (h : tyTab.lookup t = some (b, n)) : aggT Try.prog t = some b ∧ (Try.prog.info? t).map (·.size) = some n := by
  have := List.all_eq_true.1 tyTab_ok _ (mem_of_lookup h)
  simpa using this
theorem tA {t n : Nat} {b : Bool} (h : tyTab.lookup t = some (b, n)) : aggT Try.prog t = some b := (ty_both h).1
theorem tS {t n : Nat} {b : Bool} (h : tyTab.lookup t = some (b, n)) : (Try.prog.info? t).map (·.size) = some n := (ty_both h).2
end Go.Proofs.Ytnkpjmcgecdkfaa

/- '==' on arrays of integers; strings of bytes. -/
namespace Go.Eq
open Go.RowKit Go.Bv

section
variable {P : Program} (w : World)

theorem run_part_int {e : TypeId} {k : IntKind} (he : P.underlying e = some (.int k)) (cs : Array Value) (i : Nat) (v : Value) (hv : cs[i]? = some v) : (part e cs i).run P w = .ok v w := by
  have hagg : (isAgg e).run P w = .ok false w := by
    unfold isAgg
    rw [Sem.run_bind, run_underlying he]
    rfl
  unfold part
  rw [Sem.run_bind, hagg, Result.andThen_ok]
  simp [hv]

theorem run_eq_ints (d : Nat) {t e : TypeId} {n : Nat} {k : IntKind} (ht : P.underlying t = some (.array n e)) (he : P.underlying e = some (.int k)) (hs : (P.info? e).map (·.size) = some 1)
    (ms ns : List Int) (hm : ms.length = n) (hn : ns.length = n) :
    (Op.equalIn (d + 2) t (.agg (ms.map (Value.int k)).toArray) (.agg (ns.map (Value.int k)).toArray)).run P w = .ok (decide (ms = ns)) w := by
  obtain ⟨inf, hinf, hsz⟩ := Option.map_eq_some_iff.1 hs
  rw [Op.equalIn]
  have hso : (sizeOf e).run P w = .ok 1 w := by simp [sizeOf, typeInfo, hinf, hsz]
  rw [Sem.run_bind, run_underlying ht, Result.andThen_ok]
  dsimp only
  rw [Sem.run_bind, hso, Result.andThen_ok]
  simp only [Std.Legacy.Range.forIn_eq_forIn_range', Std.Legacy.Range.size, Nat.sub_zero, Nat.add_sub_cancel, Nat.div_one, Nat.mul_one]
  have key : ∀ m j, j + m = n → (forIn (m := Sem) (List.range' j m 1) ((none : Option Bool), ()) (fun i (__s : Option Bool × Unit) => do
              let __do_lift ← part e (ms.map (Value.int k)).toArray i
              let __do_lift_1 ← part e (ns.map (Value.int k)).toArray i
              let __do_lift ← Op.equalIn (d + 1) e __do_lift __do_lift_1
              if (!__do_lift) = true then pure (ForInStep.done (some false, ())) else pure (ForInStep.yield (none, ())))).run P w = .ok (if ms.drop j = ns.drop j then (none, ()) else (some false, ())) w := by
    intro m
    induction m with
    | zero =>
      intro j hj
      have h1 : ms.drop j = [] := List.drop_of_length_le (by omega)
      have h2 : ns.drop j = [] := List.drop_of_length_le (by omega)
      simp [h1, h2]
    | succ m ih =>
      intro j hj
      have hj1 : j < ms.length := by omega
      have hj2 : j < ns.length := by omega
      rw [List.range'_succ, List.forIn_cons]
      rw [Sem.run_bind, Sem.run_bind, run_part_int w he _ j (.int k ms[j]) (by simp [hj1]), Result.andThen_ok, Sem.run_bind, run_part_int w he _ j (.int k ns[j]) (by simp [hj2]), Result.andThen_ok,
        Sem.run_bind, run_equalIn_int w d e k k _ _ he, Result.andThen_ok]
      have hd : (ms.drop j = ns.drop j) ↔ (ms[j] = ns[j] ∧ ms.drop (j + 1) = ns.drop (j + 1)) := by
        rw [List.drop_eq_getElem_cons hj1, List.drop_eq_getElem_cons hj2, List.cons.injEq]
      by_cases hq : ms[j] = ns[j]
      · rw [hq]
        simp only [beq_self_eq_true, Bool.not_true, Bool.false_eq_true, if_false, Sem.run_pure, Result.andThen_ok]
        rw [ih (j + 1) (by omega)]
        simp only [hd, hq, true_and]
      · have hb : (ms[j] == ns[j]) = false := by simpa using hq
        have hn' : ¬ (ms.drop j = ns.drop j) := fun h => hq (hd.1 h).1
        rw [if_neg hn']
        simp [hb]
  have k0 := key n 0 (by omega)
  simp only [List.drop_zero] at k0
  rw [Sem.run_bind, k0, Result.andThen_ok]
  by_cases hq : ms = ns
  · simp [hq]
  · simp [hq]

theorem run_eql_ints {t e : TypeId} {n : Nat} {k : IntKind} (ht : P.underlying t = some (.array n e)) (he : P.underlying e = some (.int k)) (hs : (P.info? e).map (·.size) = some 1)
    (ms ns : List Int) (hm : ms.length = n) (hn : ns.length = n) :
    (binOp .eql t (.agg (ms.map (Value.int k)).toArray) (.agg (ns.map (Value.int k)).toArray)).run P w = .ok (.bool (decide (ms = ns))) w := by
  have := run_eq_ints (P := P) w 9998 ht he hs ms ns hm hn
  simp [binOp, Op.equal, Op.maxDepth, this]
theorem run_neq_ints {t e : TypeId} {n : Nat} {k : IntKind} (ht : P.underlying t = some (.array n e)) (he : P.underlying e = some (.int k)) (hs : (P.info? e).map (·.size) = some 1)
    (ms ns : List Int) (hm : ms.length = n) (hn : ns.length = n) :
    (binOp .neq t (.agg (ms.map (Value.int k)).toArray) (.agg (ns.map (Value.int k)).toArray)).run P w = .ok (.bool (!decide (ms = ns))) w := by
  have := run_eq_ints (P := P) w 9998 ht he hs ms ns hm hn
  simp [binOp, Op.equal, Op.maxDepth, this]

/-- octets as integers -/
theorem u8s_ints (b : List (BitVec 8)) : u8s b = (b.map fun x => (x.toNat : Int)).map (Value.int .u8) := by simp [u8s]
theorem u8i_inj {a b : List (BitVec 8)} : (a.map fun x => (x.toNat : Int)) = (b.map fun x => (x.toNat : Int)) ↔ a = b := by
  constructor
  · intro h
    refine (List.map_inj_right fun x y hxy => ?_).1 h
    exact BitVec.eq_of_toNat_eq (by omega)
  · intro h; rw [h]
def u32s (b : List (BitVec 32)) : List Value := b.map fun x => .int .u32 (x.toNat : Int)
theorem u32s_ints (b : List (BitVec 32)) : u32s b = (b.map fun x => (x.toNat : Int)).map (Value.int .u32) := by simp [u32s]
theorem u32i_inj {a b : List (BitVec 32)} : (a.map fun x => (x.toNat : Int)) = (b.map fun x => (x.toNat : Int)) ↔ a = b := by
  constructor
  · intro h
    refine (List.map_inj_right fun x y hxy => ?_).1 h
    exact BitVec.eq_of_toNat_eq (by omega)
  · intro h; rw [h]

theorem run_neq_u8 {t e : TypeId} {n : Nat} (ht : P.underlying t = some (.array n e)) (he : P.underlying e = some (.int .u8)) (hs : (P.info? e).map (·.size) = some 1)
    (a b : List (BitVec 8)) (ha : a.length = n) (hb : b.length = n) : (binOp .neq t (.agg (u8s a).toArray) (.agg (u8s b).toArray)).run P w = .ok (.bool (!decide (a = b))) w := by
  rw [u8s_ints, u8s_ints, run_neq_ints w ht he hs _ _ (by simpa using ha) (by simpa using hb)]
  simp only [u8i_inj]
theorem run_eql_u32 {t e : TypeId} {n : Nat} (ht : P.underlying t = some (.array n e)) (he : P.underlying e = some (.int .u32)) (hs : (P.info? e).map (·.size) = some 1)
    (a b : List (BitVec 32)) (ha : a.length = n) (hb : b.length = n) : (binOp .eql t (.agg (u32s a).toArray) (.agg (u32s b).toArray)).run P w = .ok (.bool (decide (a = b))) w := by
  rw [u32s_ints, u32s_ints, run_eql_ints w ht he hs _ _ (by simpa using ha) (by simpa using hb)]
  simp only [u32i_inj]
theorem run_neq_u32 {t e : TypeId} {n : Nat} (ht : P.underlying t = some (.array n e)) (he : P.underlying e = some (.int .u32)) (hs : (P.info? e).map (·.size) = some 1)
    (a b : List (BitVec 32)) (ha : a.length = n) (hb : b.length = n) : (binOp .neq t (.agg (u32s a).toArray) (.agg (u32s b).toArray)).run P w = .ok (.bool (!decide (a = b))) w := by
  rw [u32s_ints, u32s_ints, run_neq_ints w ht he hs _ _ (by simpa using ha) (by simpa using hb)]
  simp only [u32i_inj]

/-- 'string(b)' -/
theorem run_bytes_string {src dst e : TypeId} (hs : P.underlying src = some (.slice e)) (he : P.underlying e = some (.int .u8)) (hd : P.underlying dst = some .string)
    {a : Option Addr} {n cap : Nat} {bs : List (BitVec 8)} (hR : Go.Own.Rd w 1 a n cap (u8s bs)) : (convert src dst (.slice a n cap)).run P w = .ok (.string (strB bs)) w := by
  have hlen : bs.length = n := by have := hR.len; rw [u8s_length] at this; omega
  cases a with
  | none =>
    obtain ⟨rfl, rfl⟩ := hR.nil rfl
    have : bs = [] := List.eq_nil_of_length_eq_zero hlen
    subst this
    rw [run_convert_bytes_nil w src e hs he 0 0 dst hd]
    rfl
  | some ad =>
    have hl : (loadCells ad n).run P w = .ok (u8s bs).toArray w := by
      have := run_loadCells_list (P := P) w ad (u8s bs) (hR.cells rfl)
      rwa [u8s_length, hlen] at this
    have hl' : (loadCells ad n).run P w = .ok ((bs.map fun x => (x.toNat : Int)).map (Value.int .u8)).toArray w := by rw [hl, u8s_ints]
    rw [run_convert_bytes_string w src dst e _ n cap hs he hd, run_bytesToString w _ n cap _ hl', foldl_push_bytes]
    have hm : (bs.map fun x => (x.toNat : Int)).map (fun n => UInt8.ofNat n.toNat) = bs.map fun x => UInt8.ofBitVec x := by
      rw [List.map_map]
      refine List.map_congr_left fun x _ => ?_
      apply UInt8.eq_of_toBitVec_eq
      simp
    rw [hm]
    unfold strB
    simp [ByteArray.empty, ByteArray.emptyWithCapacity]
    rfl

theorem strB_eq (a b : List (BitVec 8)) : (strB a).toList = (strB b).toList ↔ a = b := by
  constructor
  · intro h
    refine strB_inj ?_
    rw [ByteArray.toList_eq, ByteArray.toList_eq] at h
    exact congrArg (fun l => (⟨l.toArray⟩ : ByteArray)) h
  · intro h; rw [h]

theorem strB_beq (a b : List (BitVec 8)) : ((strB a).toList == (strB b).toList) = decide (a = b) := by
  rw [Bool.eq_iff_iff]
  simp [strB_eq]
theorem run_eql_str (t : TypeId) (a b : List (BitVec 8)) : (binOp .eql t (.string (strB a)) (.string (strB b))).run P w = .ok (.bool (decide (a = b))) w := by
  simp [binOp, Op.stringOp, strB_beq]
theorem run_neq_str (t : TypeId) (a b : List (BitVec 8)) : (binOp .neq t (.string (strB a)) (.string (strB b))).run P w = .ok (.bool (!decide (a = b))) w := by
  simp [binOp, Op.stringOp, strB_beq]
end
end Go.Eq

/- Generic arms of the walk: loads out of what the call has made, out of what came in. -/
namespace Go.Own
open Go.RowKit Go.Ord

section
variable {P : Program} {ops : Array Oper} {Q : Exit → Act → World → Prop} {a : Act} {w w0 : World} {L : List Res} {rest : List Oper}
variable {d : Option Tmp} {ty : TypeId} {pos : String} {aft : Array Edge}

/-- one cell, wherever it stands -/
theorem ld_one {T : TypeId} {x : Operand} {ad : Addr} {v : Value} (hx : a.eval x = .pointer (some ad)) (hc : w.cell? ad = some v) (hT : aggT P T = some false)
    (h : wpList P ops Q rest (a.put d v) w) :
    wpList P ops Q ({ dst := d, op := .load T x, type := ty, pos := pos, after := aft, guard := none } :: rest) a w := by
  refine wpList_plain rfl fun K hK => ?_
  unfold Oper.wp
  rw [run_load_one hx hT hc]
  exact hK _ _ h
/-- one cell of a block of the list -/
theorem ld_blk (hO : Own w0 w L) (i : Nat) {T : TypeId} {x : Operand} {b off : Nat} {C : Array Value} {t : TypeId} {fr : Nat × Nat} {v : Value}
    (hi : L[i]? = some (.blk b (.cells C t fr))) (hx : a.eval x = .pointer (some ⟨b, off, none⟩)) (hv : C.toList[off]? = some v) (hT : aggT P T = some false)
    (h : wpList P ops Q rest (a.put d v) w) :
    wpList P ops Q ({ dst := d, op := .load T x, type := ty, pos := pos, after := aft, guard := none } :: rest) a w :=
  ld_one hx (by rw [cell_of_row w b off C t fr (hO.blk i hi), ← Array.getElem?_toList]; exact hv) hT h
/-- a whole block of the list -/
theorem ld_all (hO : Own w0 w L) (i : Nat) {T : TypeId} {x : Operand} {b : Nat} {C : Array Value} {t : TypeId} {fr : Nat × Nat}
    (hi : L[i]? = some (.blk b (.cells C t fr))) (hx : a.eval x = .pointer (some ⟨b, 0, none⟩)) (hT : aggT P T = some true) (hs : (P.info? T).map (·.size) = some C.size)
    (h : wpList P ops Q rest (a.put d (.agg C)) w) :
    wpList P ops Q ({ dst := d, op := .load T x, type := ty, pos := pos, after := aft, guard := none } :: rest) a w := by
  refine own_loadAll T x b C t fr (hO.blk i hi) hx ?_ hs h
  obtain ⟨dd, hd, hdd⟩ := Option.map_eq_some_iff.1 hT
  rw [hd]
  simp only [Option.map_some, Option.some.injEq]
  exact hdd
/-- a cell of a row of the list -/
theorem ld_sl (hO : Own w0 w L) (i : Nat) {T : TypeId} {x : Operand} {g j n cap sz : Nat} {e : TypeId} {xs : List Value} {v : Value}
    (hi : L[i]? = some (.sl e sz (.slice (some ⟨g, 0, none⟩) n cap) n xs)) (hx : a.eval x = .pointer (some ⟨g, j, none⟩)) (hv : xs[j]? = some v) (hT : aggT P T = some false)
    (h : wpList P ops Q rest (a.put d v) w) :
    wpList P ops Q ({ dst := d, op := .load T x, type := ty, pos := pos, after := aft, guard := none } :: rest) a w := by
  have hr := hO.row i hi
  have hj : j < n * sz := by rw [← hr.1]; exact (List.getElem?_eq_some_iff.1 hv).1
  exact ld_one hx (by rw [hr.cellAt j hj]; exact hv) hT h
/-- a cell of a slice that can be read -/
theorem ld_rd {T : TypeId} {x : Operand} {b off j n cap sz : Nat} {xs : List Value} {v : Value} (hR : Rd w sz (some ⟨b, off, none⟩) n cap xs)
    (hx : a.eval x = .pointer (some ⟨b, off + j, none⟩)) (hv : xs[j]? = some v) (hT : aggT P T = some false)
    (h : wpList P ops Q rest (a.put d v) w) :
    wpList P ops Q ({ dst := d, op := .load T x, type := ty, pos := pos, after := aft, guard := none } :: rest) a w := by
  have hj : j < xs.length := (List.getElem?_eq_some_iff.1 hv).1
  rw [hR.len] at hj
  obtain ⟨b', off', he, _, hc⟩ := hR.at' (by omega)
  simp only [Option.some.injEq, Addr.mk.injEq, and_true] at he
  obtain ⟨rfl, rfl⟩ := he
  exact ld_one hx ((hc j hj).trans hv) hT h
/-- some cells of a slice that can be read, as one value -/
theorem ld_rds {T : TypeId} {x : Operand} {b off j n cap sz : Nat} {xs : List Value} (cs : List Value) (hR : Rd w sz (some ⟨b, off, none⟩) n cap xs)
    (hx : a.eval x = .pointer (some ⟨b, off + j, none⟩)) (hv : ∀ i v, cs[i]? = some v → xs[j + i]? = some v) (hT : aggT P T = some true) (hs : (P.info? T).map (·.size) = some cs.length) (h0 : 0 < cs.length)
    (h : wpList P ops Q rest (a.put d (.agg cs.toArray)) w) :
    wpList P ops Q ({ dst := d, op := .load T x, type := ty, pos := pos, after := aft, guard := none } :: rest) a w := by
  have hj : j < xs.length := by
    have := hv 0 cs[0] (List.getElem?_eq_getElem h0)
    exact (List.getElem?_eq_some_iff.1 this).1
  rw [hR.len] at hj
  obtain ⟨b', off', he, _, hc⟩ := hR.at' (by omega)
  simp only [Option.some.injEq, Addr.mk.injEq, and_true] at he
  obtain ⟨rfl, rfl⟩ := he
  refine own_loadCells cs hx hT hs (fun i v hi => ?_) h
  have h1 := hv i v hi
  have hl : j + i < n * sz := by rw [← hR.len]; exact (List.getElem?_eq_some_iff.1 h1).1
  rw [Addr.add_lit, Nat.add_assoc, hc _ hl]
  exact h1
/-- some cells of a row of the list, as one value -/
theorem ld_sls (hO : Own w0 w L) (i : Nat) {T : TypeId} {x : Operand} {g j n cap sz : Nat} {e : TypeId} {xs : List Value} (cs : List Value)
    (hi : L[i]? = some (.sl e sz (.slice (some ⟨g, 0, none⟩) n cap) n xs)) (hx : a.eval x = .pointer (some ⟨g, j, none⟩)) (hv : ∀ i v, cs[i]? = some v → xs[j + i]? = some v)
    (hT : aggT P T = some true) (hs : (P.info? T).map (·.size) = some cs.length) (h0 : 0 < cs.length)
    (h : wpList P ops Q rest (a.put d (.agg cs.toArray)) w) :
    wpList P ops Q ({ dst := d, op := .load T x, type := ty, pos := pos, after := aft, guard := none } :: rest) a w :=
  ld_rds (off := 0) cs (hO.rdAt i hi) (by rw [hx, Nat.zero_add]) hv hT hs h0 h

/-- a store of one cell into a block of the list: its block known by place -/
theorem st_blk (hO : Own w0 w L) (i : Nat) {T : TypeId} {x y : Operand} {b off : Nat} {C : Array Value} {t : TypeId} {v : Value}
    (hi : L[i]? = some (.blk b (.cells C t (0, 0)))) (hx : a.eval x = .pointer (some ⟨b, off, none⟩)) (hy : a.eval y = v) (hoff : off < C.size)
    (h1 : v.oneCell' = true) (hu : (P.info? T).map (·.size) = some 1)
    (h : ∀ w', Own w0 w' (L.set i (.blk b (.cells (C.setIfInBounds off v) t (0, 0)))) → wpList P ops Q rest (a.put d undef) w') :
    wpList P ops Q ({ dst := d, op := .store T x y, type := ty, pos := pos, after := aft, guard := none } :: rest) a w :=
  own_store hO i T x y b off C t v hi hx hy hoff hu h1 h
theorem st_all (hO : Own w0 w L) (i : Nat) {T : TypeId} {x y : Operand} {b : Nat} {C C' : Array Value} {t : TypeId} {v : Value}
    (hi : L[i]? = some (.blk b (.cells C t (0, 0)))) (hx : a.eval x = .pointer (some ⟨b, 0, none⟩)) (hy : a.eval y = v) (hv : v.cells = C')
    (hsz : C'.size = C.size) (h1 : C'.toList.all (·.oneCell') = true) (hu : (P.info? T).map (·.size) = some C'.size)
    (h : ∀ w', Own w0 w' (L.set i (.blk b (.cells C' t (0, 0)))) → wpList P ops Q rest (a.put d undef) w') :
    wpList P ops Q ({ dst := d, op := .store T x y, type := ty, pos := pos, after := aft, guard := none } :: rest) a w :=
  own_storeAll hO i T x y b C C' t v hi hx hy hv hu hsz h1 h
end

section
variable {P : Program} {ops : Array Oper} {S : World → Prop} {st : Op → Bool} {Q : Exit → Act → World → Prop} {a : Act} {w : World} {rest : List Oper}
variable {d : Option Tmp} {ty : TypeId} {pos : String} {aft : Array Edge}
/-- in a region that draws: a load of a block that stands in every world of S -/
theorem wpI_ldS {T : TypeId} {x : Operand} {b : Nat} {C : Array Value} {t : TypeId} {fr : Nat × Nat} (hS : ∀ w', S w' → w'.heap[b]? = some (.cells C t fr))
    (hx : a.eval x = .pointer (some ⟨b, 0, none⟩)) (hst : st (.load T x) = true) (hT : aggT P T = some true) (hs : (P.info? T).map (·.size) = some C.size)
    (h : wpI P ops S st Q rest (a.put d (.agg C)) w) : wpI P ops S st Q ({ dst := d, op := .load T x, type := ty, pos := pos, after := aft, guard := none } :: rest) a w := by
  refine wpI_steady (.agg C) rfl hst rfl (fun w' hw => ?_) h
  have := run_load_many (P := P) (d := d) (ty := ty) (pos := pos) (aft := aft) (gd := none) (T := T) (x := x) (a := a) (w := w') (ad := ⟨b, 0, none⟩) C.toList hx hT (by simpa using hs)
    (fun j v hj => by rw [Addr.add_lit, cell_of_row w' b _ C t fr (hS w' hw), Nat.zero_add, ← Array.getElem?_toList]; exact hj)
  simpa using this
/-- .. of one cell of it -/
theorem wpI_ldcS {T : TypeId} {x : Operand} {b off : Nat} {C : Array Value} {t : TypeId} {fr : Nat × Nat} {v : Value} (hS : ∀ w', S w' → w'.heap[b]? = some (.cells C t fr))
    (hx : a.eval x = .pointer (some ⟨b, off, none⟩)) (hst : st (.load T x) = true) (hT : aggT P T = some false) (hv : C.toList[off]? = some v)
    (h : wpI P ops S st Q rest (a.put d v) w) : wpI P ops S st Q ({ dst := d, op := .load T x, type := ty, pos := pos, after := aft, guard := none } :: rest) a w := by
  refine wpI_steady v rfl hst rfl (fun w' hw => ?_) h
  exact run_load_one (P := P) (d := d) (ty := ty) (pos := pos) (aft := aft) (gd := none) hx hT (by rw [cell_of_row w' b off C t fr (hS w' hw), ← Array.getElem?_toList]; exact hv)
/-- .. a comparison of two arrays -/
theorem wpI_eqS {t yt : TypeId} {x y : Operand} {A B : Array Value} {r : Bool} (hx : a.eval x = .agg A) (hy : a.eval y = .agg B) (hb : ∀ w, (binOp .eql t (.agg A) (.agg B)).run P w = .ok (.bool r) w)
    (hst : st (.binOp .eql t x y yt) = true) (hg : P.eqGuardType P.depth t = false) (hf : flat P t = false)
    (h : wpI P ops S st Q rest (a.put d (.bool r)) w) : wpI P ops S st Q ({ dst := d, op := .binOp .eql t x y yt, type := ty, pos := pos, after := aft, guard := none } :: rest) a w := by
  refine wpI_steady (.bool r) rfl hst (ok_agg hf) (fun w' _ => ?_) h
  have h1 := run_eqGuard_agg (P := P) (w := w') .eql t x y A B hg
  simp [execOp, Sem.run_bind, hx, hy, h1, hb]
/-- the operation's continuation is used up -/
theorem gOnlyK {K R : Act → World → Prop} (hK : ∀ a w, R a w → K a w) (hS : S w) (h : R a w) : OnlyN (fun _ a w => S w ∧ K a w) .normal a w := ⟨hS, hK _ _ h⟩
theorem gOnlyK0 {K R : Act → World → Prop} (hK : ∀ a w, R a w → K a w) (h : R a w) : OnlyN (fun _ a w => noS w ∧ K a w) .normal a w := ⟨trivial, hK _ _ h⟩
/-- gates -/
theorem gIL {T : TypeId} {x : Operand} (h : wpI P ops S st Q ({ dst := d, op := .load T x, type := ty, pos := pos, after := aft, guard := none } :: rest) a w) : wpI P ops S st Q ({ dst := d, op := .load T x, type := ty, pos := pos, after := aft, guard := none } :: rest) a w := h
theorem gIS1 {T : TypeId} {x y : Operand} (h : wpI P ops S st Q [{ dst := d, op := .store T x y, type := ty, pos := pos, after := aft, guard := none }] a w) : wpI P ops S st Q [{ dst := d, op := .store T x y, type := ty, pos := pos, after := aft, guard := none }] a w := h
theorem gIE {t yt : TypeId} {x y : Operand} (h : wpI P ops S st Q ({ dst := d, op := .binOp .eql t x y yt, type := ty, pos := pos, after := aft, guard := none } :: rest) a w) : wpI P ops S st Q ({ dst := d, op := .binOp .eql t x y yt, type := ty, pos := pos, after := aft, guard := none } :: rest) a w := h
end

/-- a slice that is not nil has a place -/
theorem Rd.place {w : World} {sz n cap : Nat} {a : Option Addr} {xs : List Value} (h : Rd w sz a n cap xs) (hn : n * sz ≠ 0) : ∃ b off, a = some ⟨b, off, none⟩ := by
  obtain ⟨b, off, he, _⟩ := h.at' hn
  exact ⟨b, off, he⟩
theorem Own.slPlace {w0 w : World} {L : List Res} (hO : Own w0 w L) (i : Nat) {e : TypeId} {sz n cap : Nat} {ao : Option Addr} {xs : List Value} (hi : L[i]? = some (.sl e sz (.slice ao n cap) n xs)) (hn : 0 < n) : ∃ g, ao = some ⟨g, 0, none⟩ := by
  obtain ⟨g, cap, he, _⟩ := hO.slForm i hi hn
  simp only [Value.slice.injEq] at he
  exact ⟨g, he.1⟩
/-- for looking: the walk stops there -/
def StopAt (p : Prop) : Prop := p
theorem stopAt {p : Prop} (h : StopAt p) : p := h
end Go.Own
namespace Go.Own
theorem ltb {a b : Nat} (h : Nat.blt a b = true) : a < b := Nat.lt_of_succ_le (by simpa [Nat.blt] using h)
/-- a piece of a slice of single cells -/
theorem Rd.cut {w : World} {b off n cap : Nat} {xs : List Value} (h : Rd w 1 (some ⟨b, off, none⟩) n cap xs) (i m : Nat) (hi : i + m ≤ n) : Rd w 1 (some ⟨b, off + i, none⟩) m (cap - i) ((xs.drop i).take m) := by
  have h1 := h.len
  have h2 := h.le
  have h3 := h.max
  refine ⟨by simp; omega, by omega, by omega, fun h => by simp at h, fun hm => ?_⟩
  obtain ⟨b', off', ha, hb, hc⟩ := h.at' (by omega)
  simp only [Option.some.injEq, Addr.mk.injEq, and_true] at ha
  obtain ⟨rfl, rfl⟩ := ha
  refine ⟨b, off + i, rfl, hb, fun j hj => ?_⟩
  rw [Nat.add_assoc, hc (i + j) (by omega), List.getElem?_take_of_lt (by omega), List.getElem?_drop]
/-- a list made longer by what a call does not see -/
theorem Own.wide {w0 w : World} {L L' : List Res} (h : Own w0 w L) (hs : L' = L) : Own w0 w L' := by rw [hs]; exact h
end Go.Own
namespace Go.Own
open Go.RowKit Go.Ord
section
variable {P : Program} {ops : Array Oper} {Q : Exit → Act → World → Prop} {a : Act} {w w0 : World} {L : List Res} {rest : List Oper}
variable {d : Option Tmp} {ty : TypeId} {pos : String} {aft : Array Edge}
/-- '==' on two arrays -/
theorem eq_arr {t yt : TypeId} {x y : Operand} {A B : Array Value} {r : Bool} (hx : a.eval x = .agg A) (hy : a.eval y = .agg B) (hb : ∀ w, (binOp .eql t (.agg A) (.agg B)).run P w = .ok (.bool r) w)
    (hg : P.eqGuardType P.depth t = false) (h : wpList P ops Q rest (a.put d (.bool r)) w) : wpList P ops Q ({ dst := d, op := .binOp .eql t x y yt, type := ty, pos := pos, after := aft, guard := none } :: rest) a w := by
  refine wpList_plain rfl fun K hK => ?_
  have h1 := run_eqGuard_agg (P := P) (w := w) .eql t x y A B hg
  unfold Oper.wp
  have : (execOp a.eval { dst := d, op := .binOp .eql t x y yt, type := ty, pos := pos, after := aft, guard := none }).run P w = .ok (.value (.bool r)) w := by simp [execOp, Sem.run_bind, hx, hy, h1, hb]
  rw [this]
  exact hK _ _ h
theorem ne_arr {t yt : TypeId} {x y : Operand} {A B : Array Value} {r : Bool} (hx : a.eval x = .agg A) (hy : a.eval y = .agg B) (hb : ∀ w, (binOp .neq t (.agg A) (.agg B)).run P w = .ok (.bool r) w)
    (hg : P.eqGuardType P.depth t = false) (h : wpList P ops Q rest (a.put d (.bool r)) w) : wpList P ops Q ({ dst := d, op := .binOp .neq t x y yt, type := ty, pos := pos, after := aft, guard := none } :: rest) a w := by
  refine wpList_plain rfl fun K hK => ?_
  have h1 := run_eqGuard_agg (P := P) (w := w) .neq t x y A B hg
  unfold Oper.wp
  have : (execOp a.eval { dst := d, op := .binOp .neq t x y yt, type := ty, pos := pos, after := aft, guard := none }).run P w = .ok (.value (.bool r)) w := by simp [execOp, Sem.run_bind, hx, hy, h1, hb]
  rw [this]
  exact hK _ _ h
theorem gEql {t yt : TypeId} {x y : Operand} (h : wpList P ops Q ({ dst := d, op := .binOp .eql t x y yt, type := ty, pos := pos, after := aft, guard := none } :: rest) a w) :
    wpList P ops Q ({ dst := d, op := .binOp .eql t x y yt, type := ty, pos := pos, after := aft, guard := none } :: rest) a w := h
theorem gNeq {t yt : TypeId} {x y : Operand} (h : wpList P ops Q ({ dst := d, op := .binOp .neq t x y yt, type := ty, pos := pos, after := aft, guard := none } :: rest) a w) :
    wpList P ops Q ({ dst := d, op := .binOp .neq t x y yt, type := ty, pos := pos, after := aft, guard := none } :: rest) a w := h
/-- any guarded operation -/
theorem gG {op : Op} {g : Nat × Bool} (h : wpList P ops Q ({ dst := d, op := op, type := ty, pos := pos, after := aft, guard := some g } :: rest) a w) :
    wpList P ops Q ({ dst := d, op := op, type := ty, pos := pos, after := aft, guard := some g } :: rest) a w := h
/-- a block, read as a slice from a place on -/
theorem rd_blk_off {g : Nat} {C : Array Value} {t : TypeId} {fr : Nat × Nat} {n cap : Nat} {xs : List Value} (hg : w.heap[g]? = some (.cells C t fr)) (off : Nat) (hC : (C.toList.drop off).take n = xs) (hl : xs.length = n) (hn : n ≤ cap) (hc : cap ≤ maxLen) : Rd w 1 (some ⟨g, off, none⟩) n cap xs := by
  refine rd_blk hg 1 off n cap xs (by omega) hn hc fun j hj => ?_
  rw [← hC, List.getElem?_take_of_lt (by omega), List.getElem?_drop, ← Array.getElem?_toList]
theorem rd_zero (a : Option Addr) (cap : Nat) (hc : cap ≤ maxLen) (ha : a = none → cap = 0) : Rd w 1 a 0 cap [] :=
  ⟨rfl, Nat.zero_le _, hc, fun h => ⟨rfl, ha h⟩, fun h => by simp at h⟩
/-- what a row of the call's own is as a block -/
theorem blk_of_row {base : Nat} {e : TypeId} {n cap g : Nat} {xs : List Value} (h : w.ownsRow base e 1 (.slice (some ⟨g, 0, none⟩) n cap) n xs) : ∃ C, base ≤ g ∧ w.heap[g]? = some (.cells C e (0, 0)) ∧ C.toList.take n = xs ∧ n ≤ cap ∧ cap ≤ maxLen := by
  obtain ⟨hl, h2⟩ := h
  rcases h2 with ⟨h3, _⟩ | ⟨g', cap', cur, h3, hb, hg, hnc, hcm, hsz, ht⟩
  · simp at h3
  · simp only [Value.slice.injEq, Option.some.injEq, Addr.mk.injEq, and_true, true_and] at h3
    obtain ⟨rfl, rfl⟩ := h3
    exact ⟨cur, hb, hg, by simpa using ht, hnc, hcm⟩
end
end Go.Own
