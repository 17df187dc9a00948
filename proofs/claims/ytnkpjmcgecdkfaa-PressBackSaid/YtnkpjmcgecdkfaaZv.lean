/- Unpacking, plain. No program in sight. -/
import Derived.Test.YtnkpjmcgecdkfaaZm
import Derived.Test.YtnkpjmcgecdkfaaKa
namespace Go.Pz
open Go.Pb Go.Mt Go.Kc

structure Us where
  r : Rr
  bad : Bool
def ub (b : List (BitVec 8)) (s : Us) (a : Nat) : Bool × Us :=
  if s.bad then (false, s) else if nxtE 528 b s.r (a : Int) = 0 then (s.r.set a, ⟨s.r.next b a, false⟩) else (false, ⟨s.r, true⟩)
def un (b : List (BitVec 8)) (tree : Nat) : Nat → Nat → Us → Nat × Us
  | 0, node, s => (node, s)
  | k + 1, node, s => un b tree k (node * 2 + (ub b s (tree + node)).1.toNat) (ub b s (tree + node)).2
def utok (b : List (BitVec 8)) (s : Us) (out : List (BitVec 8)) (most : Nat) : Us × List (BitVec 8) :=
  let x := ub b s 0
  if x.1 = false then
    let y := un b 0 8 1 x.2
    (y.2, out ++ [BitVec.ofNat 8 (y.1 - 256)])
  else
    let y := un b 256 4 1 x.2
    let z := un b 272 8 1 y.2
    if out.length < z.1 - 256 + 1 ∨ most - out.length < y.1 - 16 + 3 then (⟨z.2.r, true⟩, out) else (z.2, again (z.1 - 256 + 1) (y.1 - 16 + 3) out)
def uloop (b : List (BitVec 8)) (n : Nat) : Nat → Us → List (BitVec 8) → Us × List (BitVec 8)
  | 0, s, out => (s, out)
  | f + 1, s, out => if s.bad = false ∧ out.length < n then uloop b n f (utok b s out n).1 (utok b s out n).2 else (s, out)
/-- why octets are not unpacked -/
def unE (b : List (BitVec 8)) (most : Int) : Int :=
  if most < 0 then 1 else if longE b ≠ 0 then longE b else if most < (longV b : Int) then 3 else if opE 528 (b.drop 4) ≠ 0 then 2 else
    if (uloop (b.drop 4) (longV b) (longV b) ⟨open_ 528 (b.drop 4), false⟩ []).1.bad = true ∨ (uloop (b.drop 4) (longV b) (longV b) ⟨open_ 528 (b.drop 4), false⟩ []).1.r.used ≠ b.length - 4 then 2 else 0
def unT (b : List (BitVec 8)) (most : Int) : List (BitVec 8) := if unE b most = 0 then (uloop (b.drop 4) (longV b) (longV b) ⟨open_ 528 (b.drop 4), false⟩ []).2 else []

theorem ub_rok {b : List (BitVec 8)} {s : Us} (h : Rok 528 b s.r) (a : Nat) : Rok 528 b (ub b s a).2.r := by
  unfold ub
  split
  · exact h
  · split
    · rename_i h0
      obtain ⟨k, e, hk, hm⟩ := nxtE_ok h0
      obtain rfl : a = k := by omega
      exact rok_next h hk hm
    · exact h
theorem un_rok {b : List (BitVec 8)} {tree : Nat} : ∀ (k node : Nat) {s : Us}, Rok 528 b s.r → Rok 528 b (un b tree k node s).2.r
  | 0, _, _, h => h
  | k + 1, _, _, h => un_rok k _ (ub_rok h _)
theorem un_lt {b : List (BitVec 8)} {tree : Nat} : ∀ (k node : Nat) (s : Us), node * 2 ^ k ≤ (un b tree k node s).1 ∧ (un b tree k node s).1 < (node + 1) * 2 ^ k
  | 0, node, s => by simp [un]
  | k + 1, node, s => by
    have ih := un_lt (b := b) (tree := tree) k (node * 2 + (ub b s (tree + node)).1.toNat) (ub b s (tree + node)).2
    have hb : (ub b s (tree + node)).1.toNat ≤ 1 := by cases (ub b s (tree + node)).1 <;> simp
    show _ ≤ (un b tree k _ _).1 ∧ (un b tree k _ _).1 < _
    generalize (un b tree k (node * 2 + (ub b s (tree + node)).1.toNat) (ub b s (tree + node)).2).1 = v at *
    generalize (ub b s (tree + node)).1.toNat = t at *
    rw [Nat.pow_succ]
    generalize 2 ^ k = p at *
    obtain ⟨i1, i2⟩ := ih
    constructor
    · refine Nat.le_trans ?_ i1
      rw [← Nat.mul_assoc, Nat.mul_right_comm]
      exact Nat.mul_le_mul_right _ (by omega)
    · refine Nat.lt_of_lt_of_le i2 ?_
      rw [show (node + 1) * (p * 2) = ((node + 1) * 2) * p by rw [← Nat.mul_assoc, Nat.mul_right_comm]]
      exact Nat.mul_le_mul_right _ (by omega)
theorem utok_rok {b : List (BitVec 8)} {s : Us} (h : Rok 528 b s.r) (out : List (BitVec 8)) (most : Nat) : Rok 528 b (utok b s out most).1.r := by
  unfold utok
  have h1 := ub_rok h 0
  dsimp only
  split
  · exact un_rok _ _ h1
  · split
    · exact un_rok _ _ (un_rok _ _ h1)
    · exact un_rok _ _ (un_rok _ _ h1)
/-- a token that is not refused adds something, and no more than is let -/
theorem utok_len {b : List (BitVec 8)} {s : Us} {out : List (BitVec 8)} {most : Nat} (hl : out.length < most) :
    (utok b s out most).2.length ≤ most ∧ ((utok b s out most).1.bad = false → out.length < (utok b s out most).2.length) ∧ out.length ≤ (utok b s out most).2.length := by
  unfold utok
  dsimp only
  split
  · simp; omega
  · split
    · dsimp only; exact ⟨by omega, fun h => by simp at h, Nat.le_refl _⟩
    · rename_i h
      rw [again_length]
      omega
theorem uloop_end {b : List (BitVec 8)} {n : Nat} : ∀ (f : Nat) (s : Us) (out : List (BitVec 8)), out.length ≤ n → n ≤ out.length + f →
    ((uloop b n f s out).1.bad = true ∨ (uloop b n f s out).2.length = n) ∧ (uloop b n f s out).2.length ≤ n
  | 0, s, out, h1, h2 => ⟨.inr (by show out.length = n; omega), h1⟩
  | f + 1, s, out, h1, h2 => by
    unfold uloop
    split
    · rename_i h
      obtain ⟨l1, l2, l3⟩ := utok_len (b := b) (s := s) h.2
      by_cases hb : (utok b s out n).1.bad = false
      · exact uloop_end f _ _ l1 (by have := l2 hb; omega)
      · have hb' : (utok b s out n).1.bad = true := by simpa using hb
        have e : uloop b n f (utok b s out n).1 (utok b s out n).2 = ((utok b s out n).1, (utok b s out n).2) := by
          cases f with
          | zero => rfl
          | succ f => unfold uloop; rw [if_neg (by rw [hb']; simp)]
        rw [e]
        exact ⟨.inl hb', l1⟩
    · rename_i h
      refine ⟨?_, h1⟩
      by_cases hb : s.bad = true
      · exact .inl hb
      · refine .inr ?_
        have : s.bad = false := by simpa using hb
        have h2 : ¬ out.length < n := fun h' => h ⟨this, h'⟩
        show out.length = n
        omega
theorem uloop_stop {b : List (BitVec 8)} {n : Nat} {s : Us} {out : List (BitVec 8)} (h : s.bad = true ∨ n ≤ out.length) : ∀ f, uloop b n f s out = (s, out)
  | 0 => rfl
  | f + 1 => by
    unfold uloop
    rw [if_neg]
    rintro ⟨h1, h2⟩
    rcases h with h | h
    · rw [h1] at h; cases h
    · omega
theorem unT_facts (b : List (BitVec 8)) (most : Int) : (unE b most = 0 → longE b = 0 ∧ (unT b most).length = longV b ∧ (longV b : Int) ≤ most ∧ 0 ≤ most) ∧
    (unE b most ≠ 0 → unT b most = [] ∧ (unE b most = 2 ∨ unE b most = 3 ∧ longE b = 0 ∧ most < (longV b : Int) ∨ unE b most = 1 ∧ most < 0)) := by
  have hlE : longE b = 0 ∨ longE b = 2 := by unfold longE; split; exact .inr rfl; split; exact .inr rfl; exact .inl rfl
  constructor
  · intro h
    have hT : unT b most = (uloop (b.drop 4) (longV b) (longV b) ⟨open_ 528 (b.drop 4), false⟩ []).2 := by unfold unT; rw [if_pos h]
    unfold unE at h
    split at h
    · cases h
    · rename_i h1
      split at h
      · rename_i h2; exact absurd h h2
      · rename_i h2
        split at h
        · cases h
        · rename_i h3
          split at h
          · cases h
          · split at h
            · cases h
            · rename_i h5
              obtain ⟨e1, _⟩ := uloop_end (b := b.drop 4) (longV b) ⟨open_ 528 (b.drop 4), false⟩ [] (n := longV b) (by simp) (by simp)
              refine ⟨by simpa using h2, ?_, by omega, by omega⟩
              rw [hT]
              exact e1.resolve_left fun hb => h5 (.inl hb)
  · intro h
    refine ⟨by unfold unT; rw [if_neg h], ?_⟩
    unfold unE at h ⊢
    split
    · exact .inr (.inr ⟨rfl, by assumption⟩)
    · split
      · rename_i h2; exact .inl (hlE.resolve_left h2)
      · rename_i h2
        split
        · exact .inr (.inl ⟨rfl, by simpa using h2, by assumption⟩)
        · split
          · exact .inl rfl
          · split
            · exact .inl rfl
            · rename_i h1 h3 h4 h5
              rw [if_neg h1, if_neg h2, if_neg h3, if_neg h4, if_neg h5] at h
              exact absurd rfl h
end Go.Pz
