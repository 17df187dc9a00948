/- What was packed is unpacked. No program in sight. -/
import Derived.Test.YtnkpjmcgecdkfaaZv
namespace Go.Kc
/-- without its last octet a text is not read to its end -/
theorem short_run2 {n : Nat} {l : List (Nat × Bool)} (hw : within n l) (hk : 0 < (enc n l).k) {b : List (BitVec 8)} (hb : b = (encT n l).take (4 + (enc n l).k)) :
    mayOpen b ∧ ∃ j, ∃ hj : j < l.length, (∀ i (hi : i < j), (rdN b (open_ n b) ((l.take i).map Prod.fst)).set (l[i]'(by omega)).1 = (l[i]'(by omega)).2 ∧ (rdN b (open_ n b) ((l.take i).map Prod.fst)).may b (l[i]'(by omega)).1) ∧ ¬ (rdN b (open_ n b) ((l.take j).map Prod.fst)).may b l[j].1 := by
  have hlen : b.length = 4 + (enc n l).k := by rw [hb, List.length_take, encT_length]; omega
  have hp5 : b.take 5 = (encT n l).take 5 := by rw [hb, List.take_take, Nat.min_eq_left (by omega)]
  obtain ⟨o1, o2⟩ := begins_open hw (by omega) hp5
  refine ⟨o1, ?_⟩
  obtain ⟨l1, x, l2, hl, e1, e2⟩ := last_norm (l := l) (s := start n) hk
  have hw1 : within (start n).p.length l1 := fun y hy => by rw [start_len]; exact hw y (by rw [hl]; simp [hy])
  obtain ⟨g1, _, g3, _⟩ := run_facts (start_good n) hw1
  have hx : x.1 < ((start n).run l1).p.length := by rw [g3, start_len]; exact hw x (by rw [hl]; simp)
  have hstep := later_step g1 x.2 hx
  have hmid := later_mid g1 x.2 hx
  have hfin : Later (((start n).run l1).step x.1 x.2) (enc n l) := by
    have e : enc n l = (((start n).run l1).step x.1 x.2).run l2 := by unfold enc; rw [hl, run_append]; rfl
    rw [e]
    refine (run_facts (step_good g1 x.2 hx) fun y hy => ?_).2.1
    rw [step_len, g3, start_len]
    exact hw y (by rw [hl]; simp [hy])
  have hmf : Later (((start n).run l1).mid x.1 x.2) (enc n l) := (later_norm _).trans hfin
  have hmk : (((start n).run l1).mid x.1 x.2).k = ((start n).run l1).k := rfl
  have hK : ((start n).run l1).k + 1 = (enc n l).k := e1
  -- the text's number
  have hval : val b = (enc n l).V / 256 := by
    rw [hb]
    unfold encT
    rw [show 5 + (enc n l).k = (4 + (enc n l).k) + 1 by omega, be_take, Nat.pow_one, val_be]
    have := (enc_facts hw).2.1
    omega
  have hbt : b.take (5 + (((start n).run l1).mid x.1 x.2).k) = b := List.take_of_length_le (by rw [hmk]; omega)
  have hv : (((start n).run l1).mid x.1 x.2).V ≤ val (b.take (5 + (((start n).run l1).mid x.1 x.2).k)) ∧ val (b.take (5 + (((start n).run l1).mid x.1 x.2).k)) < (((start n).run l1).mid x.1 x.2).V + (((start n).run l1).mid x.1 x.2).span := by
    rw [hbt, hval]
    have h1 := hmf.lo
    have h2 := hmf.hi
    rw [hmk, show (enc n l).k - ((start n).run l1).k = 1 by omega, Nat.pow_one] at h1 h2
    have h3 := (enc_facts hw).1.lo
    omega
  have hb' : 5 + (((start n).run l1).mid x.1 x.2).k ≤ b.length := by rw [hmk]; omega
  obtain ⟨r1, r2⟩ := met_run (start_good n) hw1 o2 hmid hb' hv
  obtain ⟨_, m2, _, m4, _⟩ := met_mid r2 g1 hx (Later.refl _) hb' hv
  have hj : l1.length < l.length := by rw [hl]; simp
  have hlj : l[l1.length] = x := by simp [hl]
  have htk : ∀ i, i ≤ l1.length → l.take i = l1.take i := fun i hi => by rw [hl, List.take_append_of_le_length hi]
  refine ⟨l1.length, hj, fun i hi => ?_, ?_⟩
  · have h1 := r1 i hi
    rw [htk i (by omega)]
    have : l[i]'(by omega) = l1[i] := by simp [hl, List.getElem_append_left hi]
    rw [this]; exact h1
  · rw [htk _ (Nat.le_refl _), List.take_length, hlj]
    intro hmay
    have hlt : (((start n).run l1).mid x.1 x.2).span < 16777216 := by
      have h1 : (((start n).run l1).step x.1 x.2).k = ((start n).run l1).k + 1 := by rw [e2]; exact e1.symm
      unfold Rc.step Rc.norm at h1
      split at h1
      · assumption
      · rw [hmk] at h1; omega
    have := hmay (by rw [m2]; exact hlt)
    have hu := r2.used
    omega

/-- bits that are read, one by one -/
def Reads (b : List (BitVec 8)) : Rr → List (Nat × Bool) → Prop
  | _, [] => True
  | r, x :: l => r.set x.1 = x.2 ∧ r.may b x.1 ∧ Reads b (r.next b x.1) l
/-- bits of which one is not read any more -/
def Stops (b : List (BitVec 8)) : Rr → List (Nat × Bool) → Prop
  | _, [] => False
  | r, x :: l => ¬ r.may b x.1 ∨ (r.set x.1 = x.2 ∧ r.may b x.1 ∧ Stops b (r.next b x.1) l)
def ends (b : List (BitVec 8)) (r : Rr) (l : List (Nat × Bool)) : Rr := rdN b r (l.map Prod.fst)
theorem ends_cons (b : List (BitVec 8)) (r : Rr) (x : Nat × Bool) (l : List (Nat × Bool)) : ends b r (x :: l) = ends b (r.next b x.1) l := rfl
theorem ends_append (b : List (BitVec 8)) : ∀ (r : Rr) (l m : List (Nat × Bool)), ends b r (l ++ m) = ends b (ends b r l) m
  | _, [], _ => rfl
  | r, x :: l, m => ends_append b (r.next b x.1) l m
theorem reads_append {b : List (BitVec 8)} : ∀ {r : Rr} {l m : List (Nat × Bool)}, Reads b r (l ++ m) → Reads b r l ∧ Reads b (ends b r l) m
  | _, [], _, h => ⟨trivial, h⟩
  | r, x :: l, m, h => by
    obtain ⟨h1, h2, h3⟩ := h
    obtain ⟨i1, i2⟩ := reads_append (l := l) h3
    exact ⟨⟨h1, h2, i1⟩, i2⟩
theorem stops_append {b : List (BitVec 8)} : ∀ {r : Rr} {l m : List (Nat × Bool)}, Stops b r (l ++ m) → Stops b r l ∨ (Reads b r l ∧ Stops b (ends b r l) m)
  | _, [], _, h => .inr ⟨trivial, h⟩
  | r, x :: l, m, h => by
    rcases h with h | ⟨h1, h2, h3⟩
    · exact .inl (.inl h)
    · rcases stops_append (l := l) h3 with i | ⟨i1, i2⟩
      · exact .inl (.inr ⟨h1, h2, i⟩)
      · exact .inr ⟨⟨h1, h2, i1⟩, i2⟩
theorem reads_of {b : List (BitVec 8)} : ∀ {l : List (Nat × Bool)} {r : Rr}, (∀ j (hj : j < l.length), (rdN b r ((l.take j).map Prod.fst)).set l[j].1 = l[j].2 ∧ (rdN b r ((l.take j).map Prod.fst)).may b l[j].1) → Reads b r l
  | [], _, _ => trivial
  | x :: l, r, h => by
    obtain ⟨h1, h2⟩ := h 0 (by simp)
    exact ⟨h1, h2, reads_of (l := l) fun j hj => h (j + 1) (by simpa using hj)⟩
theorem stops_of {b : List (BitVec 8)} : ∀ (j : Nat) {l : List (Nat × Bool)} {r : Rr} (hj : j < l.length), (∀ i (hi : i < j), (rdN b r ((l.take i).map Prod.fst)).set (l[i]'(by omega)).1 = (l[i]'(by omega)).2 ∧ (rdN b r ((l.take i).map Prod.fst)).may b (l[i]'(by omega)).1) →
    ¬ (rdN b r ((l.take j).map Prod.fst)).may b l[j].1 → Stops b r l
  | _, [], _, hj, _, _ => by simp at hj
  | 0, x :: l, r, _, _, h => .inl h
  | j + 1, x :: l, r, hj, h, hn => by
    obtain ⟨h1, h2⟩ := h 0 (by omega)
    exact .inr ⟨h1, h2, stops_of j (l := l) (by simpa using hj) (fun i hi => h (i + 1) (by omega)) hn⟩
end Go.Kc
namespace Go.Pz
open Go.Pb Go.Mt Go.Kc

theorem ub_good {b : List (BitVec 8)} {r : Rr} {a : Nat} (ha : a < 528) (hm : r.may b a) : ub b ⟨r, false⟩ a = (r.set a, ⟨r.next b a, false⟩) := by
  have h : nxtE 528 b r (a : Int) = 0 := by
    unfold nxtE
    rw [if_pos (by omega), if_neg (by rw [Int.toNat_natCast]; exact may_iff.1 hm)]
  unfold ub
  rw [if_neg (by simp), if_pos h]
theorem ub_stop {b : List (BitVec 8)} {r : Rr} {a : Nat} (hm : ¬ r.may b a) : ub b ⟨r, false⟩ a = (false, ⟨r, true⟩) := by
  have h : ¬ nxtE 528 b r (a : Int) = 0 := by
    intro h
    obtain ⟨k, e, _, hk⟩ := nxtE_ok h
    obtain rfl : a = k := by omega
    exact hm hk
  unfold ub
  rw [if_neg (by simp), if_neg h]
theorem un_bad {b : List (BitVec 8)} {tree : Nat} {r : Rr} : ∀ k node, (un b tree k node ⟨r, true⟩).2 = ⟨r, true⟩
  | 0, _ => rfl
  | k + 1, node => un_bad k _
theorem un_good {b : List (BitVec 8)} {N tree w : Nat} (hN : N < 2 ^ (w + 1)) (hN2 : 2 ^ w ≤ N) (ht : tree + 2 ^ w ≤ 528) : ∀ k, k ≤ w → ∀ r, Reads b r (prs (numT N tree k)) → un b tree k (N / 2 ^ k) ⟨r, false⟩ = (N, ⟨ends b r (prs (numT N tree k)), false⟩)
  | 0, _, r, _ => by simp [un, ends, numT, prs, rdN]
  | k + 1, hk, r, h => by
    have hpl : tree + N / 2 ^ (k + 1) < 528 := by
      have := (numT_at hN hN2 (tree := tree) (k + 1) hk ⟨((tree + N / 2 ^ (k + 1) : Nat) : Int), decide (N / 2 ^ k % 2 = 1)⟩ (by simp [numT])).2
      dsimp only at this
      have h2 : ((2 ^ w : Nat) : Int) = (2 : Int) ^ w := by push_cast; rfl
      omega
    have e : prs (numT N tree (k + 1)) = (tree + N / 2 ^ (k + 1), decide (N / 2 ^ k % 2 = 1)) :: prs (numT N tree k) := by
      show (((tree + N / 2 ^ (k + 1) : Nat) : Int).toNat, decide (N / 2 ^ k % 2 = 1)) :: prs (numT N tree k) = _
      rw [Int.toNat_natCast]
    rw [e] at h ⊢
    obtain ⟨h1, h2, h3⟩ := h
    dsimp only at h1 h2 h3
    have hu := ub_good hpl h2
    have ih := un_good hN hN2 ht k (by omega) _ h3
    show un b tree k (N / 2 ^ (k + 1) * 2 + (ub b ⟨r, false⟩ (tree + N / 2 ^ (k + 1))).1.toNat) (ub b ⟨r, false⟩ (tree + N / 2 ^ (k + 1))).2 = _
    rw [hu, h1]
    dsimp only
    have hb : (decide (N / 2 ^ k % 2 = 1)).toNat = N / 2 ^ k % 2 := by
      have := Nat.mod_lt (N / 2 ^ k) (show 0 < 2 by decide)
      by_cases h : N / 2 ^ k % 2 = 1
      · rw [h]; rfl
      · have h0 : N / 2 ^ k % 2 = 0 := by omega
        rw [h0]; rfl
    rw [hb, node_next, ih, ends_cons]
theorem un_stop {b : List (BitVec 8)} {N tree w : Nat} (hN : N < 2 ^ (w + 1)) (hN2 : 2 ^ w ≤ N) (ht : tree + 2 ^ w ≤ 528) : ∀ k, k ≤ w → ∀ r, Stops b r (prs (numT N tree k)) → (un b tree k (N / 2 ^ k) ⟨r, false⟩).2.bad = true
  | 0, _, r, h => by cases h
  | k + 1, hk, r, h => by
    have hpl : tree + N / 2 ^ (k + 1) < 528 := by
      have := (numT_at hN hN2 (tree := tree) (k + 1) hk ⟨((tree + N / 2 ^ (k + 1) : Nat) : Int), decide (N / 2 ^ k % 2 = 1)⟩ (by simp [numT])).2
      dsimp only at this
      have h2 : ((2 ^ w : Nat) : Int) = (2 : Int) ^ w := by push_cast; rfl
      omega
    have e : prs (numT N tree (k + 1)) = (tree + N / 2 ^ (k + 1), decide (N / 2 ^ k % 2 = 1)) :: prs (numT N tree k) := by
      show (((tree + N / 2 ^ (k + 1) : Nat) : Int).toNat, decide (N / 2 ^ k % 2 = 1)) :: prs (numT N tree k) = _
      rw [Int.toNat_natCast]
    rw [e] at h
    show (un b tree k (N / 2 ^ (k + 1) * 2 + (ub b ⟨r, false⟩ (tree + N / 2 ^ (k + 1))).1.toNat) (ub b ⟨r, false⟩ (tree + N / 2 ^ (k + 1))).2).2.bad = true
    rcases h with h | ⟨h1, h2, h3⟩
    · dsimp only at h
      rw [ub_stop h]
      dsimp only
      rw [un_bad]
    · dsimp only at h1 h2 h3
      rw [ub_good hpl h2, h1]
      dsimp only
      have hb : (decide (N / 2 ^ k % 2 = 1)).toNat = N / 2 ^ k % 2 := by
        have := Nat.mod_lt (N / 2 ^ k) (show 0 < 2 by decide)
        by_cases h : N / 2 ^ k % 2 = 1
        · rw [h]; rfl
        · have h0 : N / 2 ^ k % 2 = 0 := by omega
          rw [h0]; rfl
      rw [hb, node_next]
      exact un_stop hN hN2 ht k (by omega) _ h3
theorem prs_app (l r : List Bt) : prs (l ++ r) = prs l ++ prs r := by simp [prs]
theorem utok_good {b : List (BitVec 8)} {r : Rr} {out : List (BitVec 8)} {most : Nat} {t : Tok} (hok : t.ok out.length) (hsz : out.length + t.size ≤ most) (h : Reads b r (prs (bitsOf t))) : utok b ⟨r, false⟩ out most = (⟨ends b r (prs (bitsOf t)), false⟩, Tok.tell out t) := by
  obtain ⟨lit, len, dist⟩ := t
  unfold Tok.ok at hok
  dsimp only at hok
  by_cases h0 : len = 0
  · subst h0
    have e : prs (bitsOf ⟨lit, 0, dist⟩) = (0, false) :: prs (numT (256 + lit.toNat) 0 8) := by simp [bitsOf, prs]
    rw [e] at h ⊢
    obtain ⟨h1, h2, h3⟩ := h
    dsimp only at h1 h2 h3
    have hl := lit.isLt
    have hu := un_good (N := 256 + lit.toNat) (tree := 0) (w := 8) (by omega) (by omega) (by omega) 8 (by omega) _ h3
    rw [show (256 + lit.toNat) / 2 ^ 8 = 1 by omega] at hu
    unfold utok
    dsimp only
    rw [ub_good (by omega) h2, h1]
    dsimp only
    rw [if_pos rfl, hu, ends_cons]
    dsimp only
    have : BitVec.ofNat 8 (256 + lit.toNat - 256) = lit := by
      apply BitVec.eq_of_toNat_eq; rw [BitVec.toNat_ofNat]; omega
    rw [this]
    rfl
  · have hk : 3 ≤ len ∧ len ≤ 18 ∧ 1 ≤ dist ∧ dist ≤ 256 ∧ dist ≤ (out.length : Int) := by omega
    obtain ⟨k1, k2, k3, k4, k5⟩ := hk
    have e : prs (bitsOf ⟨lit, len, dist⟩) = (0, true) :: (prs (numT (16 + (len - 3).toNat) 256 4) ++ prs (numT (256 + (dist - 1).toNat) 272 8)) := by
      unfold bitsOf
      dsimp only
      rw [if_neg h0, ← prs_app]; rfl
    rw [e] at h ⊢
    obtain ⟨h1, h2, h3⟩ := h
    dsimp only at h1 h2 h3
    obtain ⟨h4, h5⟩ := reads_append h3
    have hu := un_good (N := 16 + (len - 3).toNat) (tree := 256) (w := 4) (by omega) (by omega) (by omega) 4 (by omega) _ h4
    have hz := un_good (N := 256 + (dist - 1).toNat) (tree := 272) (w := 8) (by omega) (by omega) (by omega) 8 (by omega) _ h5
    rw [show (16 + (len - 3).toNat) / 2 ^ 4 = 1 by omega] at hu
    rw [show (256 + (dist - 1).toNat) / 2 ^ 8 = 1 by omega] at hz
    unfold Tok.size at hsz
    dsimp only at hsz
    rw [if_neg h0] at hsz
    unfold utok
    dsimp only
    rw [ub_good (by omega) h2, h1]
    dsimp only
    rw [if_neg (by simp), hu]
    dsimp only
    rw [hz]
    dsimp only
    rw [if_neg (by omega), ends_cons, ends_append]
    unfold Tok.tell
    dsimp only
    rw [if_neg h0, show 256 + (dist - 1).toNat - 256 + 1 = dist.toNat by omega, show 16 + (len - 3).toNat - 16 + 3 = len.toNat by omega]
set_option maxHeartbeats 1000000 in
theorem utok_stop {b : List (BitVec 8)} {r : Rr} {out : List (BitVec 8)} {most m : Nat} {t : Tok} (hok : t.ok m) (h : Stops b r (prs (bitsOf t))) : (utok b ⟨r, false⟩ out most).1.bad = true := by
  obtain ⟨lit, len, dist⟩ := t
  unfold Tok.ok at hok
  dsimp only at hok
  by_cases h0 : len = 0
  · subst h0
    have e : prs (bitsOf ⟨lit, 0, dist⟩) = (0, false) :: prs (numT (256 + lit.toNat) 0 8) := by simp [bitsOf, prs]
    rw [e] at h
    unfold utok
    dsimp only
    rcases h with h | ⟨h1, h2, h3⟩
    · dsimp only at h
      rw [ub_stop h]
      dsimp only
      rw [if_pos rfl]
      dsimp only
      rw [un_bad]
    · dsimp only at h1 h2 h3
      have hl := lit.isLt
      have hu := un_stop (N := 256 + lit.toNat) (tree := 0) (w := 8) (by omega) (by omega) (by omega) 8 (by omega) _ h3
      rw [show (256 + lit.toNat) / 2 ^ 8 = 1 by omega] at hu
      rw [ub_good (by omega) h2, h1]
      dsimp only
      rw [if_pos rfl]
      exact hu
  · have hk : 3 ≤ len ∧ len ≤ 18 ∧ 1 ≤ dist ∧ dist ≤ 256 := by omega
    obtain ⟨k1, k2, k3, k4⟩ := hk
    have e : prs (bitsOf ⟨lit, len, dist⟩) = (0, true) :: (prs (numT (16 + (len - 3).toNat) 256 4) ++ prs (numT (256 + (dist - 1).toNat) 272 8)) := by
      unfold bitsOf
      dsimp only
      rw [if_neg h0, ← prs_app]; rfl
    rw [e] at h
    unfold utok
    dsimp only
    rcases h with h | ⟨h1, h2, h3⟩
    · dsimp only at h
      rw [ub_stop h]
      dsimp only
      rw [if_pos rfl]
      dsimp only
      rw [un_bad]
    · dsimp only at h1 h2 h3
      rw [ub_good (by omega) h2, h1]
      dsimp only
      rw [if_neg (by simp)]
      have key : (un b 272 8 1 (un b 256 4 1 ⟨r.next b 0, false⟩).2).2.bad = true := by
        rcases stops_append h3 with h4 | ⟨h4, h5⟩
        · have hu := un_stop (N := 16 + (len - 3).toNat) (tree := 256) (w := 4) (by omega) (by omega) (by omega) 4 (by omega) _ h4
          rw [show (16 + (len - 3).toNat) / 2 ^ 4 = 1 by omega] at hu
          generalize (un b 256 4 1 ⟨r.next b 0, false⟩).2 = s at *
          obtain ⟨sr, sb⟩ := s
          dsimp only at hu
          subst hu
          rw [un_bad]
        · have hu := un_good (N := 16 + (len - 3).toNat) (tree := 256) (w := 4) (by omega) (by omega) (by omega) 4 (by omega) _ h4
          have hz := un_stop (N := 256 + (dist - 1).toNat) (tree := 272) (w := 8) (by omega) (by omega) (by omega) 8 (by omega) _ h5
          rw [show (16 + (len - 3).toNat) / 2 ^ 4 = 1 by omega] at hu
          rw [show (256 + (dist - 1).toNat) / 2 ^ 8 = 1 by omega] at hz
          rw [hu]
          dsimp only
          exact hz
      split
      · rfl
      · exact key
theorem bitsAll_cons (t : Tok) (l : List Tok) : bitsAll (t :: l) = bitsOf t ++ bitsAll l := by simp [bitsAll]
theorem uloop_good {b : List (BitVec 8)} {n : Nat} : ∀ (l : List Tok) (f : Nat) (r : Rr) (out : List (BitVec 8)), okFrom out.length l → out.length + told l = n → l.length ≤ f → Reads b r (prs (bitsAll l)) →
    uloop b n f ⟨r, false⟩ out = (⟨ends b r (prs (bitsAll l)), false⟩, l.foldl Tok.tell out)
  | [], f, r, out, _, h2, _, _ => by
    rw [uloop_stop (.inr (by rw [← h2, told_nil]; exact Nat.le_refl _))]
    simp [bitsAll, prs, ends, rdN]
  | t :: l, 0, r, out, _, _, h, _ => by simp at h
  | t :: l, f + 1, r, out, h1, h2, h3, h4 => by
    rw [told_cons] at h2
    have hs := Tok.ok_size h1.1
    rw [bitsAll_cons, prs_app] at h4 ⊢
    obtain ⟨h5, h6⟩ := reads_append h4
    have ht := utok_good (most := n) h1.1 (by omega) h5
    have hl := tell_length (b := out) (t := t) (Tok.ok_len h1.1).1
    unfold uloop
    rw [if_pos ⟨rfl, by omega⟩, ht]
    dsimp only
    rw [uloop_good l f _ _ (by rw [hl]; exact h1.2) (by rw [hl]; omega) (by simpa using h3) h6, ends_append]
    rfl
theorem uloop_bad {b : List (BitVec 8)} {n : Nat} : ∀ (l : List Tok) (f : Nat) (r : Rr) (out : List (BitVec 8)), okFrom out.length l → out.length + told l = n → l.length ≤ f → Stops b r (prs (bitsAll l)) → (uloop b n f ⟨r, false⟩ out).1.bad = true
  | [], f, r, out, _, _, _, h => by simp [bitsAll, prs] at h; cases h
  | t :: l, 0, r, out, _, _, h, _ => by simp at h
  | t :: l, f + 1, r, out, h1, h2, h3, h4 => by
    rw [told_cons] at h2
    have hs := Tok.ok_size h1.1
    rw [bitsAll_cons, prs_app] at h4
    unfold uloop
    rw [if_pos ⟨rfl, by omega⟩]
    rcases stops_append h4 with h5 | ⟨h5, h6⟩
    · have hb := utok_stop (out := out) (most := n) h1.1 h5
      rw [uloop_stop (.inl hb)]
      exact hb
    · have ht := utok_good (most := n) h1.1 (by omega) h5
      have hl := tell_length (b := out) (t := t) (Tok.ok_len h1.1).1
      rw [ht]
      dsimp only
      exact uloop_bad l f _ _ (by rw [hl]; exact h1.2) (by rw [hl]; omega) (by simpa using h3) h6
end Go.Pz
