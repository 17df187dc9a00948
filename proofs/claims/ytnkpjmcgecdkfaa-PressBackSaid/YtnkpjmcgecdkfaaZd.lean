/- What Unpack says of what was packed. No program in sight. -/
import Derived.Test.YtnkpjmcgecdkfaaZb
namespace Go.Pz
open Go.Pb Go.Mt Go.Kc

theorem lg4_le4 (n : Nat) (hn : n ≤ 65536) (X : List (BitVec 8)) : lg4 (le4 n ++ X) = n := by
  unfold lg4 le4
  simp only [List.cons_append, List.getD_cons_zero, List.getD_cons_succ, BitVec.toNat_ofNat]
  omega
theorem le4_length (n : Nat) : (le4 n).length = 4 := rfl
theorem long_le4 (n : Nat) (hn : n ≤ 65536) (X : List (BitVec 8)) (hX : 5 ≤ X.length) : longE (le4 n ++ X) = 0 ∧ longV (le4 n ++ X) = n := by
  have hl : ¬ (le4 n ++ X).length < 9 := by rw [List.length_append, le4_length]; omega
  have h6 : ¬ 65536 < lg4 (le4 n ++ X) := by rw [lg4_le4 n hn]; omega
  unfold longE longV
  rw [if_neg hl, if_neg h6, if_neg hl, if_neg h6, lg4_le4 n hn]
  exact ⟨rfl, rfl⟩
theorem within_toks {m : Nat} {l : List Tok} (h : okFrom m l) : within 528 (prs (bitsAll l)) := by
  intro x hx
  unfold prs at hx
  obtain ⟨y, hy, rfl⟩ := List.mem_map.1 hx
  have := bits_within h y hy
  dsimp only
  omega
/-- what is known of a packed text -/
structure Packed (bs : List (BitVec 8)) (n : Nat) (L : List Tok) (B : List (Nat × Bool)) : Prop where
  toks : tokens bs = L
  len : bs.length = n
  bits : prs (bitsAll L) = B
  ok : okFrom 0 L
  told : told L = n
  text : text L = bs
  few : L.length ≤ n
  wit : within 528 B
theorem packed (bs : List (BitVec 8)) : Packed bs bs.length (tokens bs) (prs (bitsAll (tokens bs))) := by
  obtain ⟨s1, s2, s3⟩ := tokens_spec bs
  have := told_bounds 0 _ s1
  exact ⟨rfl, rfl, rfl, s1, s2, s3, by omega, within_toks s1⟩
theorem opE_zero {b : List (BitVec 8)} (h : mayOpen b) : opE 528 b = 0 := by unfold opE; rw [if_pos (by omega), if_pos h]
theorem back_core {bs : List (BitVec 8)} {n : Nat} {L : List Tok} {B : List (Nat × Bool)} (h : Packed bs n L B) (more : List (BitVec 8)) :
    mayOpen (encT 528 B ++ more) ∧ uloop (encT 528 B ++ more) n n ⟨open_ 528 (encT 528 B ++ more), false⟩ [] = (⟨ends (encT 528 B ++ more) (open_ 528 (encT 528 B ++ more)) B, false⟩, bs) ∧ (ends (encT 528 B ++ more) (open_ 528 (encT 528 B ++ more)) B).used = (encT 528 B).length := by
  have hbeg : Begins 528 B (encT 528 B ++ more) := by
    refine ⟨by rw [List.length_append, encT_length]; omega, ?_⟩
    rw [List.take_append_of_le_length (by rw [encT_length]; exact Nat.le_refl _), List.take_of_length_le (by rw [encT_length]; exact Nat.le_refl _)]
  obtain ⟨r1, r2, r3⟩ := back_run h.wit hbeg B.length
  simp only [List.take_length] at r2 r3
  refine ⟨r1, ?_, ?_⟩
  · have hr := reads_of r2
    rw [← h.bits] at hr ⊢
    have := uloop_good (n := n) L n (open_ 528 (encT 528 (prs (bitsAll L)) ++ more)) [] h.ok (by rw [h.told]; simp) h.few hr
    rw [this]
    have e : L.foldl Tok.tell [] = bs := h.text
    rw [e]
  · rw [encT_length]; exact r3
theorem un_back (bs more : List (BitVec 8)) (hn : bs.length ≤ 65536) : unE (packT bs ++ more) bs.length = (if more.length = 0 then 0 else 2) ∧ (more = [] → unT (packT bs) bs.length = bs) := by
  have hp := packed bs
  have ht : packT bs = le4 bs.length ++ encT 528 (prs (bitsAll (tokens bs))) := rfl
  obtain ⟨c1, c2, c3⟩ := back_core hp more
  generalize prs (bitsAll (tokens bs)) = B at *
  generalize tokens bs = L at *
  have hX5 : 5 ≤ (encT 528 B).length := by rw [encT_length]; omega
  have e4 : (packT bs ++ more).drop 4 = encT 528 B ++ more := by rw [ht, List.append_assoc]; rfl
  obtain ⟨l1, l2⟩ := long_le4 bs.length hn (encT 528 B ++ more) (by rw [List.length_append]; omega)
  rw [← List.append_assoc, ← ht] at l1 l2
  have hE : unE (packT bs ++ more) bs.length = (if more.length = 0 then 0 else 2) := by
    unfold unE
    rw [if_neg (by omega), l1, if_neg (by simp), l2, if_neg (by omega), e4, opE_zero c1, if_neg (by simp), c2]
    dsimp only
    rw [c3]
    have hl : (packT bs ++ more).length - 4 = (encT 528 B).length + more.length := by
      rw [ht, List.length_append, List.length_append, le4_length]; omega
    rw [hl]
    by_cases hm : more.length = 0
    · rw [if_pos hm, if_neg (by rintro (h | h); cases h; exact h (by omega))]
    · rw [if_neg hm, if_pos (.inr (by omega))]
  refine ⟨hE, fun hm => ?_⟩
  subst hm
  rw [List.append_nil] at *
  have hE0 : unE (packT bs) bs.length = 0 := by rw [hE]; rfl
  unfold unT
  rw [hE0, if_pos rfl, l2, e4, List.append_nil, c2]
theorem un_less (bs : List (BitVec 8)) (hn : bs.length ≤ 65536) (h0 : 0 < bs.length) : unE (packT bs) ((bs.length : Int) - 1) = 3 := by
  have ht : packT bs = le4 bs.length ++ encT 528 (prs (bitsAll (tokens bs))) := rfl
  obtain ⟨l1, l2⟩ := long_le4 bs.length hn (encT 528 (prs (bitsAll (tokens bs)))) (by rw [encT_length]; omega)
  rw [← ht] at l1 l2
  unfold unE
  rw [if_neg (by omega), l1, if_neg (by simp), l2, if_pos (by omega)]
theorem un_cut (bs : List (BitVec 8)) (hn : bs.length ≤ 65536) : unE ((packT bs).take ((packT bs).length - 1)) bs.length = 2 := by
  have hp := packed bs
  have ht : packT bs = le4 bs.length ++ encT 528 (prs (bitsAll (tokens bs))) := rfl
  generalize prs (bitsAll (tokens bs)) = B at *
  generalize tokens bs = L at *
  have hlen : (packT bs).length = 9 + (enc 528 B).k := by rw [ht, List.length_append, encT_length, le4_length]; omega
  by_cases hk : (enc 528 B).k = 0
  · have hl : longE ((packT bs).take ((packT bs).length - 1)) = 2 := by
      unfold longE
      rw [if_pos (by rw [List.length_take]; omega)]
    unfold unE
    rw [if_neg (by omega), hl, if_pos (by decide)]
  · have e : (packT bs).take ((packT bs).length - 1) = le4 bs.length ++ (encT 528 B).take (4 + (enc 528 B).k) := by
      rw [hlen, ht, List.take_append, le4_length, List.take_of_length_le (by rw [le4_length]; omega), show 9 + (enc 528 B).k - 1 - 4 = 4 + (enc 528 B).k by omega]
    obtain ⟨b', hb'⟩ : ∃ b', (encT 528 B).take (4 + (enc 528 B).k) = b' := ⟨_, rfl⟩
    rw [hb'] at e
    have hbl : b'.length = 4 + (enc 528 B).k := by rw [← hb', List.length_take, encT_length]; omega
    obtain ⟨o1, j, hj, h1, h2⟩ := short_run2 hp.wit (by omega) hb'.symm
    have hst := stops_of j hj h1 h2
    rw [← hp.bits] at hst
    have hbad := uloop_bad (n := bs.length) L bs.length (open_ 528 b') [] hp.ok (by rw [hp.told]; simp) hp.few hst
    obtain ⟨l1, l2⟩ := long_le4 bs.length hn b' (by omega)
    have e4 : (le4 bs.length ++ b').drop 4 = b' := rfl
    rw [e]
    unfold unE
    rw [if_neg (by omega), l1, if_neg (by simp), l2, if_neg (by omega), e4, opE_zero o1, if_neg (by simp), if_pos (.inl hbad)]
end Go.Pz
