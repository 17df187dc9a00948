/- Walks: slices.Clip, match.Tokens. -/
import Derived.Test.YtnkpjmcgecdkfaaMf
import Derived.ScopeJumps
namespace Go
/-- 'wp_scope_jumps' with a number of the proof's own, what is handed on behind a name; what stands behind the label is walked once -/
theorem wp_scope_ghost {P : Program} {Q : Exit → Act → World → Prop} {a : Act} {w : World} {c X : Code} (l : Nat) (I : Nat → Act → World → Prop) (hf : findLabel c l = some (.seq .skip X))
    (first : ∀ K : Act → World → Prop, (∀ n a w, I n a w → X.wp P (Exit.jump l K Q) a w) → c.wp P (Exit.jump l K Q) a w)
    (pass : ∀ n a w, I n a w → ∀ K : Act → World → Prop, (∀ m a w, m < n → I m a w → K a w) → X.wp P (Exit.jump l K Q) a w) : (Code.scope c).wp P Q a w := by
  refine wp_scope_jumps l (fun a w => ∃ n, I n a w) (fun a w => leastOf (fun n => I n a w)) hf (first _ fun n a w h => pass n a w h _ fun m a' w' _ h' => ⟨m, h'⟩) ?_
  intro a w hI
  have hs := leastOf_spec hI
  refine wp_seq (wp_skip ?_)
  exact pass _ a w hs.1 _ fun m a' w' hlt hI' => ⟨⟨m, hI'⟩, Nat.lt_of_le_of_lt ((leastOf_spec ⟨m, hI'⟩).2 m hI') hlt⟩
@[go_sem] theorem Exit.jump_normal {l : Nat} {J : Act → World → Prop} {Q : Exit → Act → World → Prop} {a : Act} {w : World} : Exit.jump l J Q .normal a w = Q .normal a w := rfl
@[go_sem] theorem Exit.jump_ret {l : Nat} {J : Act → World → Prop} {Q : Exit → Act → World → Prop} {a : Act} {w : World} : Exit.jump l J Q .ret a w = Q .ret a w := rfl
end Go
namespace Go.Own
/-- of what a call has made, one thing -/
theorem Own.mem1 {w0 w : World} {L : List Res} (h : Own w0 w L) {r : Res} (hr : r ∈ L) : Own w0 w [r] :=
  ⟨h.below, fun q hq => by rw [List.mem_singleton] at hq; rw [hq]; exact h.mem r hr, List.pairwise_singleton _ _⟩
end Go.Own
namespace Go.Mt
theorem tokens_step {bs : List (BitVec 8)} {n p : Nat} {L : List Tok} (hn : bs.length = n) (hp : p < n) (h : tokens bs = L ++ toksFrom bs n p) : tokens bs = (L ++ [tokAt bs p]) ++ toksFrom bs n (p + (tokAt bs p).size) := by
  obtain ⟨f, rfl⟩ : ∃ f, n = f + 1 := ⟨n - 1, by omega⟩
  have hs := Tok.ok_size (tokAt_ok (b := bs) (at_ := p))
  rw [h, toksFrom, if_pos (by omega), List.append_assoc, toksFrom_fuel f (f + 1) _ (by omega) (by omega)]
  rfl
theorem tokAt_len (b : List (BitVec 8)) (p : Nat) : 0 ≤ (tokAt b p).len := (Tok.ok_len (tokAt_ok (b := b) (at_ := p))).1
end Go.Mt
namespace Go.Proofs.Ytnkpjmcgecdkfaa
open Go.RowKit Go.Own Go.Bv Go.Ord Go.Eq Go.Mt

set_option maxHeartbeats 1000000 in
theorem clip_calls (a : Option Addr) (n cap : Nat) (h : n ≤ cap) (w : World) (hn : a = none → n = 0 ∧ cap = 0) :
    Calls Try.prog 36 #[.slice a n cap] w fun e w' => e = .returned (.slice a n n) ∧ w = w' := by
  cases a with
  | none =>
    obtain ⟨rfl, rfl⟩ := hn rfl
    clear hn h
    go_enter Try.func36, Try.ntmps36
    go_wp2
    go_ret
    exact ⟨rfl, rfl⟩
  | some ad =>
    clear hn
    go_enter Try.func36, Try.ntmps36
    go_wp2
    go_ret
    exact ⟨rfl, rfl⟩

theorem rd_clip {w : World} {sz n cap : Nat} {a : Option Addr} {xs : List Value} (h : Rd w sz a n cap xs) : Rd w sz a n n xs :=
  ⟨h.len, Nat.le_refl _, Nat.le_trans h.le h.max, fun ha => ⟨(h.nil ha).1, (h.nil ha).1⟩, h.at'⟩

set_option maxHeartbeats 4000000 in
set_option maxRecDepth 100000 in
theorem tokens_calls (a : Option Addr) (n cap : Nat) (bs : List (BitVec 8)) (w : World) (hR : Rd w 1 a n cap (u8s bs)) (hn : n ≤ 65536) :
    Calls Try.prog 23 #[.slice a n cap] w fun e w' => ∃ a' T c', T = (tokens bs).length ∧ e = .returned (.tuple #[.slice a' T T, .int .i64 0]) ∧ Below w.heap.size w w' ∧ w'.ownsRow w.heap.size 30 3 (.slice a' T c') T (tks (tokens bs)) := by
  have hO := Own.start w
  have hlen : bs.length = n := by have := hR.len; rw [u8s_length] at this; omega
  have HL := Lib.hid hlen
  have HR := Lib.hid hR
  clear hR hlen
  have d1 : decide ((65536 : Int) < (n : Int)) = false := by simp; omega
  generalize hW : w = wn at hO HR ⊢
  clear hW w
  go_enter Try.func23, Try.ntmps23
  go_wp2
  refine wp_scope_ghost 0 (fun m a' w' => ∃ (p : Nat) (L : List Tok) (aO : Option Addr) (T cO : Nat), m = n - p ∧ p ≤ n ∧ T = L.length ∧ T ≤ p ∧ tokens bs = L ++ toksFrom bs n p ∧ Own wn w' [.sl 30 3 (.slice aO T cO) T (tks L)] ∧
    ∃ (u6 u7 u8 u9 u10 u11 u12 u13 u14 u15 u16 u17 u18 u19 u20 u21 u22 u23 u24 u25 u26 u27 u28 u29 u30 u31 u32 u33 u34 u35 u36 u37 : Value), a' = { tmps := #[.slice a n cap, undef, .slice none 0 0, .int .i64 0, .slice aO T cO, .int .i64 (p : Int), u6, u7, u8, u9, u10, u11, u12, u13, u14, u15, u16, u17, u18, u19, u20, u21, u22, u23, u24, u25, u26, u27, u28, u29, u30, u31, u32, u33, u34, u35, u36, u37], defers := [] }) rfl ?_ ?_
  · intro K hX
    have HX := Lib.hid hX
    clear hX
    go_wp2
    go_step3
    go_step
    go_step
    exact HX.out _ _ _ ⟨0, [], none, 0, 0, rfl, by omega, rfl, by omega, by rw [HL.out.symm]; rfl, hO.add (Below.refl _ _) (World.ownsRow_nil _ _ _ _), _, _, _, _, _, _, _, _, _, _, _, _, _, _, _, _, _, _, _, _, _, _, _, _, _, _, _, _, _, _, _, _, rfl⟩
  · rintro m a' w' ⟨p, L, aO, T, cO, rfl, hp, hT, hTp, hL, hO1, u6, u7, u8, u9, u10, u11, u12, u13, u14, u15, u16, u17, u18, u19, u20, u21, u22, u23, u24, u25, u26, u27, u28, u29, u30, u31, u32, u33, u34, u35, u36, u37, rfl⟩ K hK
    have HK := Lib.hid hK
    have HTT := Lib.hid hT
    clear hK hO hT
    have hO := hO1
    clear hO1
    dsimp only
    by_cases c1 : p < n
    · have d2 : ((p : Int) == (n : Int)) = false := by simp; omega
      have HS := Lib.hid (tokens_step HL.out c1 hL)
      have HLen := Lib.hid (tokAt_tell (b := bs) (at_ := p) (by rw [HL.out]; exact c1)).1
      have H0 := Lib.hid (Tok.ok_size (tokAt_ok (b := bs) (at_ := p)))
      have hz := fun w => size_calls (tokAt bs p) w (tokAt_len bs p)
      have hx := u8s_get bs p (by rw [HL.out]; exact c1)
      have HX0 : Hid ((if decide (3 ≤ (found bs p).1) = true then bestT bs p (min 256 p) else ⟨bs[p]'(by rw [HL.out]; exact c1), 0, 0⟩) = tokAt bs p) := by
        show _ = _
        unfold tokAt bestT found
        simp only [decide_eq_true_eq]
        split
        · rfl
        · rw [List.getD_eq_getElem?_getD, List.getElem?_eq_getElem (by rw [HL.out]; exact c1)]; rfl
      generalize bs[p]'(by rw [HL.out]; exact c1) = x at HX0 hx
      obtain ⟨tt, ht⟩ : ∃ tt, tokAt bs p = tt := ⟨_, rfl⟩
      obtain ⟨bt, hb⟩ : ∃ bt, bestT bs p (min 256 p) = bt := ⟨_, rfl⟩
      obtain ⟨B, hB⟩ : ∃ B, decide (3 ≤ (found bs p).1) = B := ⟨_, rfl⟩
      have hf := fun w h => find_calls a n cap bs p w h c1 hn
      rw [ht] at HS HLen H0 hz HX0
      rw [hb, hB] at hf HX0
      rw [HL.out] at HLen
      obtain ⟨sz, hsz⟩ : ∃ sz, tt.size = sz := ⟨_, rfl⟩
      rw [hsz] at HS HLen H0 hz
      have HF := Lib.hid hf
      have HZ := Lib.hid hz
      have HX := Lib.hid hx
      clear hf hz hx ht hb hB hL hsz
      have e1 : wrap64 ((p : Int) + (sz : Int)) = ((p + sz : Nat) : Int) := by unfold wrap64; have := HLen.out; omega
      obtain ⟨b0, off, rfl⟩ := HR.out.place (by omega)
      cases B
      all_goals
        simp only [Bool.false_eq_true, if_true, if_false] at HX0
        have HX1 := Lib.hid HX0.out
        go_wp2_with (first
          | (go_at_call 37; refine (HF.out _ (hO.rd HR.out)).mono ?_; rintro e ww ⟨rfl, hb⟩; replace hO := hO.call hb; clear hb)
          | ((with_reducible refine gAlloc (T := 30) ?_); refine own_alloc hO _ _ itz ?_; clear hO; intro bx ww hO)
          | ((with_reducible refine gBld (T := 30) ?_); refine own_bld (Tok.C ⟨x, 0, 0⟩) (by kernel_rfl) ?_)
          | ((with_reducible refine gLoad ?_); refine ld_rd (hO.rd HR.out) rfl (HX.out) (tA rfl) ?_)
          | ((with_reducible refine gStore ?_); first | (refine stX hO 0 rfl rfl rfl rfl rfl (tS rfl) ?_; clear hO; intro ww hO) | (refine stC hO 0 rfl rfl rfl (ltb rfl) rfl (tS rfl) ?_; clear hO; intro ww hO)))
        rw [HX1.out] at hO
        change Own wn _ [.blk bx (.cells tt.C 30 (0, 0)), .sl 30 3 (.slice aO T cO) T (tks L)] at hO
        refine wp_region_textS (fun w' => Own wn w' [.blk bx (.cells tt.C 30 (0,0))]) (fun op => match op with | .load _ _ => true | _ => false) (by kernel_rfl) (by kernel_rfl) (hO.drew.mem1 (by simp)) ?_
        replace hO := hO.drew
        generalize World.drew _ = wd at hO ⊢
        go_wp2_with (first
          | (((with_reducible refine gIL ?_); first | refine wpI_ldS (fun w' hS => hS.blk 0 rfl) rfl rfl (tA rfl) (tS rfl) ?_); first | (refine wpI_act (by simp only [Act.put, List.setIfInBounds_toArray, List.set_cons_succ, List.set_cons_zero]; rfl) ?_) | skip)
          | ((with_reducible refine gBuild ?_); refine own_build hO 22 1 _ etk tt.C (by omega) (by omega) (by kernel_rfl) rfl ?_; clear hO; intro g ww hO)
          | ((with_reducible refine gAppend ?_); refine own_append hO 2 _ _ 22 etk rfl rfl rfl (hO.rdAt 0 rfl) (tks_one [tt]) (T + 1) rfl (by simp [maxLen]; omega) (by omega) ?_; clear hO; intro a2 c2 ww hO)
          | (go_at_call 35; refine (HZ.out _).mono ?_; rintro e ww ⟨rfl, hb⟩; replace hO := hO.call hb; clear hb)
          | ((with_reducible refine gI ?_); refine wpI_step rfl rfl (by kernel_rfl) ?_; intro K hK; have HK := Lib.hid hK; clear hK) | ((with_reducible refine gI ?_); first | refine wpI_skip rfl ?_ | refine wpI_want rfl ?_) | ((with_reducible refine gOnlyK HK.out ?_ ?_); exact hO.mem1 (by simp); clear HK K; first | (refine wpI_act (by simp only [Act.put, List.setIfInBounds_toArray, List.set_cons_succ, List.set_cons_zero]; rfl) ?_) | skip) | (with_reducible refine wpI_nil ?_))
        go_step3
        have hm := HLen.out
        have h0 := H0.out
        rw [e1]
        refine ⟨rfl, HK.out (n - (p + sz)) _ _ (by omega) ⟨p + sz, L ++ [tt], a2, T + 1, c2, rfl, HLen.out, by rw [List.length_append, HTT.out]; rfl, by omega, HS.out, ?_, _, _, _, _, _, _, _, _, _, _, _, _, _, _, _, _, _, _, _, _, _, _, _, _, _, _, _, _, _, _, _, _, rfl⟩⟩
        rw [tks_append]
        exact hO.sub (by repeat first | exact List.Sublist.refl _ | apply List.Sublist.cons)
    · obtain rfl : p = n := by omega
      have HT : Hid (tokens bs = L) := by show _ = _; rw [hL, toksFrom_stop (by rw [HL.out]; exact Nat.le_refl _), List.append_nil]
      have hcl := fun w => clip_calls aO T cO (hO.rdAt 0 rfl).le w (hO.rdAt 0 rfl).nil
      have HCL := Lib.hid hcl
      clear hcl hL
      go_wp2_with (first
          | (go_at_call 36; refine (HCL.out _).mono ?_; rintro e ww ⟨rfl, rfl⟩))
      simp only [Exit.jump]
      go_ret2
      exact ⟨aO, T, cO, by rw [HT.out]; exact HTT.out, rfl, hO.below, by rw [HT.out]; exact hO.row 0 rfl⟩
theorem tokens_callsN (a : Option Addr) (n cap : Nat) (bs : List (BitVec 8)) (T : Nat) (hT : (tokens bs).length = T) (w : World) (hR : Rd w 1 a n cap (u8s bs)) (hn : n ≤ 65536) :
    Calls Try.prog 23 #[.slice a n cap] w fun e w' => ∃ a' c', e = .returned (.tuple #[.slice a' T T, .int .i64 0]) ∧ Below w.heap.size w w' ∧ w'.ownsRow w.heap.size 30 3 (.slice a' T c') T (tks (tokens bs)) := by
  subst hT
  refine (tokens_calls a n cap bs w hR hn).mono ?_
  rintro e w' ⟨a', N, c', rfl, he, hb, hr⟩
  exact ⟨a', c', he, hb, hr⟩
end Go.Proofs.Ytnkpjmcgecdkfaa
