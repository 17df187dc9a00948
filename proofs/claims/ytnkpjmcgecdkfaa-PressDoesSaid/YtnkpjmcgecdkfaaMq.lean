/- Walks of the document's Find at any place, and Tokens. -/
import Derived.Test.YtnkpjmcgecdkfaaMp
namespace Go.Proofs.Ytnkpjmcgecdkfaa
open Go.RowKit Go.Own Go.Bv Go.Ord Go.Eq Go.Mt

set_option maxHeartbeats 2000000 in
set_option maxRecDepth 100000 in
theorem rFind_calls (a : Option Addr) (n cap : Nat) (bs : List (BitVec 8)) (x : Int) (w : World) (hR : Rd w 1 a n cap (u8s bs)) :
    Calls Try.prog 45 #[.slice a n cap, .int .i64 x] w fun e w' => e = .returned (.tuple #[.agg (findT n bs x).C, .int .i64 (findE n bs x)]) ∧ Below w.heap.size w w' := by
  have hO := Own.start w
  by_cases h1 : 65536 < n
  · have d1 : decide ((65536 : Int) < (n : Int)) = true := by simp; omega
    have e1 : findT n bs x = zT := by unfold findT; rw [if_pos h1]
    have e2 : findE n bs x = 3 := by unfold findE; rw [if_pos h1]
    rw [e1, e2]
    clear e1 e2 h1 hR
    generalize hW : w = wn at hO ⊢
    clear hW w
    go_enter Try.func45, Try.ntmps45
    go_wp2_with (first
      | ((with_reducible refine gAlloc (T := 30) ?_); refine own_alloc hO _ _ itz ?_; clear hO; intro bx ww hO)
      | ((with_reducible refine gBld (T := 30) ?_); refine own_bld (Tok.C zT) (by kernel_rfl) ?_)
      | ((with_reducible refine gStore ?_); first | (refine stX hO 0 rfl rfl rfl rfl rfl (tS rfl) ?_; clear hO; intro ww hO) | (refine stC hO 0 rfl rfl rfl (ltb rfl) rfl (tS rfl) ?_; clear hO; intro ww hO)))
    refine bodyPost_ret (res_ct rfl _ _ bx 30 (Tok.C zT) (0,0) _ rfl (hO.blk 0 rfl) Try.underlying30 rfl (its' _)) rfl ⟨rfl, hO.below⟩
  have d1 : decide ((65536 : Int) < (n : Int)) = false := by simp; omega
  by_cases h2 : x < 0 ∨ (n : Int) ≤ x
  · have e1 : findT n bs x = zT := by unfold findT; rw [if_neg h1, if_pos h2]
    have e2 : findE n bs x = 1 := by unfold findE; rw [if_neg h1, if_pos h2]
    rw [e1, e2]
    by_cases h3 : x < 0
    · have d2 : decide (x < 0) = true := by simpa using h3
      clear e1 e2 h1 h2 h3 hR
      generalize hW : w = wn at hO ⊢
      clear hW w
      go_enter Try.func45, Try.ntmps45
      go_wp2_with (first
        | ((with_reducible refine gAlloc (T := 30) ?_); refine own_alloc hO _ _ itz ?_; clear hO; intro bx ww hO)
        | ((with_reducible refine gBld (T := 30) ?_); refine own_bld (Tok.C zT) (by kernel_rfl) ?_)
        | ((with_reducible refine gG ?_); refine wpList_want rfl ?_)
        | ((with_reducible refine gStore ?_); first | (refine stX hO 0 rfl rfl rfl rfl rfl (tS rfl) ?_; clear hO; intro ww hO) | (refine stC hO 0 rfl rfl rfl (ltb rfl) rfl (tS rfl) ?_; clear hO; intro ww hO)))
      refine bodyPost_ret (res_ct rfl _ _ bx 30 (Tok.C zT) (0,0) _ rfl (hO.blk 0 rfl) Try.underlying30 rfl (its' _)) rfl ⟨rfl, hO.below⟩
    · have d2 : decide (x < 0) = false := by simpa using h3
      have d3 : decide ((n : Int) ≤ x) = true := by simp; omega
      clear e1 e2 h1 h2 h3 hR
      generalize hW : w = wn at hO ⊢
      clear hW w
      go_enter Try.func45, Try.ntmps45
      go_wp2_with (first
        | ((with_reducible refine gAlloc (T := 30) ?_); refine own_alloc hO _ _ itz ?_; clear hO; intro bx ww hO)
        | ((with_reducible refine gBld (T := 30) ?_); refine own_bld (Tok.C zT) (by kernel_rfl) ?_)
        | ((with_reducible refine gG ?_); refine wpList_want rfl ?_)
        | ((with_reducible refine gStore ?_); first | (refine stX hO 0 rfl rfl rfl rfl rfl (tS rfl) ?_; clear hO; intro ww hO) | (refine stC hO 0 rfl rfl rfl (ltb rfl) rfl (tS rfl) ?_; clear hO; intro ww hO)))
      refine bodyPost_ret (res_ct rfl _ _ bx 30 (Tok.C zT) (0,0) _ rfl (hO.blk 0 rfl) Try.underlying30 rfl (its' _)) rfl ⟨rfl, hO.below⟩
  · obtain ⟨p, rfl⟩ : ∃ p : Nat, x = (p : Int) := ⟨x.toNat, by omega⟩
    exact rfind_in a n cap bs p w hR (by omega) (by omega) _ _ rfl rfl

set_option maxHeartbeats 4000000 in
set_option maxRecDepth 100000 in
theorem rtokens_calls (a : Option Addr) (n cap : Nat) (bs : List (BitVec 8)) (T : Nat) (hT : (tokens bs).length = T) (w : World) (hR : Rd w 1 a n cap (u8s bs)) (hn : n ≤ 65536) :
    Calls Try.prog 27 #[.slice a n cap] w fun e w' => ∃ a' c', e = .returned (.tuple #[.slice a' T c', .int .i64 0]) ∧ Below w.heap.size w w' ∧ w'.ownsRow w.heap.size 30 3 (.slice a' T c') T (tks (tokens bs)) := by
  have hO := Own.start w
  have hlen : bs.length = n := by have := hR.len; rw [u8s_length] at this; omega
  have HL := Lib.hid hlen
  have HR := Lib.hid hR
  have HTT := Lib.hid hT
  clear hR hlen hT
  have d1 : decide ((65536 : Int) < (n : Int)) = false := by simp; omega
  generalize hW : w = wn at hO HR ⊢
  clear hW w
  go_enter Try.func27, Try.ntmps27
  go_wp2
  replace hO : Own wn _ [.sl 30 3 (.slice none 0 0) 0 (tks [])] := hO.add (Below.refl _ _) (World.ownsRow_nil _ _ _ _)
  go_loopg [4, 5] n (fun m s4 s5 wr => ∃ (p : Nat) (L : List Tok) (aO : Option Addr) (S cO : Nat), m = n - p ∧ p ≤ n ∧ s5 = .int .i64 (p : Int) ∧ s4 = .slice aO S cO ∧ S = L.length ∧ S ≤ p ∧ tokens bs = L ++ toksFrom bs n p ∧ Own wn wr [.sl 30 3 (.slice aO S cO) S (tks L)])
  case atStart => exact ⟨0, [], none, 0, 0, rfl, by omega, rfl, rfl, rfl, by omega, by rw [HL.out.symm]; rfl, hO⟩
  case round =>
    obtain ⟨p, L, aO, S, cO, rfl, hp, rfl, rfl, hS, hSp, hL, hO1⟩ := hrel
    clear hO
    have hO := hO1
    have HSL := Lib.hid hS
    clear hO1 hS
    by_cases c1 : p < n
    · have d2 : decide ((p : Int) < (n : Int)) = true := by simp; omega
      have d2' : decide (p < n) = true := by simp; omega
      have HS := Lib.hid (tokens_step HL.out c1 hL)
      have HLen := Lib.hid (tokAt_tell (b := bs) (at_ := p) (by rw [HL.out]; exact c1)).1
      have H0 := Lib.hid (Tok.ok_size (tokAt_ok (b := bs) (at_ := p)))
      have hz := fun w => rsize_calls (tokAt bs p) w (tokAt_len bs p)
      have hx := u8s_get bs p (by rw [HL.out]; exact c1)
      have hf := fun w h => rfind_in a n cap bs p w h hn c1 _ _ rfl rfl
      have HX0 : Hid (∃ B : Bool, ((findE n bs p == 0) = B) ∧ (if B = true then findT n bs p else ⟨bs[p]'(by rw [HL.out]; exact c1), 0, 0⟩) = tokAt bs p) := by
        have q1 : findE n bs p = if 3 ≤ (found bs p).1 then 0 else 4 := by unfold findE; rw [if_neg (by omega), if_neg (by omega), Int.toNat_natCast]
        have q2 : findT n bs p = if 3 ≤ (found bs p).1 then ⟨0, (found bs p).1, (found bs p).2⟩ else zT := by unfold findT; rw [if_neg (by omega), if_neg (by omega), Int.toNat_natCast]
        rw [q1, q2]
        unfold tokAt
        by_cases h3 : 3 ≤ (found bs p).1
        · rw [if_pos h3, if_pos h3, if_pos h3]
          exact ⟨true, rfl, rfl⟩
        · rw [if_neg h3, if_neg h3, if_neg h3]
          refine ⟨false, rfl, ?_⟩
          rw [List.getD_eq_getElem?_getD, List.getElem?_eq_getElem (by rw [HL.out]; exact c1)]; rfl
      generalize bs[p]'(by rw [HL.out]; exact c1) = x at HX0 hx
      obtain ⟨tt, ht⟩ : ∃ tt, tokAt bs p = tt := ⟨_, rfl⟩
      obtain ⟨bt, hb⟩ : ∃ bt, findT n bs p = bt := ⟨_, rfl⟩
      obtain ⟨E, hE⟩ : ∃ E, findE n bs p = E := ⟨_, rfl⟩
      rw [ht] at HS HLen H0 hz HX0
      rw [hb, hE] at hf HX0
      rw [HL.out] at HLen
      obtain ⟨sz, hsz⟩ : ∃ sz, tt.size = sz := ⟨_, rfl⟩
      rw [hsz] at HS HLen H0 hz
      have HF := Lib.hid hf
      have HZ := Lib.hid hz
      have HX := Lib.hid hx
      clear hf hz hx ht hb hE hL hsz
      have e1 : wrap64 ((p : Int) + (sz : Int)) = ((p + sz : Nat) : Int) := by unfold wrap64; have := HLen.out; omega
      obtain ⟨b0, off, rfl⟩ := HR.out.place (by omega)
      obtain ⟨B, hB, hBT⟩ := HX0.out
      have HBT := Lib.hid hBT
      clear HX0 hBT
      cases B
      all_goals
        simp only [Bool.false_eq_true, if_true, if_false] at HBT
        go_wp2_with (first
          | (go_at_call 45; refine (HF.out _ (hO.rd HR.out)).mono ?_; rintro e ww ⟨rfl, hb⟩; replace hO := hO.call hb; clear hb)
          | ((with_reducible refine gAlloc (T := 30) ?_); refine own_alloc hO _ _ itz ?_; clear hO; intro bx ww hO)
          | ((with_reducible refine gBld (T := 30) ?_); refine own_bld (Tok.C ⟨x, 0, 0⟩) (by kernel_rfl) ?_)
          | ((with_reducible refine gLoad ?_); refine ld_rd (hO.rd HR.out) rfl (HX.out) (tA rfl) ?_)
          | ((with_reducible refine gStore ?_); first | (refine stX hO 0 rfl rfl rfl rfl rfl (tS rfl) ?_; clear hO; intro ww hO) | (refine stC hO 0 rfl rfl rfl (ltb rfl) rfl (tS rfl) ?_; clear hO; intro ww hO))
          | ((with_reducible refine gLoad (T := 30) ?_); rw [HBT.out] at hO; refine ldX hO 0 rfl rfl (tA rfl) (tS rfl) ?_)
          | ((with_reducible refine gLoad (T := 30) ?_); first | refine ldX hO 0 rfl rfl (tA rfl) (tS rfl) ?_ | refine ldX hO 1 rfl rfl (tA rfl) (tS rfl) ?_)
          | ((with_reducible refine gBuild (T := 22) ?_); refine own_build hO 22 1 _ etk tt.C (by omega) (by omega) (by kernel_rfl) rfl ?_; clear hO; intro g ww hO)
          | ((with_reducible refine gAppend ?_); refine own_append hO 2 _ _ 22 etk rfl rfl rfl (hO.rdAt 0 rfl) (tks_one [tt]) (S + 1) rfl (by simp [maxLen]; omega) (by omega) ?_; clear hO; intro a2 c2 ww hO)
          | (go_at_call 44; refine (HZ.out _).mono ?_; rintro e ww ⟨rfl, hb⟩; replace hO := hO.call hb; clear hb))
        have hm := HLen.out
        have h0 := H0.out
        go_roundg (n - (p + sz))
        case measure => omega
        case rel => exact ⟨p + sz, L ++ [tt], a2, S + 1, c2, rfl, HLen.out, by go_num, rfl, by rw [List.length_append, HSL.out]; rfl, by omega, HS.out, by rw [tks_append]; exact hO.tail.tail⟩
    · obtain rfl : p = n := by omega
      have HE : Hid (tokens bs = L) := by show _ = _; rw [hL, toksFrom_stop (by rw [HL.out]; exact Nat.le_refl _), List.append_nil]
      have hST : S = T := by rw [HSL.out, ← HTT.out, HE.out]
      subst hST
      clear hL
      go_wp2
      go_ret2
      exact ⟨aO, cO, rfl, hO.below, by rw [HE.out]; exact hO.row 0 rfl⟩
end Go.Proofs.Ytnkpjmcgecdkfaa
