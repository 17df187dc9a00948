/- The walk of match.Find. -/
import Derived.Test.YtdhcmnblfkhndaaMs
namespace Go.Mt
def findT (n : Nat) (bs : List (BitVec 8)) (x : Int) : Tok := if 65536 < n then zT else if x < 0 ∨ (n : Int) ≤ x then zT else if 3 ≤ (found bs x.toNat).1 then ⟨0, (found bs x.toNat).1, (found bs x.toNat).2⟩ else zT
def findE (n : Nat) (bs : List (BitVec 8)) (x : Int) : Int := if 65536 < n then 3 else if x < 0 ∨ (n : Int) ≤ x then 1 else if 3 ≤ (found bs x.toNat).1 then 0 else 4
end Go.Mt
namespace Go.Proofs.Ytdhcmnblfkhndaa
open Go.RowKit Go.Own Go.Bv Go.Ord Go.Eq Go.Mt

set_option maxHeartbeats 2000000 in
set_option maxRecDepth 100000 in
theorem Find_calls (a : Option Addr) (n cap : Nat) (bs : List (BitVec 8)) (x : Int) (w : World) (hR : Rd w 1 a n cap (u8s bs)) :
    Calls Try.prog 12 #[.slice a n cap, .int .i64 x] w fun e w' => e = .returned (.tuple #[.agg (findT n bs x).C, .int .i64 (findE n bs x)]) ∧ Below w.heap.size w w' := by
  have hO := Own.start w
  have HR := Lib.hid hR
  clear hR
  by_cases h1 : 65536 < n
  · have d1 : decide ((65536 : Int) < (n : Int)) = true := by simp; omega
    have e1 : findT n bs x = zT := by unfold findT; rw [if_pos h1]
    have e2 : findE n bs x = 3 := by unfold findE; rw [if_pos h1]
    rw [e1, e2]
    clear e1 e2 h1 HR
    generalize hW : w = wn at hO ⊢
    clear hW w
    go_enter Try.func12, Try.ntmps12
    go_wp2_with (first
      | ((with_reducible refine gAlloc (T := 25) ?_); refine own_alloc hO _ _ itz ?_; clear hO; intro bx ww hO)
      | ((with_reducible refine gBld (T := 25) ?_); refine own_bld (Tok.C zT) (by kernel_rfl) ?_)
      | ((with_reducible refine gStore ?_); first | (refine stX hO 0 rfl rfl rfl rfl rfl (tS rfl) ?_; clear hO; intro ww hO) | (refine stC hO 0 rfl rfl rfl (ltb rfl) rfl (tS rfl) ?_; clear hO; intro ww hO)))
    refine bodyPost_ret (res_ct rfl _ _ bx 25 (Tok.C zT) (0,0) _ rfl (hO.blk 0 rfl) Try.underlying25 rfl (its' _)) rfl ⟨rfl, hO.below⟩
  have d1 : decide ((65536 : Int) < (n : Int)) = false := by simp; omega
  by_cases h2 : x < 0 ∨ (n : Int) ≤ x
  · have e1 : findT n bs x = zT := by unfold findT; rw [if_neg h1, if_pos h2]
    have e2 : findE n bs x = 1 := by unfold findE; rw [if_neg h1, if_pos h2]
    rw [e1, e2]
    by_cases h3 : x < 0
    · have d2 : decide (x < 0) = true := by simpa using h3
      clear e1 e2 h1 h2 h3 HR
      generalize hW : w = wn at hO ⊢
      clear hW w
      go_enter Try.func12, Try.ntmps12
      go_wp2_with (first
        | ((with_reducible refine gAlloc (T := 25) ?_); refine own_alloc hO _ _ itz ?_; clear hO; intro bx ww hO)
        | ((with_reducible refine gBld (T := 25) ?_); refine own_bld (Tok.C zT) (by kernel_rfl) ?_)
        | ((with_reducible refine gG ?_); refine wpList_want rfl ?_)
        | ((with_reducible refine gStore ?_); first | (refine stX hO 0 rfl rfl rfl rfl rfl (tS rfl) ?_; clear hO; intro ww hO) | (refine stC hO 0 rfl rfl rfl (ltb rfl) rfl (tS rfl) ?_; clear hO; intro ww hO)))
      refine bodyPost_ret (res_ct rfl _ _ bx 25 (Tok.C zT) (0,0) _ rfl (hO.blk 0 rfl) Try.underlying25 rfl (its' _)) rfl ⟨rfl, hO.below⟩
    · have d2 : decide (x < 0) = false := by simpa using h3
      have d3 : decide ((n : Int) ≤ x) = true := by simp; omega
      clear e1 e2 h1 h2 h3 HR
      generalize hW : w = wn at hO ⊢
      clear hW w
      go_enter Try.func12, Try.ntmps12
      go_wp2_with (first
        | ((with_reducible refine gAlloc (T := 25) ?_); refine own_alloc hO _ _ itz ?_; clear hO; intro bx ww hO)
        | ((with_reducible refine gBld (T := 25) ?_); refine own_bld (Tok.C zT) (by kernel_rfl) ?_)
        | ((with_reducible refine gG ?_); refine wpList_want rfl ?_)
        | ((with_reducible refine gStore ?_); first | (refine stX hO 0 rfl rfl rfl rfl rfl (tS rfl) ?_; clear hO; intro ww hO) | (refine stC hO 0 rfl rfl rfl (ltb rfl) rfl (tS rfl) ?_; clear hO; intro ww hO)))
      refine bodyPost_ret (res_ct rfl _ _ bx 25 (Tok.C zT) (0,0) _ rfl (hO.blk 0 rfl) Try.underlying25 rfl (its' _)) rfl ⟨rfl, hO.below⟩
  · have d2 : decide (x < 0) = false := by simp; omega
    have d3 : decide ((n : Int) ≤ x) = false := by simp; omega
    obtain ⟨p, rfl⟩ : ∃ p : Nat, x = (p : Int) := ⟨x.toNat, by omega⟩
    have d4 : decide (n ≤ p) = false := by simp; omega
    have hf := fun w h => find_calls a n cap bs p w h (by omega) (by omega)
    by_cases h3 : 3 ≤ (found bs p).1
    · have e1 : findT n bs (p : Int) = bestT bs p (min 256 p) := by unfold findT; rw [if_neg h1, if_neg h2, Int.toNat_natCast, if_pos h3]; rfl
      have e2 : findE n bs (p : Int) = 0 := by unfold findE; rw [if_neg h1, if_neg h2, Int.toNat_natCast, if_pos h3]
      rw [e1, e2]
      rw [decide_eq_true h3] at hf
      have HF := Lib.hid hf
      clear e1 e2 h1 h2 h3 hf
      generalize bestT bs p (min 256 p) = bt at *
      generalize hW : w = wn at hO HR ⊢
      clear hW w
      go_enter Try.func12, Try.ntmps12
      go_wp2_with (first
        | ((with_reducible refine gAlloc (T := 25) ?_); refine own_alloc hO _ _ itz ?_; clear hO; intro bx ww hO)
        | (go_at_call 23; refine (HF.out _ (hO.rd HR.out)).mono ?_; rintro e ww ⟨rfl, hb⟩; replace hO := hO.call hb; clear hb)
        | ((with_reducible refine gG ?_); refine wpList_want rfl ?_)
        | ((with_reducible refine gStore (T := 25) ?_); first | (refine stX hO 0 rfl rfl rfl rfl rfl (tS rfl) ?_; clear hO; intro ww hO) | (refine stX hO 1 rfl rfl rfl rfl rfl (tS rfl) ?_; clear hO; intro ww hO))
        | ((with_reducible refine gLoad (T := 25) ?_); refine ldX hO 0 rfl rfl (tA rfl) (tS rfl) ?_))
      refine bodyPost_ret (res_ct rfl _ _ _ 25 bt.C (0,0) _ rfl (hO.blk 1 rfl) Try.underlying25 rfl (its' _)) rfl ⟨rfl, hO.below⟩
    · have e1 : findT n bs (p : Int) = zT := by unfold findT; rw [if_neg h1, if_neg h2, Int.toNat_natCast, if_neg h3]
      have e2 : findE n bs (p : Int) = 4 := by unfold findE; rw [if_neg h1, if_neg h2, Int.toNat_natCast, if_neg h3]
      rw [e1, e2]
      rw [decide_eq_false h3] at hf
      have HF := Lib.hid hf
      clear e1 e2 h1 h2 h3 hf
      generalize bestT bs p (min 256 p) = bt at *
      generalize hW : w = wn at hO HR ⊢
      clear hW w
      go_enter Try.func12, Try.ntmps12
      go_wp2_with (first
        | ((with_reducible refine gAlloc (T := 25) ?_); refine own_alloc hO _ _ itz ?_; clear hO; intro bx ww hO)
        | (go_at_call 23; refine (HF.out _ (hO.rd HR.out)).mono ?_; rintro e ww ⟨rfl, hb⟩; replace hO := hO.call hb; clear hb)
        | ((with_reducible refine gG ?_); refine wpList_want rfl ?_)
        | ((with_reducible refine gBld (T := 25) ?_); refine own_bld (Tok.C zT) (by kernel_rfl) ?_)
        | ((with_reducible refine gStore (T := 25) ?_); first | (refine stX hO 0 rfl rfl rfl rfl rfl (tS rfl) ?_; clear hO; intro ww hO) | (refine stX hO 1 rfl rfl rfl rfl rfl (tS rfl) ?_; clear hO; intro ww hO)))
      refine bodyPost_ret (res_ct rfl _ _ _ 25 (Tok.C zT) (0,0) _ rfl (hO.blk 1 rfl) Try.underlying25 rfl (its' _)) rfl ⟨rfl, hO.below⟩
end Go.Proofs.Ytdhcmnblfkhndaa
