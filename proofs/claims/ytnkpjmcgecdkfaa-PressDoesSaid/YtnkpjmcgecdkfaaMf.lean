/- Walks: match.find, Find. -/
import Derived.Test.YtnkpjmcgecdkfaaMc
import Derived.Test.YtnkpjmcgecdkfaaV
namespace Go.Own
open Go.RowKit Go.Ord
section
variable {P : Program} {ops : Array Oper} {Q : Exit → Act → World → Prop} {a : Act} {w : World} {rest : List Oper}
variable {d : Option Tmp} {ty : TypeId} {pos : String} {aft : Array Edge}
theorem gMin {args : Array Operand} {ats : Array TypeId} (h : wpList P ops Q ({ dst := d, op := .call { callee := .builtin .min, args := args, argTypes := ats }, type := ty, pos := pos, after := aft, guard := none } :: rest) a w) :
    wpList P ops Q ({ dst := d, op := .call { callee := .builtin .min, args := args, argTypes := ats }, type := ty, pos := pos, after := aft, guard := none } :: rest) a w := h
/-- 'min(x, y)' of two numbers: what it is, is told -/
theorem minV {x y : Operand} {ats : Array TypeId} {k k' : IntKind} {m n : Int} (r : Int) (hr : (if n < m then n else m) = r) (hx : a.eval x = .int k m) (hy : a.eval y = .int k' n)
    (h : wpList P ops Q rest (a.put d (.int k r)) w) :
    wpList P ops Q ({ dst := d, op := .call { callee := .builtin .min, args := #[x, y], argTypes := ats }, type := ty, pos := pos, after := aft, guard := none } :: rest) a w := by
  refine Go.Bva.step_val ?_ h
  subst hr
  simp [execOp, invoke, resolve, builtin, hx, hy, run_min_int2]
end
end Go.Own
namespace Go.Proofs.Ytnkpjmcgecdkfaa
open Go.RowKit Go.Own Go.Bv Go.Ord Go.Eq Go.Mt

def bestT (bs : List (BitVec 8)) (at_ k : Nat) : Tok := ⟨0, ((best bs at_ k).1 : Nat), ((best bs at_ k).2 : Nat)⟩

set_option maxHeartbeats 2000000 in
set_option maxRecDepth 100000 in
theorem find_calls (a : Option Addr) (n cap : Nat) (bs : List (BitVec 8)) (at_ : Nat) (w : World) (hR : Rd w 1 a n cap (u8s bs)) (hat : at_ < n) (hn : n ≤ 65536) :
    Calls Try.prog 37 #[.slice a n cap, .int .i64 (at_ : Int)] w fun e w' => e = .returned (.tuple #[.agg (bestT bs at_ (min 256 at_)).C, .bool (decide (3 ≤ (found bs at_).1))]) ∧ Below w.heap.size w w' := by
  have hO := Own.start w
  have HR := Lib.hid hR
  clear hR
  generalize hW : w = wn at hO HR ⊢
  clear hW w
  obtain ⟨M, hM⟩ : ∃ M, min 256 at_ = M := ⟨_, rfl⟩
  have HM := Lib.hid hM
  have hM256 : M ≤ 256 := by omega
  have HMI : Hid ((if (at_ : Int) < 256 then (at_ : Int) else 256) = (M : Int)) := by show _ = _; split <;> omega
  rw [hM]
  clear hM
  go_enter Try.func37, Try.ntmps37
  go_wp2_with (first
    | ((with_reducible refine gAlloc (T := 30) ?_); refine own_alloc hO _ _ itz ?_; clear hO; intro bx ww hO))
  go_loopg [6] 257 (fun m c wr => ∃ k : Nat, m = 257 - k ∧ k ≤ M ∧ c = .int .i64 ((k + 1 : Nat) : Int) ∧ Own wn wr [.blk bx (.cells (bestT bs at_ k).C 30 (0,0))])
  case atStart => exact ⟨0, rfl, by omega, rfl, hO⟩
  case round =>
    obtain ⟨k, rfl, hk, rfl, hO1⟩ := hrel
    clear hO
    have hO := hO1
    clear hO1
    by_cases c1 : k < M
    · have d1 : decide (((k : Int) + 1) ≤ (M : Int)) = true := by have := HM.out; simp; omega
      obtain ⟨R, hRR⟩ : ∃ R : Nat, com bs (k + 1) at_ 18 = R := ⟨_, rfl⟩
      have HB : Hid (best bs at_ (k + 1) = if (best bs at_ k).1 < R then (R, k + 1) else best bs at_ k) := by show _ = _; rw [← hRR]; rfl
      have hc := fun w h => common_calls a n cap bs (at_ - (k + 1)) (k + 1) at_ w h (by omega) (by have := HM.out; omega) hat hn
      rw [hRR] at hc
      have e1 : ((at_ - (k + 1) : Nat) : Int) = (at_ : Int) - ((k : Int) + 1) := by have := HM.out; omega
      rw [e1] at hc
      have HC := Lib.hid hc
      clear hc hRR e1
      have e2 : wrap64 ((at_ : Int) - ((k : Int) + 1)) = (at_ : Int) - ((k : Int) + 1) := by unfold wrap64; have := HM.out; omega
      unfold bestT at hO
      obtain ⟨q, hq⟩ : ∃ q, (best bs at_ k).1 = q := ⟨_, rfl⟩
      obtain ⟨r, hr⟩ : ∃ r, (best bs at_ k).2 = r := ⟨_, rfl⟩
      have HB1 : Hid (bestT bs at_ (k + 1) = if q < R then ⟨0, (R : Int), ((k + 1 : Nat) : Int)⟩ else ⟨0, (q : Int), (r : Int)⟩) := by
        show _ = _
        unfold bestT
        rw [HB.out, hq]
        split
        · rfl
        · rw [hq, hr]
      rw [hq, hr] at hO
      clear hq hr HB
      by_cases c2 : q < R
      · have d2 : decide (q < R) = true := by simp; omega
        have HB2 : Hid (bestT bs at_ (k + 1) = ⟨0, (R : Int), ((k + 1 : Nat) : Int)⟩) := by show _ = _; rw [HB1.out, if_pos c2]
        clear HB1
        go_wp2_with (first
          | (go_at_call 58; refine (HC.out _ (hO.rd HR.out)).mono ?_; rintro e ww ⟨rfl, hb⟩; replace hO := hO.call hb; clear hb)
          | ((with_reducible refine gBld (T := 30) ?_); refine own_bld (Tok.C ⟨0, (R : Int), ((k : Int) + 1)⟩) (by kernel_rfl) ?_)
          | ((with_reducible refine gMin ?_); refine minV _ HMI.out rfl rfl ?_)
          | ((with_reducible refine gLoad ?_); first | refine ldX hO 0 rfl rfl (tA rfl) (tS rfl) ?_ | refine ldC hO 0 rfl rfl (tA rfl) rfl ?_)
          | ((with_reducible refine gStore ?_); first | (refine stX hO 0 rfl rfl rfl rfl rfl (tS rfl) ?_; clear hO; intro ww hO) | (refine stC hO 0 rfl rfl rfl (ltb rfl) rfl (tS rfl) ?_; clear hO; intro ww hO)))
        go_roundg (257 - (k + 1))
        case measure => omega
        case rel => exact ⟨k + 1, rfl, by omega, by go_num, by rw [HB2.out]; exact hO⟩
      · have d2 : decide (q < R) = false := by simp; omega
        have HB2 : Hid (bestT bs at_ (k + 1) = ⟨0, (q : Int), (r : Int)⟩) := by show _ = _; rw [HB1.out, if_neg c2]
        clear HB1
        go_wp2_with (first
          | (go_at_call 58; refine (HC.out _ (hO.rd HR.out)).mono ?_; rintro e ww ⟨rfl, hb⟩; replace hO := hO.call hb; clear hb)
          | ((with_reducible refine gMin ?_); refine minV _ HMI.out rfl rfl ?_)
          | ((with_reducible refine gLoad ?_); first | refine ldX hO 0 rfl rfl (tA rfl) (tS rfl) ?_ | refine ldC hO 0 rfl rfl (tA rfl) rfl ?_)
          | ((with_reducible refine gStore ?_); first | (refine stX hO 0 rfl rfl rfl rfl rfl (tS rfl) ?_; clear hO; intro ww hO) | (refine stC hO 0 rfl rfl rfl (ltb rfl) rfl (tS rfl) ?_; clear hO; intro ww hO)))
        go_roundg (257 - (k + 1))
        case measure => omega
        case rel => exact ⟨k + 1, rfl, by omega, by go_num, by rw [HB2.out]; exact hO⟩
    · obtain rfl : k = M := by omega
      have HF : Hid ((best bs at_ k).1 = (found bs at_).1) := by show _ = _; unfold found; rw [HM.out]
      unfold bestT at hO
      obtain ⟨q, hq⟩ : ∃ q, (best bs at_ k).1 = q := ⟨_, rfl⟩
      obtain ⟨r, hr⟩ : ∃ r, (best bs at_ k).2 = r := ⟨_, rfl⟩
      rw [hq, hr] at hO
      have HQ : Hid (bestT bs at_ k = ⟨0, (q : Int), (r : Int)⟩) := by show _ = _; unfold bestT; rw [hq, hr]
      have HF2 : Hid ((found bs at_).1 = q) := by show _ = _; rw [← HF.out, hq]
      clear hq hr HF
      go_wp2_with (first
        | ((with_reducible refine gMin ?_); refine minV _ HMI.out rfl rfl ?_)
        | ((with_reducible refine gLoad ?_); first | refine ldX hO 0 rfl rfl (tA rfl) (tS rfl) ?_ | refine ldC hO 0 rfl rfl (tA rfl) rfl ?_)
        | ((with_reducible refine gStore ?_); first | (refine stX hO 0 rfl rfl rfl rfl rfl (tS rfl) ?_; clear hO; intro ww hO) | (refine stC hO 0 rfl rfl rfl (ltb rfl) rfl (tS rfl) ?_; clear hO; intro ww hO)))
      refine bodyPost_ret (res_ct rfl _ _ bx 30 (Tok.C ⟨0, (q : Int), (r : Int)⟩) (0,0) _ rfl (hO.blk 0 rfl) Try.underlying30 rfl (its' _)) rfl ⟨?_, hO.below⟩
      rw [HQ.out, HF2.out]
      simp
      omega
end Go.Proofs.Ytnkpjmcgecdkfaa
