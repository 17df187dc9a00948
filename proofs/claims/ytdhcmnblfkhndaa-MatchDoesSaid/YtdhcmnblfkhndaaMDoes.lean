/- The walk of MatchDoes. -/
import Derived.Test.YtdhcmnblfkhndaaMq
namespace Go.Own
open Go.RowKit Go.Ord Go.Bv
section
variable {P : Program} {ops : Array Oper} {Q : Exit → Act → World → Prop} {a : Act} {w : World} {rest : List Oper}
variable {d : Option Tmp} {ty : TypeId} {pos : String} {aft : Array Edge}
/-- 'string(b)' -/
theorem cnv_str {s t e : TypeId} {x : Operand} {ao : Option Addr} {n cap : Nat} {bs : List (BitVec 8)} (hR : Rd w 1 ao n cap (u8s bs)) (hs : P.underlying s = some (.slice e)) (he : P.underlying e = some (.int .u8)) (ht : P.underlying t = some .string) (hx : a.eval x = .slice ao n cap)
    (h : wpList P ops Q rest (a.put d (.string (strB bs))) w) :
    wpList P ops Q ({ dst := d, op := .convert s t x, type := ty, pos := pos, after := aft, guard := none } :: rest) a w :=
  Go.Bva.step_val (run_value hx (Go.Eq.run_bytes_string w hs he ht hR)) h
end
end Go.Own
namespace Go.Proofs.Ytdhcmnblfkhndaa
open Go.RowKit Go.Own Go.Bv Go.Ord Go.Eq Go.Mt

theorem rd_nil3 (w : World) : Rd w 3 none 0 0 (tks []) := ⟨rfl, Nat.le_refl _, by simp [maxLen], fun _ => ⟨rfl, rfl⟩, fun h => absurd (Nat.zero_mul 3) h⟩
theorem tokens_long (a : Option Addr) (n cap : Nat) (w : World) (hn : 65536 < n) :
    Calls Try.prog 10 #[.slice a n cap] w fun e w' => e = .returned (.tuple #[.slice none 0 0, .int .i64 3]) ∧ w = w' := by
  have d1 : decide ((65536 : Int) < (n : Int)) = true := by simp; omega
  go_enter Try.func10, Try.ntmps10
  go_wp2
  apply wp_scope_straight
  go_wp2
  simp only [Exit.noGoto_ret]
  go_ret2
  exact ⟨rfl, rfl⟩
theorem rtokens_long (a : Option Addr) (n cap : Nat) (w : World) (hn : 65536 < n) :
    Calls Try.prog 14 #[.slice a n cap] w fun e w' => e = .returned (.tuple #[.slice none 0 0, .int .i64 3]) ∧ w = w' := by
  have d1 : decide ((65536 : Int) < (n : Int)) = true := by simp; omega
  go_enter Try.func14, Try.ntmps14
  go_wp2
  go_ret2
  exact ⟨rfl, rfl⟩

set_option maxHeartbeats 4000000 in
set_option maxRecDepth 100000 in
theorem mdoes_walk (a : Option Addr) (n c : Nat) (bs : List (BitVec 8)) (x : Int) (w : World) (hR : Rd w 1 a n c (u8s bs)) :
    Calls Try.prog 4 #[.slice a n c, .int .i64 x] w fun e w' => e = .returned (.bool true) ∧ Below w.heap.size w w' := by
  have hO := Own.start w
  by_cases h2 : 200 < n ∧ n ≤ 65536
  · have d1 : decide ((200 : Int) < (n : Int)) = true := by simp; omega
    have d2 : decide ((n : Int) ≤ 65536) = true := by simp; omega
    clear hR
    generalize hW : w = wn at hO ⊢
    clear hW w
    go_enter Try.func4, Try.ntmps4
    go_wp2_with (first
      | ((with_reducible refine gG ?_); refine wpList_want rfl ?_)
      | (go_at_call 9; refine (live_calls _).mono ?_; rintro e ww ⟨rfl, hb⟩; replace hO := hO.call hb; clear hb))
    go_ret
    exact ⟨rfl, hO.below⟩
  by_cases h7 : 70000 < n
  · have d1 : decide ((200 : Int) < (n : Int)) = true := by simp; omega
    have d2 : decide ((n : Int) ≤ 65536) = false := by simp; omega
    have d3 : decide ((70000 : Int) < (n : Int)) = true := by simp; omega
    clear hR
    generalize hW : w = wn at hO ⊢
    clear hW w
    go_enter Try.func4, Try.ntmps4
    go_wp2_with (first
      | ((with_reducible refine gG ?_); refine wpList_want rfl ?_)
      | (go_at_call 9; refine (live_calls _).mono ?_; rintro e ww ⟨rfl, hb⟩; replace hO := hO.call hb; clear hb))
    go_ret
    exact ⟨rfl, hO.below⟩
  have d3 : decide ((70000 : Int) < (n : Int)) = false := by simp; omega
  have HR := Lib.hid hR
  obtain ⟨T, hT⟩ : ∃ T, findT n bs x = T := ⟨_, rfl⟩
  obtain ⟨E, hE⟩ : ∃ E, findE n bs x = E := ⟨_, rfl⟩
  have hf1 := fun w h => Find_calls a n c bs x w h
  have hf2 := fun w h => rFind_calls a n c bs x w h
  rw [hT, hE] at hf1 hf2
  have HF1 := Lib.hid hf1
  have HF2 := Lib.hid hf2
  have HEQ : Hid (∀ w, (binOp .eql 25 (.agg T.C) (.agg T.C)).run Try.prog w = .ok (.bool true) w) := fun w => by rw [eqTok, decide_eq_true rfl]
  clear hR hT hE hf1 hf2
  by_cases h6 : 65536 < n
  · have d1 : decide ((200 : Int) < (n : Int)) = true := by simp; omega
    have d2 : decide ((n : Int) ≤ 65536) = false := by simp; omega
    have HS := Lib.hid (fun w => by have := samet_calls none none 0 0 0 0 [] [] w (rd_nil3 w) (rd_nil3 w); rw [decide_eq_true rfl] at this; exact this)
    generalize hW : w = wn at hO HR ⊢
    clear hW w
    go_enter Try.func4, Try.ntmps4
    go_wp2_with (first
      | ((with_reducible refine gG ?_); refine wpList_want rfl ?_)
      | ((with_reducible refine Go.Bva.gCnv ?_); refine cnv_str (hO.rd HR.out) Try.underlying23 Try.underlying5 Try.underlying9 rfl ?_)
      | ((with_reducible refine gAlloc (T := 25) ?_); refine own_alloc hO _ _ itz ?_; clear hO; intro bx ww hO)
      | ((with_reducible refine gStore ?_); first | (refine stX hO 0 rfl rfl rfl rfl rfl (tS rfl) ?_; clear hO; intro ww hO) | (refine stC hO 0 rfl rfl rfl (ltb rfl) rfl (tS rfl) ?_; clear hO; intro ww hO))
      | ((with_reducible refine gLoad ?_); first | refine ldX hO 0 rfl rfl (tA rfl) (tS rfl) ?_ | refine ldC hO 0 rfl rfl (tA rfl) rfl ?_ | refine ldX hO 1 rfl rfl (tA rfl) (tS rfl) ?_ | refine ldC hO 1 rfl rfl (tA rfl) rfl ?_)
      | ((with_reducible refine gEql (t := 25) ?_); refine eqD t_egT rfl rfl ?_; (with_reducible refine ⟨_, HEQ.out, ?_⟩))
      | (go_at_call 12; refine (HF1.out _ (hO.rd HR.out)).mono ?_; rintro e ww ⟨rfl, hb⟩; replace hO := hO.call hb; clear hb)
      | (go_at_call 13; refine (HF2.out _ (hO.rd HR.out)).mono ?_; rintro e ww ⟨rfl, hb⟩; replace hO := hO.call hb; clear hb)
      | (go_at_call 10; refine (tokens_long a n c _ h6).mono ?_; rintro e ww ⟨rfl, rfl⟩)
      | (go_at_call 14; refine (rtokens_long a n c _ h6).mono ?_; rintro e ww ⟨rfl, rfl⟩)
      | (go_at_call 11; refine (HS.out _).mono ?_; rintro e ww ⟨rfl, hb⟩; replace hO := hO.call hb; clear hb)
      | (go_at_call 9; refine (live_calls _).mono ?_; rintro e ww ⟨rfl, hb⟩; replace hO := hO.call hb; clear hb))
    go_ret
    exact ⟨rfl, hO.below⟩
  · have d1 : decide ((200 : Int) < (n : Int)) = false := by simp; omega
    obtain ⟨M, hM⟩ : ∃ M, (tokens bs).length = M := ⟨_, rfl⟩
    have HT1 := Lib.hid (fun w h => tokens_callsN a n c bs M hM w h (by omega))
    have HT2 := Lib.hid (fun w h => rtokens_calls a n c bs M hM w h (by omega))
    have HS := Lib.hid (fun (a1 a2 : Option Addr) (c1 c2 : Nat) w h1 h2 => by have := samet_calls a1 a2 M c1 M c2 (tokens bs) (tokens bs) w h1 h2; rw [decide_eq_true rfl] at this; exact this)
    generalize tokens bs = L at *
    clear hM
    generalize hW : w = wn at hO HR ⊢
    clear hW w
    go_enter Try.func4, Try.ntmps4
    go_wp2_with (first
      | ((with_reducible refine gG ?_); refine wpList_want rfl ?_)
      | ((with_reducible refine Go.Bva.gCnv ?_); refine cnv_str (hO.rd HR.out) Try.underlying23 Try.underlying5 Try.underlying9 rfl ?_)
      | ((with_reducible refine gAlloc (T := 25) ?_); refine own_alloc hO _ _ itz ?_; clear hO; intro bx ww hO)
      | ((with_reducible refine gStore ?_); first | (refine stX hO 0 rfl rfl rfl rfl rfl (tS rfl) ?_; clear hO; intro ww hO) | (refine stC hO 0 rfl rfl rfl (ltb rfl) rfl (tS rfl) ?_; clear hO; intro ww hO))
      | ((with_reducible refine gLoad ?_); first | refine ldX hO 0 rfl rfl (tA rfl) (tS rfl) ?_ | refine ldC hO 0 rfl rfl (tA rfl) rfl ?_ | refine ldX hO 1 rfl rfl (tA rfl) (tS rfl) ?_ | refine ldC hO 1 rfl rfl (tA rfl) rfl ?_ | refine ldX hO 2 rfl rfl (tA rfl) (tS rfl) ?_ | refine ldC hO 2 rfl rfl (tA rfl) rfl ?_ | refine ldX hO 3 rfl rfl (tA rfl) (tS rfl) ?_ | refine ldC hO 3 rfl rfl (tA rfl) rfl ?_)
      | ((with_reducible refine gEql (t := 25) ?_); refine eqD t_egT rfl rfl ?_; (with_reducible refine ⟨_, HEQ.out, ?_⟩))
      | (go_at_call 12; refine (HF1.out _ (hO.rd HR.out)).mono ?_; rintro e ww ⟨rfl, hb⟩; replace hO := hO.call hb; clear hb)
      | (go_at_call 13; refine (HF2.out _ (hO.rd HR.out)).mono ?_; rintro e ww ⟨rfl, hb⟩; replace hO := hO.call hb; clear hb)
      | (go_at_call 10; refine (HT1.out _ (hO.rd HR.out)).mono ?_; rintro e ww ⟨aX, cX, rfl, hb, hr⟩; replace hO := hO.addRow hb hr; clear hb hr)
      | (go_at_call 14; refine (HT2.out _ (hO.rd HR.out)).mono ?_; rintro e ww ⟨aY, cY, rfl, hb, hr⟩; replace hO := hO.addRow hb hr; clear hb hr)
      | (go_at_call 11; refine (HS.out _ _ _ _ _ (rd_clip (hO.rdAt 1 rfl)) (hO.rdAt 0 rfl)).mono ?_; rintro e ww ⟨rfl, hb⟩; replace hO := hO.call hb; clear hb)
      | (go_at_call 9; refine (live_calls _).mono ?_; rintro e ww ⟨rfl, hb⟩; replace hO := hO.call hb; clear hb))
    go_ret
    exact ⟨rfl, hO.below⟩
end Go.Proofs.Ytdhcmnblfkhndaa
