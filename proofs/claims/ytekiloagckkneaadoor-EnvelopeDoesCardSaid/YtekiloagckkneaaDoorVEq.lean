/- Walks: bytes.Equal, envelope's Same. -/
import Derived.Test.YtekiloagckkneaaDoorVt
import Derived.Test.YtekiloagckkneaaDoorPOctEq
namespace Go.Proofs.YtekiloagckkneaaDoor
open Go.RowKit Go.Own Go.Bv Go.Ord Go.Eq

set_option maxHeartbeats 1000000 in
theorem equal_calls (a1 a2 : Option Addr) (n1 c1 n2 c2 : Nat) (b1 b2 : List (BitVec 8)) (w : World) (h1 : Rd w 1 a1 n1 c1 (u8s b1)) (h2 : Rd w 1 a2 n2 c2 (u8s b2)) :
    Calls Tryd.prog 29 #[.slice a1 n1 c1, .slice a2 n2 c2] w fun e w' => e = .returned (.bool (decide (b1 = b2))) ∧ w = w' := by
  have r1 := run_bytes_string (P := Tryd.prog) w Tryd.underlying28 Tryd.underlying5 Tryd.underlying9 h1
  have r2 := run_bytes_string (P := Tryd.prog) w Tryd.underlying28 Tryd.underlying5 Tryd.underlying9 h2
  clear h1 h2
  go_enter Tryd.func29, Tryd.ntmps29
  go_wp2
  go_ret
  exact ⟨by rw [strB_beq]; rfl, rfl⟩

set_option maxHeartbeats 2000000 in
set_option maxRecDepth 100000 in
theorem samebox_calls (n m : BitVec 64) (a1 a2 : Option Addr) (n1 c1 n2 c2 : Nat) (u v : St) (b1 b2 : List (BitVec 8)) (w : World) (h1 : Rd w 1 a1 n1 c1 (u8s b1)) (h2 : Rd w 1 a2 n2 c2 (u8s b2)) :
    Calls Tryd.prog 15 #[.agg (boxC n (.slice a1 n1 c1) u), .agg (boxC m (.slice a2 n2 c2) v)] w fun e w' => e = .returned (.bool (decide (n = m) && decide (b1 = b2) && decide (u = v))) ∧ Below w.heap.size w w' := by
  have hO := Own.start w
  have HR1 := Lib.hid h1
  have HR2 := Lib.hid h2
  obtain ⟨B, hB⟩ : ∃ B : Bool, decide (u = v) = B := ⟨_, rfl⟩
  have HQ : Hid (∀ w, (binOp .eql 24 (.agg u.C) (.agg v.C)).run Tryd.prog w = .ok (.bool B) w) := fun w => by rw [eqW, hB]
  rw [hB]
  clear h1 h2 hB
  by_cases hn : n = m
  · subst hn
    have d1 : ((n.toNat : Int) == (n.toNat : Int)) = true := by simp
    by_cases hb : b1 = b2
    · subst hb
      have hd : decide (b1 = b1) = true := decide_eq_true rfl
      have hd2 : decide (n = n) = true := decide_eq_true rfl
      rw [hd, hd2]
      generalize hW : w = wn at hO HR1 HR2 ⊢
      clear hW w hd hd2
      go_enter Tryd.func15, Tryd.ntmps15
      go_wp2_with (first
        | ((with_reducible refine gBox ?_); first | (refine bxA hO rfl ?_; clear hO; intro b ww hO) | (refine bx1 hO rfl rfl ?_; clear hO; intro b ww hO))
        | ((with_reducible refine gG ?_); refine wpList_want rfl ?_)
        | ((with_reducible refine gLoad (T := 25) ?_); first | refine ldC hO 0 rfl rfl (tA rfl) rfl ?_ | refine ldC hO 1 rfl rfl (tA rfl) rfl ?_)
        | ((with_reducible refine gLoad (T := 28) ?_); first | refine ldC hO 0 rfl rfl (tA rfl) rfl ?_ | refine ldC hO 1 rfl rfl (tA rfl) rfl ?_)
        | ((with_reducible refine gLoad (T := 24) ?_); first | refine ldA hO 0 v.C rfl rfl (tA rfl) (tS rfl) rfl ?_ | refine ldA hO 1 u.C rfl rfl (tA rfl) (tS rfl) rfl ?_)
        | (go_at_call 29; refine (equal_calls _ _ _ _ _ _ b1 b1 _ (hO.rd HR1.out) (hO.rd HR2.out)).mono ?_; rw [decide_eq_true rfl]; rintro e ww ⟨rfl, rfl⟩)
        | ((with_reducible refine gEql (t := 24) ?_); refine eqD v_egW rfl rfl ?_; (with_reducible refine ⟨_, HQ.out, ?_⟩)))
      go_ret
      exact ⟨rfl, hO.below⟩
    · have hd : decide (b1 = b2) = false := decide_eq_false hb
      rw [hd, Bool.and_false, Bool.false_and]
      have HD := Lib.hid hd
      generalize hW : w = wn at hO HR1 HR2 ⊢
      clear hW w hd hb
      go_enter Tryd.func15, Tryd.ntmps15
      go_wp2_with (first
        | ((with_reducible refine gBox ?_); first | (refine bxA hO rfl ?_; clear hO; intro b ww hO) | (refine bx1 hO rfl rfl ?_; clear hO; intro b ww hO))
        | ((with_reducible refine gG ?_); refine wpList_want rfl ?_)
        | ((with_reducible refine gLoad (T := 25) ?_); first | refine ldC hO 0 rfl rfl (tA rfl) rfl ?_ | refine ldC hO 1 rfl rfl (tA rfl) rfl ?_)
        | ((with_reducible refine gLoad (T := 28) ?_); first | refine ldC hO 0 rfl rfl (tA rfl) rfl ?_ | refine ldC hO 1 rfl rfl (tA rfl) rfl ?_)
        | (go_at_call 29; refine (equal_calls _ _ _ _ _ _ b1 b2 _ (hO.rd HR1.out) (hO.rd HR2.out)).mono ?_; rw [HD.out]; rintro e ww ⟨rfl, rfl⟩))
      go_ret
      exact ⟨rfl, hO.below⟩
  · have d1 : ((n.toNat : Int) == (m.toNat : Int)) = false := by
      simp only [beq_eq_false_iff_ne, ne_eq]
      exact fun h => hn (BitVec.eq_of_toNat_eq (by omega))
    have hd : decide (n = m) = false := decide_eq_false hn
    rw [hd, Bool.false_and, Bool.false_and]
    generalize hW : w = wn at hO HR1 HR2 ⊢
    clear hW w hd hn
    go_enter Tryd.func15, Tryd.ntmps15
    go_wp2_with (first
      | ((with_reducible refine gBox ?_); first | (refine bxA hO rfl ?_; clear hO; intro b ww hO) | (refine bx1 hO rfl rfl ?_; clear hO; intro b ww hO))
      | ((with_reducible refine gG ?_); refine wpList_want rfl ?_)
      | ((with_reducible refine gLoad (T := 25) ?_); first | refine ldC hO 0 rfl rfl (tA rfl) rfl ?_ | refine ldC hO 1 rfl rfl (tA rfl) rfl ?_))
    go_ret
    exact ⟨rfl, hO.below⟩
end Go.Proofs.YtekiloagckkneaaDoor
