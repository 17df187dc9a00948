/- The walk of PermFewer. -/
import Derived.Test.YtjbbeflmfacmlaaDoorPSq
import Derived.Test.YtjbbeflmfacmlaaDoorH
namespace Go.Proofs.YtjbbeflmfacmlaaDoor
open Go.RowKit Go.Own Go.Bv Go.Ord Go.Eq

/-- a call of Squeeze in a list of blocks -/
theorem sq_add {w0 w w' : World} {L : List Res} {s : St} {n : Nat} {e : Ending} (hO : Own w0 w L) (h : SqRet w s n e w') :
    ∃ g C, e = .returned (.tuple #[.slice (some ⟨g, 0, none⟩) n n, .int .i64 0]) ∧ Own w0 w' (.blk g (.cells C 5 (0,0)) :: L) ∧ C.toList.take n = u8s (s.squeeze n) := by
  obtain ⟨g, C, he, hb, hg, hC⟩ := h
  exact ⟨g, C, he, hO.add hb hg, hC⟩

theorem few_rd1 {w : World} {g n m : Nat} {C : Array Value} {s : St} (hg : w.heap[g]? = some (.cells C 5 (0,0))) (hC : C.toList.take n = u8s (s.squeeze n)) (hn : n ≤ m) (hm : m ≤ maxLen) : Rd w 1 (some ⟨g, 0, none⟩) n m (u8s (s.squeeze n)) :=
  rd_blk_off hg 0 (by simpa using hC) (by rw [u8s_length, St.squeeze_length]) hn hm
theorem few_rd2 {w : World} {g n m : Nat} {C : Array Value} {s : St} (hg : w.heap[g]? = some (.cells C 5 (0,0))) (hC : C.toList.take (n + m) = u8s (s.squeeze (n + m))) (hm : n + m ≤ maxLen) : Rd w 1 (some ⟨g, 0, none⟩) n (n + m) (u8s (s.squeeze n)) := by
  refine few_rd1 hg ?_ (by omega) hm
  have := congrArg (List.take n) hC
  rw [List.take_take, Nat.min_eq_left (by omega), ← u8s_take, St.squeeze_take] at this
  exact this
theorem few_rd3 {w : World} {g n : Nat} {C : Array Value} {s : St} (hg : w.heap[g]? = some (.cells C 5 (0,0))) (hC : C.toList.take (n + 8) = u8s (s.squeeze (n + 8))) (hm : n ≤ maxLen) : Rd w 1 (some ⟨g, 8, none⟩) n n (u8s (s.perm.squeeze n)) := by
  refine rd_blk_off hg 8 ?_ (by rw [u8s_length, St.squeeze_length]) (Nat.le_refl _) hm
  have := congrArg (List.drop 8) hC
  rw [List.drop_take, ← u8s_drop, St.squeeze_drop, show n + 8 - 8 = n by omega] at this
  exact this

set_option maxHeartbeats 2000000 in
set_option maxRecDepth 100000 in
theorem fewer_some (s : St) (n m : Nat) (hz : ¬ n = 0) (hn : n < 256) (hm : m < 256) (w : World) (hT : Turns w) :
    Calls Tryd.prog 4 #[.agg s.C, .int .u8 (n : Int), .int .u8 (m : Int)] w fun e w' => e = .returned (.bool true) ∧ Below w.heap.size w w' := by
  have hO := Own.start w
  have HT := Lib.hid hT
  clear hT
  generalize hW : w = wn at hO HT ⊢
  clear hW w
  obtain ⟨p, hp⟩ : ∃ p, s.perm = p := ⟨_, rfl⟩
  have HP := Lib.hid hp
  clear hp
  have n0 : (0 : Int) ≤ (n : Int) := by omega
  have m0 : (0 : Int) ≤ (m : Int) := by omega
  have n1 : (n : Int) < 256 := by omega
  have m1 : (m : Int) < 256 := by omega
  have hsq1 := fun w hT => squeeze_calls s n (by omega) w hT
  have hsq2 := fun w hT => squeeze_calls s (n + m) (by omega) w hT
  have hsq3 := fun w hT => squeeze_calls p n (by omega) w hT
  have hsq4 := fun w hT => squeeze_calls s (n + 8) (by omega) w hT
  rw [show ((n + m : Nat) : Int) = (n : Int) + (m : Int) by omega] at hsq2
  rw [show ((n + 8 : Nat) : Int) = (n : Int) + 8 by omega] at hsq4
  have HS1 := Lib.hid hsq1
  have HS2 := Lib.hid hsq2
  have HS3 := Lib.hid hsq3
  have HS4 := Lib.hid hsq4
  clear hsq1 hsq2 hsq3 hsq4
  go_enter Tryd.func4, Tryd.ntmps4
  go_wp2_with (first
    | ((with_reducible refine gBox ?_); first | (refine bxA hO rfl ?_; clear hO; intro b ww hO) | (refine bx1 hO rfl rfl ?_; clear hO; intro b ww hO))
    | (go_at_call 8; refine (live_calls _).mono ?_; rintro e ww ⟨rfl, hb⟩; replace hO := hO.call hb; clear hb)
    | ((with_reducible refine gLoad ?_); first | refine ldX hO 0 rfl rfl (tA rfl) (tS rfl) ?_ | refine ldC hO 0 rfl rfl (tA rfl) rfl ?_ | refine ldX hO 1 rfl rfl (tA rfl) (tS rfl) ?_ | refine ldC hO 1 rfl rfl (tA rfl) rfl ?_ | refine ldX hO 2 rfl rfl (tA rfl) (tS rfl) ?_ | refine ldC hO 2 rfl rfl (tA rfl) rfl ?_ | refine ldX hO 3 rfl rfl (tA rfl) (tS rfl) ?_ | refine ldC hO 3 rfl rfl (tA rfl) rfl ?_ | refine ldX hO 4 rfl rfl (tA rfl) (tS rfl) ?_ | refine ldC hO 4 rfl rfl (tA rfl) rfl ?_)
    | (go_at_call 11; refine (perm_calls s _ (HT.out.own hO)).mono ?_; rw [HP.out]; rintro e ww ⟨rfl, hb⟩; replace hO := hO.call hb; clear hb)
    | (go_at_call 16; (with_reducible refine gCall #[.agg p.C, .int .i64 (n : Int)] ?_); refine (HS3.out _ (HT.out.own hO)).mono ?_; rintro e ww hs; obtain ⟨g3, C3, rfl, hO, hC⟩ := sq_add hO hs; clear hs; have HC3 := Lib.hid hC; clear hC)
    | (go_at_call 16; (with_reducible refine gCall #[.agg s.C, .int .i64 (n : Int)] ?_); refine (HS1.out _ (HT.out.own hO)).mono ?_; rintro e ww hs; obtain ⟨g1, C1, rfl, hO, hC⟩ := sq_add hO hs; clear hs; have HC1 := Lib.hid hC; clear hC)
    | (go_at_call 16; (with_reducible refine gCall #[.agg s.C, .int .i64 ((n : Int) + (m : Int))] ?_); refine (HS2.out _ (HT.out.own hO)).mono ?_; rintro e ww hs; obtain ⟨g2, C2, rfl, hO, hC⟩ := sq_add hO hs; clear hs; have HC2 := Lib.hid hC; clear hC)
    | (go_at_call 16; (with_reducible refine gCall #[.agg s.C, .int .i64 ((n : Int) + 8)] ?_); refine (HS4.out _ (HT.out.own hO)).mono ?_; rintro e ww hs; obtain ⟨g4, C4, rfl, hO, hC⟩ := sq_add hO hs; clear hs; have HC4 := Lib.hid hC; clear hC)
    | (go_at_call 13; (with_reducible refine gCall #[.slice (some ⟨g1, 0, none⟩) n n, _] ?_); refine (same_calls _ _ _ _ _ _ (s.squeeze n) (s.squeeze n) _ (few_rd1 (hO.blk 3 rfl) HC1.out (Nat.le_refl _) (by unfold maxLen; omega)) (few_rd2 (hO.blk 2 rfl) HC2.out (by unfold maxLen; omega))).mono ?_; rw [decide_eq_true rfl]; rintro e ww ⟨rfl, rfl⟩)
    | (go_at_call 13; (with_reducible refine gCall #[.slice (some ⟨g3, 0, none⟩) n n, _] ?_); refine (same_calls _ _ _ _ _ _ (p.squeeze n) (p.squeeze n) _ (few_rd1 (hO.blk 1 rfl) HC3.out (Nat.le_refl _) (by unfold maxLen; omega)) (by rw [← HP.out]; exact few_rd3 (hO.blk 0 rfl) HC4.out (by unfold maxLen; omega))).mono ?_; rw [decide_eq_true rfl]; rintro e ww ⟨rfl, rfl⟩))
  go_ret
  exact ⟨rfl, hO.below⟩

set_option maxHeartbeats 2000000 in
set_option maxRecDepth 100000 in
theorem fewer_none (s : St) (m : Nat) (hm : m < 256) (w : World) (hT : Turns w) :
    Calls Tryd.prog 4 #[.agg s.C, .int .u8 0, .int .u8 (m : Int)] w fun e w' => e = .returned (.bool true) ∧ Below w.heap.size w w' := by
  have hO := Own.start w
  have HT := Lib.hid hT
  clear hT
  generalize hW : w = wn at hO HT ⊢
  clear hW w
  obtain ⟨p, hp⟩ : ∃ p, s.perm = p := ⟨_, rfl⟩
  have HP := Lib.hid hp
  clear hp
  have m0 : (0 : Int) ≤ (m : Int) := by omega
  have m1 : (m : Int) < 256 := by omega
  have hsq1 : ∀ w (hT : Turns w), Calls Tryd.prog 16 #[.agg s.C, .int .i64 0] w (SqRet w s 0) := fun w hT => squeeze_calls s 0 (by omega) w hT
  have hsq2 := fun w hT => squeeze_calls s m (by omega) w hT
  have hsq3 : ∀ w (hT : Turns w), Calls Tryd.prog 16 #[.agg p.C, .int .i64 0] w (SqRet w p 0) := fun w hT => squeeze_calls p 0 (by omega) w hT
  have hsq4 : ∀ w (hT : Turns w), Calls Tryd.prog 16 #[.agg s.C, .int .i64 8] w (SqRet w s 8) := fun w hT => squeeze_calls s 8 (by omega) w hT
  have HS1 := Lib.hid hsq1
  have HS2 := Lib.hid hsq2
  have HS3 := Lib.hid hsq3
  have HS4 := Lib.hid hsq4
  clear hsq1 hsq2 hsq3 hsq4
  go_enter Tryd.func4, Tryd.ntmps4
  go_wp2_with (first
    | ((with_reducible refine gBox ?_); first | (refine bxA hO rfl ?_; clear hO; intro b ww hO) | (refine bx1 hO rfl rfl ?_; clear hO; intro b ww hO))
    | (go_at_call 8; refine (live_calls _).mono ?_; rintro e ww ⟨rfl, hb⟩; replace hO := hO.call hb; clear hb)
    | ((with_reducible refine gLoad ?_); first | refine ldX hO 0 rfl rfl (tA rfl) (tS rfl) ?_ | refine ldC hO 0 rfl rfl (tA rfl) rfl ?_ | refine ldX hO 1 rfl rfl (tA rfl) (tS rfl) ?_ | refine ldC hO 1 rfl rfl (tA rfl) rfl ?_ | refine ldX hO 2 rfl rfl (tA rfl) (tS rfl) ?_ | refine ldC hO 2 rfl rfl (tA rfl) rfl ?_ | refine ldX hO 3 rfl rfl (tA rfl) (tS rfl) ?_ | refine ldC hO 3 rfl rfl (tA rfl) rfl ?_ | refine ldX hO 4 rfl rfl (tA rfl) (tS rfl) ?_ | refine ldC hO 4 rfl rfl (tA rfl) rfl ?_)
    | (go_at_call 11; refine (perm_calls s _ (HT.out.own hO)).mono ?_; rw [HP.out]; rintro e ww ⟨rfl, hb⟩; replace hO := hO.call hb; clear hb)
    | (go_at_call 16; (with_reducible refine gCall #[.agg p.C, .int .i64 0] ?_); refine (HS3.out _ (HT.out.own hO)).mono ?_; rintro e ww hs; obtain ⟨g3, C3, rfl, hO, hC⟩ := sq_add hO hs; clear hs; have HC3 := Lib.hid hC; clear hC)
    | (go_at_call 16; (with_reducible refine gCall #[.agg s.C, .int .i64 0] ?_); refine (HS1.out _ (HT.out.own hO)).mono ?_; rintro e ww hs; obtain ⟨g1, C1, rfl, hO, hC⟩ := sq_add hO hs; clear hs; have HC1 := Lib.hid hC; clear hC)
    | (go_at_call 16; (with_reducible refine gCall #[.agg s.C, .int .i64 (m : Int)] ?_); refine (HS2.out _ (HT.out.own hO)).mono ?_; rintro e ww hs; obtain ⟨g2, C2, rfl, hO, hC⟩ := sq_add hO hs; clear hs; have HC2 := Lib.hid hC; clear hC)
    | (go_at_call 16; (with_reducible refine gCall #[.agg s.C, .int .i64 8] ?_); refine (HS4.out _ (HT.out.own hO)).mono ?_; rintro e ww hs; obtain ⟨g4, C4, rfl, hO, hC⟩ := sq_add hO hs; clear hs; have HC4 := Lib.hid hC; clear hC)
    | (go_at_call 13; refine (same_calls _ _ _ _ _ _ [] [] _ (rd_zero _ _ (by unfold maxLen; omega) (fun h => by simp at h)) (rd_zero _ _ (by unfold maxLen; omega) (fun h => by simp at h))).mono ?_; rw [decide_eq_true rfl]; rintro e ww ⟨rfl, rfl⟩))
  go_ret
  exact ⟨rfl, hO.below⟩

theorem fewer_walk (s : St) (n m : Nat) (hn : n < 256) (hm : m < 256) (w : World) (hT : Turns w) :
    Calls Tryd.prog 4 #[.agg s.C, .int .u8 (n : Int), .int .u8 (m : Int)] w fun e w' => e = .returned (.bool true) ∧ Below w.heap.size w w' := by
  by_cases hz : n = 0
  · subst hz
    exact fewer_none s m hm w hT
  · exact fewer_some s n m hz hn hm w hT
end Go.Proofs.YtjbbeflmfacmlaaDoor
