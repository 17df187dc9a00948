/- Walks: the writer's move, put. -/
import Derived.Test.YtnkpjmcgecdkfaaKe
import Derived.Test.YtnkpjmcgecdkfaaQr
namespace Go.Own
open Go.RowKit
/-- the first two -/
theorem Own.take2 {w0 w : World} {L : List Res} {x y : Res} (h : Own w0 w (x :: y :: L)) : Own w0 w [x, y] :=
  h.sub (List.Sublist.cons_cons _ (List.Sublist.cons_cons _ (List.nil_sublist _)))
/-- the first two the other way round -/
theorem Apart.symm {r s : Res} (h : Apart r s) : Apart s r := fun k h1 h2 => h k h2 h1
theorem Own.swap {w0 w : World} {L : List Res} {x y : Res} (h : Own w0 w (x :: y :: L)) : Own w0 w (y :: x :: L) := by
  refine ⟨h.below, fun r hr => h.mem r ?_, ?_⟩
  · simp only [List.mem_cons] at hr ⊢
    rcases hr with h | h | h
    · exact .inr (.inl h)
    · exact .inl h
    · exact .inr (.inr h)
  · obtain ⟨h1, h2⟩ := List.pairwise_cons.1 h.apart
    obtain ⟨h3, h4⟩ := List.pairwise_cons.1 h2
    refine List.pairwise_cons.2 ⟨fun s hs => ?_, List.pairwise_cons.2 ⟨fun s hs => h1 s (List.mem_cons_of_mem _ hs), h4⟩⟩
    rcases List.mem_cons.1 hs with rfl | hs
    · exact (h1 y (List.mem_cons_self)).symm
    · exact h3 s hs
end Go.Own
namespace Go.Proofs.Ytnkpjmcgecdkfaa
open Go.RowKit Go.Own Go.Bv Go.Ord Go.Eq Go.Opn Go.Pb

theorem eu8 : Elem Try.prog 34 5 (.int .u8 0) 1 1 := ⟨Try.underlying34, by kernel_rfl, rfl, by decide⟩
def wC (pS : Value) (low span kept many : Nat) (oS : Value) : Array Value := #[pS, .int .u64 (low : Int), .int .u32 (span : Int), .int .u8 (kept : Int), .int .i64 (many : Int), oS]

set_option maxHeartbeats 4000000 in
set_option maxRecDepth 100000 in
theorem move_calls {w0 w : World} {L : List Res} {wb : Nat} {pS : Value} {aO : Option Addr} {M cO : Nat} (hp1 : pS.oneCell' = true) (s : Go.Kc.Ws)
    (hO : Own w0 w (.blk wb (.cells (wC pS s.low s.span s.kept s.many (.slice aO M cO)) 80 (0,0)) :: .sl 5 1 (.slice aO M cO) M (u8s s.out) :: L))
    (hl : s.low < 8589934592) (hk : s.kept < 256) (hm1 : 1 ≤ s.many) (hM : M = s.out.length) (hmx : M + s.many ≤ 10000000) :
    Calls Try.prog 42 #[.pointer (some ⟨wb, 0, none⟩)] w fun e w' => ∃ a' c', e = .returned (.tuple #[]) ∧
      Own w0 w' (.blk wb (.cells (wC pS s.move.low s.span s.move.kept s.move.many (.slice a' s.move.out.length c')) 80 (0,0)) :: .sl 5 1 (.slice a' s.move.out.length c') s.move.out.length (u8s s.move.out) :: L) := by
  obtain ⟨p, low, span, kept, many, out⟩ := s
  dsimp only at *
  have HML := Lib.hid hM
  clear hM
  obtain ⟨R, hR⟩ : ∃ R, low % 16777216 = R := ⟨_, rfl⟩
  have hRl : R < 16777216 := by rw [← hR]; exact Nat.mod_lt _ (by decide)
  have e3 : bits .and .u64 (low : Int) 16777215 = (R : Int) := by
    have h := Go.bits_and_u64_nat low 16777215 (by omega) (by decide)
    rw [show (16777215 : Int) = ((16777215 : Nat) : Int) from rfl, h, show (16777215 : Nat) = 2 ^ 24 - 1 from rfl, Nat.and_two_pow_sub_one_eq_mod, show 2 ^ 24 = 16777216 from rfl, hR]
  have e4 : IntKind.u64.wrap ((R : Int) * 256) = (R : Int) * 256 := by simp [IntKind.wrap, IntKind.bits, IntKind.signed]; omega
  by_cases hc : low < 4278190080 ∨ 4294967296 ≤ low
  · obtain ⟨Kp, hKp⟩ : ∃ Kp, low / 16777216 % 256 = Kp := ⟨_, rfl⟩
    have e5 : IntKind.u8.wrap ((low : Int) / 16777216) = (Kp : Int) := by rw [IntKind.wrap_u8']; omega
    by_cases hq : low < 4294967296
    · have hlow : low < 4278190080 := by omega
      have HMV : Hid (Go.Kc.Ws.move ⟨p, low, span, kept, many, out⟩ = ⟨p, R * 256, span, Kp, 1, out ++ Go.Kc.fl kept 0 many⟩) := by
        show _ = _
        unfold Go.Kc.Ws.move
        rw [if_pos hc]
        dsimp only
        rw [hR, hKp, show low / 4294967296 = 0 by omega]
      rw [HMV.out]
      dsimp only
      rw [show (out ++ Go.Kc.fl kept 0 many).length = M + many by rw [List.length_append, Go.Kc.fl_length, HML.out]]
      have e1 : decide ((low : Int) < 4278190080) = true := by simp; omega
      have e2 : (low : Int) / 4294967296 = 0 := by omega
      go_enter Try.func42, Try.ntmps42
      go_wp2_with (first
        | ((with_reducible refine gG ?_); refine wpList_want rfl ?_)
        | ((with_reducible refine gLoad ?_); first | refine ldX hO 0 rfl rfl (tA rfl) (tS rfl) ?_ | refine ldC hO 0 rfl rfl (tA rfl) rfl ?_)
        | ((with_reducible refine gStore ?_); first | (refine stX hO 0 rfl rfl rfl rfl rfl (tS rfl) ?_; clear hO; intro ww hO) | (refine stC hO 0 rfl rfl rfl (ltb rfl) rfl (tS rfl) ?_; clear hO; intro ww hO)))
      go_loopg [3] many (fun m s3 wr => ∃ (j : Nat) (aJ : Option Addr) (cJ : Nat), m = many - j ∧ j ≤ many ∧ s3 = .int .u8 ((if j = 0 then kept else 255 : Nat) : Int) ∧
        Own w0 wr (.blk wb (.cells (wC pS low span kept (many - j) (.slice aJ (M + j) cJ)) 80 (0,0)) :: .sl 5 1 (.slice aJ (M + j) cJ) (M + j) (u8s (out ++ Go.Kc.fl kept 0 j)) :: L))
      case atStart => exact ⟨0, aO, cO, rfl, by omega, rfl, by rw [show out ++ Go.Kc.fl kept 0 0 = out from List.append_nil _]; exact hO⟩
      case round =>
        obtain ⟨j, aJ, cJ, rfl, hj, rfl, hO1⟩ := hrel
        clear hO
        have hO := hO1
        clear hO1
        obtain ⟨cv, hcv⟩ : ∃ cv : Nat, (if j = 0 then kept else 255) = cv := ⟨_, rfl⟩
        have HFL : Hid (u8s (out ++ Go.Kc.fl kept 0 (j + 1)) = u8s (out ++ Go.Kc.fl kept 0 j) ++ u8s [BitVec.ofNat 8 (cv + 0)]) := by
          show _ = _
          rw [← hcv]
          unfold u8s
          rw [← List.map_append, List.append_assoc]
          rfl
        have hcv2 : cv ≤ 255 := by rw [← hcv]; split <;> omega
        rw [hcv]
        obtain ⟨x, hx⟩ : ∃ x, BitVec.ofNat 8 (cv + 0) = x := ⟨_, rfl⟩
        have hxn : ((cv + 0 : Nat) : Int) % 256 = (x.toNat : Int) := by rw [← hx, BitVec.toNat_ofNat]; omega
        rw [hx] at HFL
        clear hcv hx
        by_cases c1 : j < many
        · obtain ⟨q, hq2⟩ : ∃ q, many - j = q + 1 := ⟨many - j - 1, by omega⟩
          rw [hq2] at hO
          have d1 : decide ((0 : Int) < ((q : Int) + 1)) = true := decide_eq_true (by omega)
          obtain rfl : cv = x.toNat := by omega
          have hx2 : IntKind.u8.wrap (x.toNat : Int) = (x.toNat : Int) := by rw [IntKind.wrap_u8']; omega
          clear hxn
          go_wp2_with (first
            | ((with_reducible refine gLoad ?_); first | refine ldX hO 0 rfl rfl (tA rfl) (tS rfl) ?_ | refine ldC hO 0 rfl rfl (tA rfl) rfl ?_ | refine ldX hO 1 rfl rfl (tA rfl) (tS rfl) ?_ | refine ldC hO 1 rfl rfl (tA rfl) rfl ?_)
            | ((with_reducible refine gBuild (T := 34) ?_); refine own_build hO 34 1 _ eu8 (u8s [x]).toArray (by omega) (by omega) (by kernel_rfl) rfl ?_; clear hO; intro g2 ww hO)
            | ((with_reducible refine gAppend ?_); refine own_append hO 2 _ _ 34 eu8 rfl rfl rfl (hO.rdAt 0 rfl) (u8s_one _) (M + (j + 1)) (by omega) (by simp [maxLen]; omega) (by omega) ?_; clear hO; intro a2 c2 ww hO)
            | ((with_reducible refine gStore ?_); first | (refine stX hO 0 rfl rfl rfl rfl rfl (tS rfl) ?_; clear hO; intro ww hO) | (refine stC hO 0 rfl rfl rfl (ltb rfl) rfl (tS rfl) ?_; clear hO; intro ww hO) | (refine stX hO 1 rfl rfl rfl rfl rfl (tS rfl) ?_; clear hO; intro ww hO) | (refine stC hO 1 rfl rfl rfl (ltb rfl) rfl (tS rfl) ?_; clear hO; intro ww hO)))
          go_roundg (many - (j + 1))
          case measure => omega
          case rel => exact ⟨j + 1, a2, c2, rfl, by omega, rfl, by rw [show many - (j + 1) = q by omega, HFL.out]; exact hO.tail⟩
        · obtain rfl : j = many := by omega
          rw [Nat.sub_self] at hO
          clear HFL
          go_wp2_with (first
            | ((with_reducible refine gLoad ?_); first | refine ldX hO 0 rfl rfl (tA rfl) (tS rfl) ?_ | refine ldC hO 0 rfl rfl (tA rfl) rfl ?_)
            | ((with_reducible refine gStore ?_); first | (refine stX hO 0 rfl rfl rfl rfl rfl (tS rfl) ?_; clear hO; intro ww hO) | (refine stC hO 0 rfl rfl rfl (ltb rfl) rfl (tS rfl) ?_; clear hO; intro ww hO)))
          refine bodyPost_end (results_none rfl _ _ _) rfl ?_
          exact ⟨aJ, cJ, rfl, hO⟩
    · have HMV : Hid (Go.Kc.Ws.move ⟨p, low, span, kept, many, out⟩ = ⟨p, R * 256, span, Kp, 1, out ++ Go.Kc.fl kept 1 many⟩) := by
        show _ = _
        unfold Go.Kc.Ws.move
        rw [if_pos hc]
        dsimp only
        rw [hR, hKp, show low / 4294967296 = 1 by omega]
      rw [HMV.out]
      dsimp only
      rw [show (out ++ Go.Kc.fl kept 1 many).length = M + many by rw [List.length_append, Go.Kc.fl_length, HML.out]]
      have e1 : decide ((low : Int) < 4278190080) = false := by simp; omega
      have e2 : (low : Int) / 4294967296 = 1 := by omega
      go_enter Try.func42, Try.ntmps42
      go_wp2_with (first
        | ((with_reducible refine gG ?_); refine wpList_want rfl ?_)
        | ((with_reducible refine gLoad ?_); first | refine ldX hO 0 rfl rfl (tA rfl) (tS rfl) ?_ | refine ldC hO 0 rfl rfl (tA rfl) rfl ?_)
        | ((with_reducible refine gStore ?_); first | (refine stX hO 0 rfl rfl rfl rfl rfl (tS rfl) ?_; clear hO; intro ww hO) | (refine stC hO 0 rfl rfl rfl (ltb rfl) rfl (tS rfl) ?_; clear hO; intro ww hO)))
      go_loopg [3] many (fun m s3 wr => ∃ (j : Nat) (aJ : Option Addr) (cJ : Nat), m = many - j ∧ j ≤ many ∧ s3 = .int .u8 ((if j = 0 then kept else 255 : Nat) : Int) ∧
        Own w0 wr (.blk wb (.cells (wC pS low span kept (many - j) (.slice aJ (M + j) cJ)) 80 (0,0)) :: .sl 5 1 (.slice aJ (M + j) cJ) (M + j) (u8s (out ++ Go.Kc.fl kept 1 j)) :: L))
      case atStart => exact ⟨0, aO, cO, rfl, by omega, rfl, by rw [show out ++ Go.Kc.fl kept 1 0 = out from List.append_nil _]; exact hO⟩
      case round =>
        obtain ⟨j, aJ, cJ, rfl, hj, rfl, hO1⟩ := hrel
        clear hO
        have hO := hO1
        clear hO1
        obtain ⟨cv, hcv⟩ : ∃ cv : Nat, (if j = 0 then kept else 255) = cv := ⟨_, rfl⟩
        have HFL : Hid (u8s (out ++ Go.Kc.fl kept 1 (j + 1)) = u8s (out ++ Go.Kc.fl kept 1 j) ++ u8s [BitVec.ofNat 8 (cv + 1)]) := by
          show _ = _
          rw [← hcv]
          unfold u8s
          rw [← List.map_append, List.append_assoc]
          rfl
        have hcv2 : cv ≤ 255 := by rw [← hcv]; split <;> omega
        rw [hcv]
        obtain ⟨x, hx⟩ : ∃ x, BitVec.ofNat 8 (cv + 1) = x := ⟨_, rfl⟩
        have hxn : ((cv + 1 : Nat) : Int) % 256 = (x.toNat : Int) := by rw [← hx, BitVec.toNat_ofNat]; omega
        rw [hx] at HFL
        clear hcv hx
        by_cases c1 : j < many
        · obtain ⟨q, hq2⟩ : ∃ q, many - j = q + 1 := ⟨many - j - 1, by omega⟩
          rw [hq2] at hO
          have d1 : decide ((0 : Int) < ((q : Int) + 1)) = true := decide_eq_true (by omega)
          have hx1 : IntKind.u8.wrap ((cv : Int) + 1) = (x.toNat : Int) := by rw [IntKind.wrap_u8']; omega
          go_wp2_with (first
            | ((with_reducible refine gLoad ?_); first | refine ldX hO 0 rfl rfl (tA rfl) (tS rfl) ?_ | refine ldC hO 0 rfl rfl (tA rfl) rfl ?_ | refine ldX hO 1 rfl rfl (tA rfl) (tS rfl) ?_ | refine ldC hO 1 rfl rfl (tA rfl) rfl ?_)
            | ((with_reducible refine gBuild (T := 34) ?_); refine own_build hO 34 1 _ eu8 (u8s [x]).toArray (by omega) (by omega) (by kernel_rfl) rfl ?_; clear hO; intro g2 ww hO)
            | ((with_reducible refine gAppend ?_); refine own_append hO 2 _ _ 34 eu8 rfl rfl rfl (hO.rdAt 0 rfl) (u8s_one _) (M + (j + 1)) (by omega) (by simp [maxLen]; omega) (by omega) ?_; clear hO; intro a2 c2 ww hO)
            | ((with_reducible refine gStore ?_); first | (refine stX hO 0 rfl rfl rfl rfl rfl (tS rfl) ?_; clear hO; intro ww hO) | (refine stC hO 0 rfl rfl rfl (ltb rfl) rfl (tS rfl) ?_; clear hO; intro ww hO) | (refine stX hO 1 rfl rfl rfl rfl rfl (tS rfl) ?_; clear hO; intro ww hO) | (refine stC hO 1 rfl rfl rfl (ltb rfl) rfl (tS rfl) ?_; clear hO; intro ww hO)))
          go_roundg (many - (j + 1))
          case measure => omega
          case rel => exact ⟨j + 1, a2, c2, rfl, by omega, rfl, by rw [show many - (j + 1) = q by omega, HFL.out]; exact hO.tail⟩
        · obtain rfl : j = many := by omega
          rw [Nat.sub_self] at hO
          clear HFL
          go_wp2_with (first
            | ((with_reducible refine gLoad ?_); first | refine ldX hO 0 rfl rfl (tA rfl) (tS rfl) ?_ | refine ldC hO 0 rfl rfl (tA rfl) rfl ?_)
            | ((with_reducible refine gStore ?_); first | (refine stX hO 0 rfl rfl rfl rfl rfl (tS rfl) ?_; clear hO; intro ww hO) | (refine stC hO 0 rfl rfl rfl (ltb rfl) rfl (tS rfl) ?_; clear hO; intro ww hO)))
          refine bodyPost_end (results_none rfl _ _ _) rfl ?_
          exact ⟨aJ, cJ, rfl, hO⟩
  · have HMV : Hid (Go.Kc.Ws.move ⟨p, low, span, kept, many, out⟩ = ⟨p, R * 256, span, kept, many + 1, out⟩) := by
      show _ = _
      unfold Go.Kc.Ws.move
      rw [if_neg hc]
      dsimp only
      rw [hR]
    rw [HMV.out]
    dsimp only
    have e1 : decide ((low : Int) < 4278190080) = false := by simp; omega
    have e2 : (low : Int) / 4294967296 = 0 := by omega
    obtain rfl := HML.out
    clear HML
    go_enter Try.func42, Try.ntmps42
    go_wp2_with (first
      | ((with_reducible refine gG ?_); refine wpList_want rfl ?_)
      | ((with_reducible refine gLoad ?_); first | refine ldX hO 0 rfl rfl (tA rfl) (tS rfl) ?_ | refine ldC hO 0 rfl rfl (tA rfl) rfl ?_)
      | ((with_reducible refine gStore ?_); first | (refine stX hO 0 rfl rfl rfl rfl rfl (tS rfl) ?_; clear hO; intro ww hO) | (refine stC hO 0 rfl rfl rfl (ltb rfl) rfl (tS rfl) ?_; clear hO; intro ww hO)))
    refine bodyPost_end (results_none rfl _ _ _) rfl ?_
    exact ⟨aO, cO, rfl, hO⟩
end Go.Proofs.Ytnkpjmcgecdkfaa
