/- Walks: match.size, common, find. -/
import Derived.Test.YtnkpjmcgecdkfaaMt
import Derived.Deep.CutRange
import Derived.Deep.CutBlock
namespace Go.Proofs.Ytnkpjmcgecdkfaa
open Go.RowKit Go.Own Go.Bv Go.Ord Go.Eq Go.Mt

set_option maxHeartbeats 1000000 in
theorem size_calls (t : Tok) (w : World) (h0 : 0 ≤ t.len) :
    Calls Try.prog 35 #[.agg t.C] w fun e w' => e = .returned (.int .i64 (t.size : Nat)) ∧ Below w.heap.size w w' := by
  have hO := Own.start w
  have HS : Hid ((t.size : Int) = if t.len = 0 then 1 else t.len) := by show _ = _; unfold Tok.size; split <;> simp; omega
  generalize hW : w = wn at hO ⊢
  clear hW w h0
  obtain ⟨lit, len, dist⟩ := t
  dsimp only at HS
  by_cases hz : len = 0
  · have d1 : (len == (0 : Int)) = true := by simp [hz]
    rw [HS.out, if_pos hz]
    clear hz HS
    go_enter Try.func35, Try.ntmps35
    go_wp2_with (first | ((with_reducible refine gBox ?_); first | (refine bxA hO rfl ?_; clear hO; intro b ww hO) | (refine bx1 hO rfl rfl ?_; clear hO; intro b ww hO)) | ((with_reducible refine gLoad ?_); first | refine ldX hO 0 rfl rfl (tA rfl) (tS rfl) ?_ | refine ldC hO 0 rfl rfl (tA rfl) rfl ?_))
    go_ret
    exact ⟨rfl, hO.below⟩
  · have d1 : (len == (0 : Int)) = false := by simp [hz]
    rw [HS.out, if_neg hz]
    clear hz HS
    go_enter Try.func35, Try.ntmps35
    go_wp2_with (first | ((with_reducible refine gBox ?_); first | (refine bxA hO rfl ?_; clear hO; intro b ww hO) | (refine bx1 hO rfl rfl ?_; clear hO; intro b ww hO)) | ((with_reducible refine gLoad ?_); first | refine ldX hO 0 rfl rfl (tA rfl) (tS rfl) ?_ | refine ldC hO 0 rfl rfl (tA rfl) rfl ?_))
    go_ret
    exact ⟨rfl, hO.below⟩

theorem com_not {b : List (BitVec 8)} {d at_ k : Nat} (h : ¬ (b.getD (at_ + k) 0 = b.getD (at_ + k - d) 0)) : ¬ agree b d at_ (k + 1) := fun h1 => h (h1 k (by omega)).2

set_option maxHeartbeats 2000000 in
set_option maxRecDepth 100000 in
theorem common_calls (a : Option Addr) (n cap : Nat) (bs : List (BitVec 8)) (f d at_ : Nat) (w : World) (hR : Rd w 1 a n cap (u8s bs)) (hd : 1 ≤ d) (hf : f + d = at_) (hat : at_ < n) (hn : n ≤ 65536) :
    Calls Try.prog 58 #[.slice a n cap, .int .i64 (f : Int), .int .i64 (at_ : Int)] w fun e w' => e = .returned (.int .i64 (com bs d at_ 18 : Nat)) ∧ Below w.heap.size w w' := by
  have hO := Own.start w
  have hlen : bs.length = n := by have := hR.len; rw [u8s_length] at this; omega
  obtain ⟨b0, off, rfl⟩ := hR.place (by omega)
  have HR := Lib.hid hR
  have HL := Lib.hid hlen
  have HF := Lib.hid hf
  clear hR hlen hf
  generalize hW : w = wn at hO HR ⊢
  clear hW w
  obtain ⟨R, hRR⟩ : ∃ R : Nat, com bs d at_ 18 = R := ⟨_, rfl⟩
  have HRR := Lib.hid hRR
  rw [hRR]
  clear hRR
  go_enter Try.func58, Try.ntmps58
  go_wp2
  go_loopg [6] 19 (fun m c wr => ∃ k : Nat, m = 19 - k ∧ k ≤ 18 ∧ c = .int .i64 (k : Int) ∧ agree bs d at_ k ∧ Own wn wr [])
  case atStart => exact ⟨0, rfl, by omega, rfl, agree_zero _ _ _, hO⟩
  case round =>
    obtain ⟨k, rfl, hk, rfl, hA, hO1⟩ := hrel
    clear hO
    have hO := hO1
    have HA := Lib.hid hA
    clear hO1 hA
    by_cases c1 : k < 18
    · have d1 : decide ((k : Int) < 18) = true := by simp; omega
      have e1 : IntKind.i64.wrap ((at_ : Int) + (k : Int)) = (at_ : Int) + (k : Int) := by rw [IntKind.wrap_i64]; omega
      by_cases c2 : at_ + k < n
      · have d2 : decide ((at_ : Int) + (k : Int) < (n : Int)) = true := by simp; omega
        have hxy : ∃ x y : BitVec 8, (u8s bs)[f + k]? = some (.int .u8 (x.toNat : Int)) ∧ (u8s bs)[at_ + k]? = some (.int .u8 (y.toNat : Int)) ∧ ((x.toNat : Int) = y.toNat → agree bs d at_ (k + 1)) ∧ (¬ (x.toNat : Int) = y.toNat → ¬ agree bs d at_ (k + 1)) := by
          have h1 : f + k < bs.length := by rw [HL.out]; have := HF.out; omega
          have h2 : at_ + k < bs.length := by rw [HL.out]; omega
          have hx : bs.getD (at_ + k) 0 = bs[at_ + k] := by rw [List.getD_eq_getElem?_getD, List.getElem?_eq_getElem h2]; rfl
          have hy : bs.getD (at_ + k - d) 0 = bs[f + k] := by
            rw [List.getD_eq_getElem?_getD, show at_ + k - d = f + k by have := HF.out; omega, List.getElem?_eq_getElem h1]; rfl
          refine ⟨bs[f + k], bs[at_ + k], u8s_get bs _ h1, u8s_get bs _ h2, fun h => agree_succ HA.out h2 (by rw [hx, hy]; exact BitVec.eq_of_toNat_eq (by omega)), fun h => com_not (by rw [hx, hy]; intro h2; exact h (by rw [h2]))⟩
        have e2 : IntKind.i64.wrap ((f : Int) + (k : Int)) = (f : Int) + (k : Int) := by have := HF.out; rw [IntKind.wrap_i64]; omega
        obtain ⟨x, y, hx, hy, hn, hm⟩ := hxy
        have HX := Lib.hid hx
        have HY := Lib.hid hy
        have HN := Lib.hid hn
        have HM := Lib.hid hm
        clear hx hy hn hm
        have cx : wr.cell? ⟨b0, off + (f + k), none⟩ = some (.int .u8 (x.toNat : Int)) := (((hO.rd HR.out).at' (by omega)).elim fun b' h => h.elim fun o' h => by
          simp only [Option.some.injEq, Addr.mk.injEq, and_true] at h
          obtain ⟨⟨rfl, rfl⟩, _, hc⟩ := h
          rw [hc _ (by have := HF.out; omega)]; exact HX.out)
        have cy : wr.cell? ⟨b0, off + (at_ + k), none⟩ = some (.int .u8 (y.toNat : Int)) := (((hO.rd HR.out).at' (by omega)).elim fun b' h => h.elim fun o' h => by
          simp only [Option.some.injEq, Addr.mk.injEq, and_true] at h
          obtain ⟨⟨rfl, rfl⟩, _, hc⟩ := h
          rw [hc _ (by omega)]; exact HY.out)
        have hfk : f + k < n := by have := HF.out; omega
        by_cases c3 : (x.toNat : Int) = y.toNat
        · have d3 : ((x.toNat : Int) == (y.toNat : Int)) = true := by simp [c3]
          have HN := Lib.hid (HN.out c3)
          clear HM c3
          go_wp2
          go_quiet (fail)
          all_goals go_wp2
          go_roundg (19 - (k + 1))
          case measure => omega
          case rel => exact ⟨k + 1, rfl, by omega, by go_num, HN.out, hO.drewN _⟩
        · have d3 : ((x.toNat : Int) == (y.toNat : Int)) = false := by simp [c3]
          have HM := Lib.hid (HM.out c3)
          have HE := Lib.hid (com_eq HA.out hk (.inr HM.out))
          clear HN c3
          go_wp2
          go_quiet (fail)
          all_goals go_wp2
          go_ret
          exact ⟨by rw [← HRR.out, HE.out]; rfl, (hO.drewN _).below⟩
      · have d2 : decide ((at_ : Int) + (k : Int) < (n : Int)) = false := by simp; omega
        have HE : Hid (com bs d at_ 18 = k) := com_eq HA.out hk (.inr fun h => c2 (by have := (h k (by omega)).1; rw [HL.out] at this; exact this))
        go_wp2
        go_quiet (fail)
        all_goals go_wp2
        go_ret
        exact ⟨by rw [← HRR.out, HE.out]; rfl, (hO.drewN _).below⟩
    · obtain rfl : k = 18 := by omega
      have HE : Hid (com bs d at_ 18 = 18) := com_eq HA.out hk (.inl rfl)
      go_wp2
      go_quiet (fail)
      all_goals go_wp2
      go_ret
      exact ⟨by rw [← HRR.out, HE.out]; rfl, (hO.drewN _).below⟩
end Go.Proofs.Ytnkpjmcgecdkfaa
