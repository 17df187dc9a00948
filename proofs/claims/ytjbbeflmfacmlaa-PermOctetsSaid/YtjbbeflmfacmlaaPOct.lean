/- The walk of PermOctets. -/
import Derived.Test.YtjbbeflmfacmlaaP
namespace Go.Proofs.Ytjbbeflmfacmlaa
open Go.RowKit Go.Own Go.Bv Go.Ord Go.Eq

theorem eqW (s t : St) (w : World) : (binOp .eql 24 (.agg s.C) (.agg t.C)).run Try.prog w = .ok (.bool (decide (s = t))) w := by
  have := run_eql_u32 (P := Try.prog) w Try.underlying24 Try.underlying22 iu32s s.l t.l rfl rfl
  rw [show decide (s = t) = decide (s.l = t.l) from decide_eq_decide.2 St.l_inj.symm]
  exact this
theorem eqWT (s : St) (w : World) : (binOp .eql 24 (.agg s.C) (.agg s.C)).run Try.prog w = .ok (.bool true) w := by
  rw [eqW, decide_eq_true rfl]

set_option maxHeartbeats 2000000 in
set_option maxRecDepth 100000 in
theorem oct_walk (s : St) (a : Option Addr) (n cap : Nat) (bs : List (BitVec 8)) (w : World) (hR : Rd w 1 a n cap (u8s bs)) :
    Calls Try.prog 3 #[.agg s.C, .slice a n cap] w fun e w' => e = .returned (.bool true) ∧ Below w.heap.size w w' := by
  have hO := Own.start w
  have hlen : bs.length = n := by have := hR.len; rw [u8s_length] at this; omega
  have HR := Lib.hid hR
  have HL := Lib.hid hlen
  clear hR hlen
  generalize hW : w = wn at hO HR ⊢
  clear hW w
  by_cases h5 : n ≤ 100
  · have heq := eqWT s
    have hgrd : ∀ w, (eqGuard .eql 24 (.tmp 32) (.tmp 33) (.agg s.C) (.agg s.C)).run Try.prog w = .ok () w :=
      fun w => run_eqGuard_agg _ _ _ _ _ _ _ (by kernel_rfl)
    have HF : Hid (ofT s.octs = s ∧ ofE s.octs = 0) := ⟨by simp [ofT, St.octs_length, St.of_octs], by simp [ofE, St.octs_length]⟩
    by_cases h16 : n = 16
    · subst h16
      have HT : Hid (ofT bs = St.of bs) := by show _ = _; simp [ofT, HL.out]
      have HE : Hid (ofE bs = 0) := by show _ = _; simp [ofE, HL.out]
      have HB : Hid ((St.of bs).octs = bs) := St.octs_of HL.out
      generalize St.of bs = u at HT HB
      go_enter Try.func3, Try.ntmps3
      go_wp2_with (first
        | ((with_reducible refine gBox ?_); refine own_box hO 24 _ _ rfl ?_; clear hO; intro b w1 hO; replace hO : Own wn w1 [.blk b (.cells s.C 24 (0,0))] := hO)
        | (go_at_call 4; refine (live_calls _).mono ?_; rintro e w2 ⟨rfl, hb⟩; replace hO := hO.call hb; clear hb)
        | ((with_reducible refine gLoad ?_); refine own_loadAll 24 _ b s.C 24 (0,0) (by first | exact hO.blk 0 rfl | exact hO.blk 3 rfl) rfl iwu (iws' _) ?_)
        | ((with_reducible refine gLoadG ?_); refine wpList_want rfl ?_; refine own_loadAll 24 _ b s.C 24 (0,0) (by first | exact hO.blk 0 rfl | exact hO.blk 3 rfl) rfl iwu (iws' _) ?_)
        | ((with_reducible refine gLoad ?_); refine own_loadAll 24 _ b2 s.C 24 (0,0) (hO.blk 1 rfl) rfl iwu (iws' _) ?_)
        | ((with_reducible refine gLoadG ?_); refine wpList_want rfl ?_; refine own_loadAll 24 _ b2 s.C 24 (0,0) (hO.blk 1 rfl) rfl iwu (iws' _) ?_)
        | ((with_reducible refine gLoad ?_); refine own_loadAll 24 _ b3 u.C 24 (0,0) (hO.blk 0 rfl) rfl iwu (iws' _) ?_)
        | ((with_reducible refine gLoadG ?_); refine wpList_want rfl ?_; refine own_loadAll 24 _ b3 u.C 24 (0,0) (hO.blk 0 rfl) rfl iwu (iws' _) ?_)
        | (go_at_call 6; (with_reducible refine gCall #[.agg s.C] ?_); refine (octets_calls s _).mono ?_; rintro e w3 ⟨g, rfl, hb, hr⟩; replace hO := hO.addRow hb hr; clear hb hr)
        | (go_at_call 6; (with_reducible refine gCall #[.agg u.C] ?_); refine (octets_calls u _).mono ?_; rintro e w9 ⟨g2, rfl, hb, hr⟩; replace hO := hO.addRow hb hr; clear hb hr)
        | (go_at_call 5; (with_reducible refine gCall #[.slice (some ⟨g, 0, none⟩) _ _] ?_); refine (of_calls _ _ _ s.octs _ (hO.rdAt 0 rfl)).mono ?_; rw [HF.out.1, HF.out.2]; rintro e w4 ⟨rfl, hb⟩; replace hO := hO.call hb; clear hb)
        | (go_at_call 5; refine (of_calls _ _ _ bs _ (hO.rd HR.out)).mono ?_; rw [HT.out, HE.out]; rintro e w6 ⟨rfl, hb⟩; replace hO := hO.call hb; clear hb)
        | ((with_reducible refine gAlloc ?_); have _t := w6; refine own_alloc hO 24 _ iwz ?_; clear hO; intro b3 w7 hO)
        | ((with_reducible refine gAlloc ?_); refine own_alloc hO 24 _ iwz ?_; clear hO; intro b2 w5 hO)
        | ((with_reducible refine gStore ?_); refine own_storeAll hO 0 24 _ _ b3 St.zero.C u.C 24 _ rfl rfl rfl rfl (iws' _) rfl rfl ?_; clear hO; intro w8 hO)
        | ((with_reducible refine gStore ?_); refine own_storeAll hO 0 24 _ _ b2 St.zero.C s.C 24 _ rfl rfl rfl rfl (iws' _) rfl rfl ?_; clear hO; intro w8 hO)
        | (go_at_call 7; refine (same_calls _ _ _ _ _ _ bs bs _ (by have := hO.rdAt 0 rfl; rw [HB.out] at this; exact this) (hO.rd HR.out)).mono ?_; rw [decide_eq_true rfl]; rintro e w10 ⟨rfl, rfl⟩))
      go_ret
      exact ⟨rfl, hO.below⟩
    · have b0 : ((n : Int) == 16) = false := by simp; omega
      have HT : Hid (ofT bs = St.zero) := by show _ = _; unfold ofT; rw [if_neg]; rw [HL.out]; exact h16
      have HE : Hid (ofE bs = 2) := by show _ = _; unfold ofE; rw [if_neg]; rw [HL.out]; exact h16
      obtain ⟨u, hu⟩ : ∃ u, St.zero = u := ⟨_, rfl⟩
      rw [hu] at HT
      have HU := Lib.hid hu
      clear hu
      go_enter Try.func3, Try.ntmps3
      go_wp2_with (first
        | ((with_reducible refine gBox ?_); refine own_box hO 24 _ _ rfl ?_; clear hO; intro b w1 hO; replace hO : Own wn w1 [.blk b (.cells s.C 24 (0,0))] := hO)
        | (go_at_call 4; refine (live_calls _).mono ?_; rintro e w2 ⟨rfl, hb⟩; replace hO := hO.call hb; clear hb)
        | ((with_reducible refine gLoad ?_); refine own_loadAll 24 _ b s.C 24 (0,0) (by first | exact hO.blk 0 rfl | exact hO.blk 3 rfl) rfl iwu (iws' _) ?_)
        | ((with_reducible refine gLoadG ?_); refine wpList_want rfl ?_; refine own_loadAll 24 _ b s.C 24 (0,0) (by first | exact hO.blk 0 rfl | exact hO.blk 3 rfl) rfl iwu (iws' _) ?_)
        | ((with_reducible refine gLoad ?_); refine own_loadAll 24 _ b2 s.C 24 (0,0) (hO.blk 1 rfl) rfl iwu (iws' _) ?_)
        | ((with_reducible refine gLoadG ?_); refine wpList_want rfl ?_; refine own_loadAll 24 _ b2 s.C 24 (0,0) (hO.blk 1 rfl) rfl iwu (iws' _) ?_)
        | ((with_reducible refine gLoad ?_); refine own_loadAll 24 _ b3 u.C 24 (0,0) (hO.blk 0 rfl) rfl iwu (iws' _) ?_)
        | ((with_reducible refine gLoadG ?_); refine wpList_want rfl ?_; refine own_loadAll 24 _ b3 u.C 24 (0,0) (hO.blk 0 rfl) rfl iwu (iws' _) ?_)
        | (go_at_call 6; (with_reducible refine gCall #[.agg s.C] ?_); refine (octets_calls s _).mono ?_; rintro e w3 ⟨g, rfl, hb, hr⟩; replace hO := hO.addRow hb hr; clear hb hr)
        | (go_at_call 6; (with_reducible refine gCall #[.agg u.C] ?_); refine (octets_calls u _).mono ?_; rintro e w9 ⟨g2, rfl, hb, hr⟩; replace hO := hO.addRow hb hr; clear hb hr)
        | (go_at_call 5; (with_reducible refine gCall #[.slice (some ⟨g, 0, none⟩) _ _] ?_); refine (of_calls _ _ _ s.octs _ (hO.rdAt 0 rfl)).mono ?_; rw [HF.out.1, HF.out.2]; rintro e w4 ⟨rfl, hb⟩; replace hO := hO.call hb; clear hb)
        | (go_at_call 5; refine (of_calls _ _ _ bs _ (hO.rd HR.out)).mono ?_; rw [HT.out, HE.out]; rintro e w6 ⟨rfl, hb⟩; replace hO := hO.call hb; clear hb)
        | ((with_reducible refine gAlloc ?_); have _t := w6; refine own_alloc hO 24 _ iwz ?_; clear hO; intro b3 w7 hO)
        | ((with_reducible refine gAlloc ?_); refine own_alloc hO 24 _ iwz ?_; clear hO; intro b2 w5 hO)
        | ((with_reducible refine gStore ?_); refine own_storeAll hO 0 24 _ _ b3 St.zero.C u.C 24 _ rfl rfl rfl rfl (iws' _) rfl rfl ?_; clear hO; intro w8 hO)
        | ((with_reducible refine gStore ?_); refine own_storeAll hO 0 24 _ _ b2 St.zero.C s.C 24 _ rfl rfl rfl rfl (iws' _) rfl rfl ?_; clear hO; intro w8 hO))
      go_ret
      exact ⟨rfl, hO.below⟩
  · go_enter Try.func3, Try.ntmps3
    go_wp2_with (first
      | ((with_reducible refine gBox ?_); refine own_box hO 24 _ _ rfl ?_; clear hO; intro b w1 hO; replace hO : Own wn w1 [.blk b (.cells s.C 24 (0,0))] := hO)
      | (go_at_call 4; refine (live_calls _).mono ?_; rintro e w2 ⟨rfl, hb⟩; replace hO := hO.call hb; clear hb))
    go_ret
    exact ⟨rfl, hO.below⟩
end Go.Proofs.Ytjbbeflmfacmlaa
