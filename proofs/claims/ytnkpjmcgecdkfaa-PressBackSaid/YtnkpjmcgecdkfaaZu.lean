/- Walks: the unpacker's bit, number, token; Unpack. -/
import Derived.Test.YtnkpjmcgecdkfaaZv
import Derived.Test.YtnkpjmcgecdkfaaZp
import Derived.Test.YtnkpjmcgecdkfaaKi
namespace Go.Proofs.Ytnkpjmcgecdkfaa
open Go.RowKit Go.Own Go.Bv Go.Ord Go.Eq Go.Opn Go.Pb Go.Mt

def uC (rb : Nat) (bad : Bool) : Array Value := #[.pointer (some ⟨rb, 0, none⟩), .int .i64 (if bad then 2 else 0)]
/-- what an unpacker stands on -/
def uL (rb ub : Nat) (aB : Option Addr) (m cB : Nat) (aP : Option Addr) (cP : Nat) (b : List (BitVec 8)) (s : Go.Pz.Us) (L : List Res) : List Res :=
  .blk rb (.cells (rC (.slice aP 528 cP) (.slice aB m cB) s.r.used s.r.span s.r.code) 91 (0,0)) :: .sl 5 1 (.slice aB m cB) m (u8s b) :: .sl 3 1 (.slice aP 528 cP) 528 (i64s s.r.p) :: .blk ub (.cells (uC rb s.bad) 56 (0,0)) :: L

set_option maxHeartbeats 4000000 in
set_option maxRecDepth 100000 in
theorem ubit_calls {w0 w : World} {L : List Res} {rb ub : Nat} {aB : Option Addr} {m cB : Nat} {aP : Option Addr} {cP : Nat} (b : List (BitVec 8)) (s : Go.Pz.Us) (hr : Go.Kc.Rok 528 b s.r) (hb : b.length = m) (hm : m ≤ 10000000) (a : Nat) (ha : a < 528) (x : Nat) (t : Go.Pz.Us) (hx : (Go.Pz.ub b s a).1.toNat = x) (ht : (Go.Pz.ub b s a).2 = t)
    (hO : Own w0 w (uL rb ub aB m cB aP cP b s L)) :
    Calls Try.prog 52 #[.pointer (some ⟨ub, 0, none⟩), .int .i64 (a : Int)] w fun e w' => e = .returned (.int .i64 (x : Int)) ∧ Own w0 w' (uL rb ub aB m cB aP cP b t L) := by
  obtain ⟨r, bad⟩ := s
  cases bad
  · have hux : Go.Pz.ub b ⟨r, false⟩ a = if Go.Kc.nxtE 528 b r (a : Int) = 0 then (r.set a, ⟨r.next b a, false⟩) else (false, ⟨r, true⟩) := rfl
    by_cases hn : Go.Kc.nxtE 528 b r (a : Int) = 0
    · rw [if_pos hn] at hux
      rw [hux] at hx ht
      dsimp only at hx ht hr
      subst ht
      obtain ⟨k, e, hk, hmay⟩ := Go.Kc.nxtE_ok hn
      obtain rfl : a = k := by omega
      obtain ⟨u, hu⟩ : ∃ u, r.next b a = u := ⟨_, rfl⟩
      obtain ⟨sb, hsb⟩ : ∃ u, r.set a = u := ⟨_, rfl⟩
      rw [hsb] at hx
      rw [hu]
      have HRK := Lib.hid hr
      have HB := Lib.hid hb
      have HM := Lib.hid hm
      have HA := Lib.hid ha
      have HMAY := Lib.hid hmay
      have HT := Lib.hid hu
      have HBT := Lib.hid hsb
      unfold uL at hO
      dsimp only at hO
      clear hux hn hr hb hm e hk hmay hu hsb ha
      cases sb
      · subst hx
        go_enter Try.func52, Try.ntmps52
        go_wp2_with (first
          | ((with_reducible refine gLoad ?_); first | refine ldX hO 0 rfl rfl (tA rfl) (tS rfl) ?_ | refine ldC hO 0 rfl rfl (tA rfl) rfl ?_ | refine ldX hO 1 rfl rfl (tA rfl) (tS rfl) ?_ | refine ldC hO 1 rfl rfl (tA rfl) rfl ?_ | refine ldX hO 2 rfl rfl (tA rfl) (tS rfl) ?_ | refine ldC hO 2 rfl rfl (tA rfl) rfl ?_ | refine ldX hO 3 rfl rfl (tA rfl) (tS rfl) ?_ | refine ldC hO 3 rfl rfl (tA rfl) rfl ?_)
          | (go_at_call 64; refine (next_ok r b HRK.out HB.out HM.out a HA.out HMAY.out u HT.out hO).mono ?_; rw [HBT.out]; rintro e ww ⟨rfl, hO2⟩; clear hO; have hO := hO2; clear hO2)
          | ((with_reducible refine gStore ?_); first | (refine stX hO 0 rfl rfl rfl rfl rfl (tS rfl) ?_; clear hO; intro ww hO) | (refine stC hO 0 rfl rfl rfl (ltb rfl) rfl (tS rfl) ?_; clear hO; intro ww hO) | (refine stX hO 1 rfl rfl rfl rfl rfl (tS rfl) ?_; clear hO; intro ww hO) | (refine stC hO 1 rfl rfl rfl (ltb rfl) rfl (tS rfl) ?_; clear hO; intro ww hO) | (refine stX hO 2 rfl rfl rfl rfl rfl (tS rfl) ?_; clear hO; intro ww hO) | (refine stC hO 2 rfl rfl rfl (ltb rfl) rfl (tS rfl) ?_; clear hO; intro ww hO) | (refine stX hO 3 rfl rfl rfl rfl rfl (tS rfl) ?_; clear hO; intro ww hO) | (refine stC hO 3 rfl rfl rfl (ltb rfl) rfl (tS rfl) ?_; clear hO; intro ww hO)))
        go_ret
        exact ⟨rfl, hO⟩
      · subst hx
        go_enter Try.func52, Try.ntmps52
        go_wp2_with (first
          | ((with_reducible refine gLoad ?_); first | refine ldX hO 0 rfl rfl (tA rfl) (tS rfl) ?_ | refine ldC hO 0 rfl rfl (tA rfl) rfl ?_ | refine ldX hO 1 rfl rfl (tA rfl) (tS rfl) ?_ | refine ldC hO 1 rfl rfl (tA rfl) rfl ?_ | refine ldX hO 2 rfl rfl (tA rfl) (tS rfl) ?_ | refine ldC hO 2 rfl rfl (tA rfl) rfl ?_ | refine ldX hO 3 rfl rfl (tA rfl) (tS rfl) ?_ | refine ldC hO 3 rfl rfl (tA rfl) rfl ?_)
          | (go_at_call 64; refine (next_ok r b HRK.out HB.out HM.out a HA.out HMAY.out u HT.out hO).mono ?_; rw [HBT.out]; rintro e ww ⟨rfl, hO2⟩; clear hO; have hO := hO2; clear hO2)
          | ((with_reducible refine gStore ?_); first | (refine stX hO 0 rfl rfl rfl rfl rfl (tS rfl) ?_; clear hO; intro ww hO) | (refine stC hO 0 rfl rfl rfl (ltb rfl) rfl (tS rfl) ?_; clear hO; intro ww hO) | (refine stX hO 1 rfl rfl rfl rfl rfl (tS rfl) ?_; clear hO; intro ww hO) | (refine stC hO 1 rfl rfl rfl (ltb rfl) rfl (tS rfl) ?_; clear hO; intro ww hO) | (refine stX hO 2 rfl rfl rfl rfl rfl (tS rfl) ?_; clear hO; intro ww hO) | (refine stC hO 2 rfl rfl rfl (ltb rfl) rfl (tS rfl) ?_; clear hO; intro ww hO) | (refine stX hO 3 rfl rfl rfl rfl rfl (tS rfl) ?_; clear hO; intro ww hO) | (refine stC hO 3 rfl rfl rfl (ltb rfl) rfl (tS rfl) ?_; clear hO; intro ww hO)))
        go_ret
        exact ⟨rfl, hO⟩
    · rw [if_neg hn] at hux
      rw [hux] at hx ht
      dsimp only at hx ht hr
      subst ht
      subst hx
      have hno : ¬ r.may b a := by
        rcases Go.Kc.nxtE_cases 528 b r (a : Int) with h | ⟨_, k, e, _, h⟩ | ⟨_, h⟩
        · exact absurd h hn
        · obtain rfl : a = k := by omega
          exact h
        · omega
      have HRK := Lib.hid hr
      have HB := Lib.hid hb
      have HM := Lib.hid hm
      have HA := Lib.hid ha
      have HMAY := Lib.hid hno
      unfold uL at hO
      dsimp only at hO
      clear hux hn hr hb hm hno ha
      go_enter Try.func52, Try.ntmps52
      go_wp2_with (first
        | ((with_reducible refine gLoad ?_); first | refine ldX hO 0 rfl rfl (tA rfl) (tS rfl) ?_ | refine ldC hO 0 rfl rfl (tA rfl) rfl ?_ | refine ldX hO 1 rfl rfl (tA rfl) (tS rfl) ?_ | refine ldC hO 1 rfl rfl (tA rfl) rfl ?_ | refine ldX hO 2 rfl rfl (tA rfl) (tS rfl) ?_ | refine ldC hO 2 rfl rfl (tA rfl) rfl ?_ | refine ldX hO 3 rfl rfl (tA rfl) (tS rfl) ?_ | refine ldC hO 3 rfl rfl (tA rfl) rfl ?_)
        | (go_at_call 64; refine (next_short r b HRK.out HB.out HM.out a HA.out HMAY.out hO).mono ?_; rintro e ww ⟨rfl, hO2⟩; clear hO; have hO := hO2; clear hO2)
        | ((with_reducible refine gStore ?_); first | (refine stX hO 0 rfl rfl rfl rfl rfl (tS rfl) ?_; clear hO; intro ww hO) | (refine stC hO 0 rfl rfl rfl (ltb rfl) rfl (tS rfl) ?_; clear hO; intro ww hO) | (refine stX hO 1 rfl rfl rfl rfl rfl (tS rfl) ?_; clear hO; intro ww hO) | (refine stC hO 1 rfl rfl rfl (ltb rfl) rfl (tS rfl) ?_; clear hO; intro ww hO) | (refine stX hO 2 rfl rfl rfl rfl rfl (tS rfl) ?_; clear hO; intro ww hO) | (refine stC hO 2 rfl rfl rfl (ltb rfl) rfl (tS rfl) ?_; clear hO; intro ww hO) | (refine stX hO 3 rfl rfl rfl rfl rfl (tS rfl) ?_; clear hO; intro ww hO) | (refine stC hO 3 rfl rfl rfl (ltb rfl) rfl (tS rfl) ?_; clear hO; intro ww hO)))
      go_ret
      exact ⟨rfl, hO⟩
  · have hux : Go.Pz.ub b ⟨r, true⟩ a = (false, ⟨r, true⟩) := rfl
    rw [hux] at hx ht
    dsimp only at hx ht
    subst ht
    subst hx
    unfold uL at hO
    dsimp only at hO
    clear hux hr hb hm ha
    go_enter Try.func52, Try.ntmps52
    go_wp2_with (first
      | ((with_reducible refine gLoad ?_); first | refine ldX hO 0 rfl rfl (tA rfl) (tS rfl) ?_ | refine ldC hO 0 rfl rfl (tA rfl) rfl ?_ | refine ldX hO 1 rfl rfl (tA rfl) (tS rfl) ?_ | refine ldC hO 1 rfl rfl (tA rfl) rfl ?_ | refine ldX hO 2 rfl rfl (tA rfl) (tS rfl) ?_ | refine ldC hO 2 rfl rfl (tA rfl) rfl ?_ | refine ldX hO 3 rfl rfl (tA rfl) (tS rfl) ?_ | refine ldC hO 3 rfl rfl (tA rfl) rfl ?_))
    go_ret
    exact ⟨rfl, hO⟩

set_option maxHeartbeats 4000000 in
set_option maxRecDepth 100000 in
theorem unum_calls {w0 w : World} {L : List Res} {rb ub : Nat} {aB : Option Addr} {m cB : Nat} {aP : Option Addr} {cP : Nat} (b : List (BitVec 8)) (s : Go.Pz.Us) (hr : Go.Kc.Rok 528 b s.r) (hb : b.length = m) (hm : m ≤ 10000000) (wide tree p : Nat) (hw : wide = 4 ∧ p = 16 ∨ wide = 8 ∧ p = 256) (htr : tree + p ≤ 528) (v : Nat) (t : Go.Pz.Us) (hv : (Go.Pz.un b tree wide 1 s).1 - p = v) (ht : (Go.Pz.un b tree wide 1 s).2 = t)
    (hO : Own w0 w (uL rb ub aB m cB aP cP b s L)) :
    Calls Try.prog 53 #[.pointer (some ⟨ub, 0, none⟩), .int .i64 (wide : Int), .int .i64 (tree : Int)] w fun e w' => e = .returned (.int .i64 (v : Int)) ∧ Own w0 w' (uL rb ub aB m cB aP cP b t L) := by
  have hl := Go.Pz.un_lt (b := b) (tree := tree) wide 1 s
  have hp2 : 2 ^ wide = p := by rcases hw with ⟨rfl, rfl⟩ | ⟨rfl, rfl⟩ <;> decide
  rw [hp2] at hl
  have hw8 : wide ≤ 8 := by omega
  have HB := Lib.hid hb
  have HM := Lib.hid hm
  have HV : Hid ((Go.Pz.un b tree wide 1 s).1 = v + p) := by show _ = _; omega
  have HT := Lib.hid ht
  have HP := Lib.hid hp2
  have HRK := Lib.hid hr
  have hvp : v < p := by omega
  clear hb hm hv ht hl hp2 hr
  have hw2 := Lib.hid hw
  go_enter Try.func53, Try.ntmps53
  clear hw
  go_wp2
  go_loopg [7, 9] wide (fun mm s7 cc wr => ∃ (i node : Nat) (u : Go.Pz.Us), mm = wide - i ∧ i ≤ wide ∧ cc = .int .i64 (i : Int) ∧ s7 = .int .i64 (node : Int) ∧ Hid (Go.Pz.un b tree (wide - i) node u = Go.Pz.un b tree wide 1 s) ∧ Hid (2 ^ i ≤ node ∧ node < 2 ^ (i + 1)) ∧ Hid (Go.Kc.Rok 528 b u.r) ∧ Own w0 wr (uL rb ub aB m cB aP cP b u L))
  case atStart => exact ⟨0, 1, s, rfl, by omega, rfl, rfl, rfl, ⟨by decide, by decide⟩, HRK.out, hO⟩
  case round =>
    obtain ⟨i, node, u, rfl, hi, rfl, rfl, HU, HN, HK, hO1⟩ := hrel
    clear hO
    have hO := hO1
    clear hO1
    by_cases hlt : i < wide
    · have d1 : decide ((i : Int) < (wide : Int)) = true := decide_eq_true (by omega)
      have hn := HN.out.2
      have hnp : node < p := by
        rw [← HP.out]
        exact Nat.lt_of_lt_of_le hn (Nat.pow_le_pow_right (by decide) (by omega))
      have hp8 : p ≤ 256 := by have := hw2.out; omega
      obtain ⟨x, hx⟩ : ∃ x, (Go.Pz.ub b u (tree + node)).1.toNat = x := ⟨_, rfl⟩
      obtain ⟨t2, ht2⟩ : ∃ x, (Go.Pz.ub b u (tree + node)).2 = x := ⟨_, rfl⟩
      have hx1 : x < 2 := by rw [← hx]; cases (Go.Pz.ub b u (tree + node)).1 <;> simp
      have hst : Go.Pz.un b tree (wide - (i + 1)) (node * 2 + x) t2 = Go.Pz.un b tree wide 1 s := by
        rw [← HU.out, show wide - i = (wide - (i + 1)) + 1 by omega]
        show _ = Go.Pz.un b tree _ (node * 2 + (Go.Pz.ub b u (tree + node)).1.toNat) (Go.Pz.ub b u (tree + node)).2
        rw [hx, ht2]
      have HK2 : Hid (Go.Kc.Rok 528 b t2.r) := by rw [← ht2]; exact Go.Pz.ub_rok HK.out _
      have HN2 : Hid (2 ^ (i + 1) ≤ node * 2 + x ∧ node * 2 + x < 2 ^ (i + 1 + 1)) := by
        obtain ⟨n1, n2⟩ := HN.out
        rw [Nat.pow_succ] at n2
        show _ ∧ _
        rw [Nat.pow_succ, Nat.pow_succ]
        generalize 2 ^ i = z at *
        omega
      have e4 : bits .or .i64 ((node : Int) * 2) (x : Int) = ((node * 2 + x : Nat) : Int) := Go.Pz.or1_i64 node x (by omega) hx1
      have HX := Lib.hid hx
      have HT2 := Lib.hid ht2
      have HST := Lib.hid hst
      have HTN : Hid (tree + node < 528) := by show _ < _; omega
      have HBC := Lib.hid (fun (w : World) hO => ubit_calls (w0 := w0) (w := w) (L := L) (rb := rb) (ub := ub) (aB := aB) (cB := cB) (aP := aP) (cP := cP) b u HK.out HB.out HM.out (tree + node) HTN.out x t2 HX.out HT2.out hO)
      have hca : ((tree : Int) + (node : Int)) = ((tree + node : Nat) : Int) := by omega
      rw [← hca] at HBC
      clear hx ht2 hst hca
      go_wp2_with (first
        | (go_at_call 52; refine (HBC.out _ hO).mono ?_; rintro e ww ⟨rfl, hO2⟩; clear hO; have hO := hO2; clear hO2))
      go_roundg (wide - (i + 1))
      case measure => omega
      case rel => exact ⟨i + 1, node * 2 + x, t2, rfl, by omega, by go_num, rfl, HST.out, HN2.out, HK2.out, hO⟩
    · obtain rfl : i = wide := by omega
      have hu : Go.Pz.un b tree i 1 s = (node, u) := by
        rw [← HU.out, Nat.sub_self]; rfl
      have hv2 := HV.out
      have ht2 := HT.out
      rw [hu] at hv2 ht2
      dsimp only at hv2 ht2
      subst ht2
      subst hv2
      have hh := hw2.out
      clear HU HN HK HV HT hu HP HRK
      rcases hh with ⟨rfl, rfl⟩ | ⟨rfl, rfl⟩
      · go_wp2
        go_ret
        exact ⟨by simp, hO⟩
      · go_wp2
        go_ret
        exact ⟨by simp, hO⟩
end Go.Proofs.Ytnkpjmcgecdkfaa
