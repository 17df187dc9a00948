/- Walk: NewReader. -/
import Derived.Test.YtnkpjmcgecdkfaaKr
import Derived.Test.YtnkpjmcgecdkfaaKq
import Derived.Lib.AppendZeros
import Derived.Lib.LazyBuf
namespace Go.Own
open Go.RowKit
/-- what a callee has made, ahead of what was there -/
theorem Own.join {w0 w w' : World} {L K : List Res} (h : Own w0 w L) (g : Own w w' K) : Own w0 w' (K ++ L) :=
  ⟨(h.call g.below).below, fun r hr => (List.mem_append.1 hr).elim (fun hk => (g.mem r hk).mono h.below.size) ((h.call g.below).mem r), List.pairwise_append.2 ⟨g.apart, h.apart, fun r hr s hs k hk hs' => by
    have h1 := ((g.mem r hr).foot hk).1
    have h2 := ((h.mem s hs).foot hs').2
    omega⟩⟩
end Go.Own
namespace Go.Kc
theorem be4 {b : List (BitVec 8)} (j : Nat) (hj : 1 + j < b.length) : val ((b.drop 1).take (j + 1)) = val ((b.drop 1).take j) * 256 + (b.getD (1 + j) 0).toNat := by
  have hl : j < (b.drop 1).length := by simp; omega
  rw [List.take_succ_eq_append_getElem hl, val_snoc, Nat.mul_comm]
  congr 2
  have e : b.getD (1 + j) 0 = b[1 + j] := by simp [hj]
  rw [e, List.getElem_drop]
theorem lt4 (b : List (BitVec 8)) (j : Nat) (hj : j ≤ 3) : val ((b.drop 1).take j) < 16777216 := by
  refine Nat.lt_of_lt_of_le (val_lt _) ?_
  refine Nat.le_trans (Nat.pow_le_pow_right (by decide) (show _ ≤ 3 by rw [List.length_take]; omega)) (by decide)
end Go.Kc
namespace Go.Proofs.Ytnkpjmcgecdkfaa
open Go.RowKit Go.Own Go.Bv Go.Ord Go.Eq Go.Opn Go.Pb

set_option maxHeartbeats 2000000 in
set_option maxRecDepth 100000 in
theorem cloneb_calls (a : Option Addr) (n c : Nat) (bs : List (BitVec 8)) (w : World) (hR : Rd w 1 a n c (u8s bs)) (hn : n ≤ 10000000) :
    Calls Try.prog 50 #[.slice a n c] w fun e w' => ∃ a' c', e = .returned (.slice a' n c') ∧ Below w.heap.size w w' ∧ w'.ownsRow w.heap.size 5 1 (.slice a' n c') n (u8s bs) := by
  have hO := Own.start w
  cases a with
  | none =>
    obtain ⟨rfl, rfl⟩ := hR.nil rfl
    have hb : u8s bs = [] := List.eq_nil_of_length_eq_zero (by rw [hR.len])
    rw [hb]
    have hnil : ∀ W, (binOp .eql 34 (.slice none 0 0) (.slice none 0 0)).run Try.prog W = .ok (.bool true) W := fun W => Go.run_eql_slice_nil W _ _ none 0 0 Try.underlying34
    clear hR hb
    generalize hW : w = wn at hO ⊢
    clear hW w
    go_enter Try.func50, Try.ntmps50
    go_wp2
    go_ret
    exact ⟨_, _, rfl, hO.below, World.ownsRow_nil _ _ _ _⟩
  | some ad =>
    have HR := Lib.hid hR
    have hnil : ∀ W, (binOp .eql 34 (.slice (some ad) n c) (.slice none 0 0)).run Try.prog W = .ok (.bool false) W := fun W => Go.run_eql_slice_nil W _ _ (some ad) n c Try.underlying34
    clear hR
    generalize hW : w = wn at hO HR ⊢
    clear hW w
    go_enter Try.func50, Try.ntmps50
    go_wp2_with (first
      | ((with_reducible refine gBuild ?_); refine own_build0 hO 34 eu8 ?_; clear hO; intro g ww hO)
      | ((with_reducible refine gAppend ?_); refine own_append hO 0 _ _ 34 eu8 rfl rfl rfl (hO.rd HR.out) (u8s_one _) n (by omega) (by simp [maxLen]; omega) (by omega) ?_; clear hO; intro a2 c2 ww hO))
    go_ret
    exact ⟨_, _, rfl, hO.below, hO.row 0 rfl⟩

/-- what NewReader hands back of a text that may be one -/
def newPost (w w' : World) (e : Ending) (n m V : Nat) (b : List (BitVec 8)) : Prop :=
      if V = 4294967295 then e = .returned (.tuple #[.pointer none, .int .i64 2]) ∧ Below w.heap.size w w' else
      ∃ rb aP cP aB cB, e = .returned (.tuple #[.pointer (some ⟨rb, 0, none⟩), .int .i64 0]) ∧
      Own w w' [.blk rb (.cells (rC (.slice aP n cP) (.slice aB m cB) 5 4294967295 V) 91 (0,0)), .sl 5 1 (.slice aB m cB) m (u8s b), .sl 3 1 (.slice aP n cP) n (i64s (List.replicate n 1024))]

set_option maxHeartbeats 4000000 in
set_option maxRecDepth 100000 in
theorem newR_ok (n : Nat) (hn : n ≤ 1024) (a : Option Addr) (m cap : Nat) (b : List (BitVec 8)) (w : World) (hR : Rd w 1 a m cap (u8s b)) (hm : m ≤ 10000000) (hb : b.length = m) (h5 : 5 ≤ m) (h0 : b.getD 0 0 = 0#8) (V : Nat) (hV : Go.Kc.val ((b.drop 1).take 4) = V) :
    Calls Try.prog 29 #[.int .i64 (n : Int), .slice a m cap] w fun e w' =>
      newPost w w' e n m V b := by
  have hO := Own.start w
  have hnT : newT (n : Int) = List.replicate n 1024 := by unfold newT; rw [if_pos (by omega), Int.toNat_natCast]
  have hnE : newE (n : Int) = 0 := by unfold newE; rw [if_pos (by omega)]
  have HNEW := Lib.hid (fun w => new_calls (n : Int) w n (List.replicate n 1024) 0 (by rw [hnT, List.length_replicate]) hnT hnE)
  have HCL := Lib.hid (fun w h => cloneb_calls a m cap b w h hm)
  have HB := Lib.hid hb
  have hg0 : (u8s b)[0]? = some (.int .u8 0) := by
    have h : 0 < b.length := by omega
    rw [u8s_get b 0 h]
    have h0' : b[0] = 0#8 := by rw [← h0]; simp [h]
    rw [h0']; rfl
  have HG0 := Lib.hid hg0
  have HM := Lib.hid hm
  have HR := Lib.hid hR
  have HV := Lib.hid hV
  obtain ⟨ba, off, rfl⟩ := hR.place (by omega)
  have d1 : decide ((m : Int) < 5) = false := decide_eq_false (by omega)
  have hm5 : 0 < m := by omega
  have H5 := Lib.hid h5
  clear hR hb h0 hg0 hnT hnE hm hV h5
  generalize hWW : w = wn at hO HR ⊢
  clear hWW w
  go_enter Try.func29, Try.ntmps29
  go_wp2_with (first
    | ((with_reducible refine gG ?_); refine wpList_want rfl ?_)
    | (go_at_call 38; refine (HNEW.out _).mono ?_; rintro e ww ⟨a1, c1, rfl, hb, hr⟩; replace hO := hO.addRow hb hr; clear hb hr)
    | ((with_reducible refine gLoad (T := 5) ?_); refine ld_rd (hO.rd HR.out) rfl HG0.out (tA rfl) ?_)
    | (go_at_call 50; refine (HCL.out _ (hO.rd HR.out)).mono ?_; rintro e ww ⟨a2, c2, rfl, hb, hr⟩; replace hO := hO.addRow hb hr; clear hb hr)
    | ((with_reducible refine gBld (T := 91) ?_); refine own_bld (rC (.slice a1 n c1) (.slice a2 m c2) 1 4294967295 0) (by kernel_rfl) ?_)
    | ((with_reducible refine gBox ?_); first | (refine bxA hO rfl ?_; clear hO; intro rb ww hO) | (refine bx1 hO rfl rfl ?_; clear hO; intro rb ww hO)))
  go_loopg [] 4 (fun q wr => ∃ (j us code : Nat), q = 4 - j ∧ j ≤ 4 ∧ Hid (us = 1 + j) ∧ Hid (Go.Kc.val ((b.drop 1).take j) = code) ∧
    Own wn wr [.blk rb (.cells (rC (.slice a1 n c1) (.slice a2 m c2) us 4294967295 code) 91 (0,0)), .sl 5 1 (.slice a2 m c2) m (u8s b), .sl 3 1 (.slice a1 n c1) n (i64s (List.replicate n 1024))])
  case atStart => exact ⟨0, 1, 0, rfl, by omega, rfl, rfl, hO⟩
  case round =>
    obtain ⟨j, us, code, rfl, hj, HU, HC, hO1⟩ := hrel
    clear hO
    have hO := hO1
    clear hO1
    by_cases hj4 : j < 4
    · have d2 : decide ((us : Int) < 5) = true := decide_eq_true (by have := HU.out; omega)
      have hlt : us < b.length := by have h1 := HU.out; have h2 := HB.out; have h3 := H5.out; omega
      have hx : b[us]? = some (b.getD us 0) := by simp [hlt]
      obtain ⟨C, hC⟩ : ∃ C, code * 256 + (b.getD us 0).toNat = C := ⟨_, rfl⟩
      have HN : Hid (Go.Kc.val ((b.drop 1).take (j + 1)) = C) := by
        show _ = _
        rw [Go.Kc.be4 j (by rw [← HU.out]; exact hlt), HC.out, ← HU.out, hC]
      have hcl : code < 16777216 := by rw [← HC.out]; exact Go.Kc.lt4 b j (by omega)
      have HX := Lib.hid hx
      have HCC := Lib.hid hC
      have HCL2 := Lib.hid hcl
      have HLT : Hid (us < m) := by show us < m; rw [← HB.out]; exact hlt
      clear hx hC hcl hlt
      go_wp2_with (first
        | ((with_reducible refine gLoad ?_); first | refine ldX hO 0 rfl rfl (tA rfl) (tS rfl) ?_ | refine ldC hO 0 rfl rfl (tA rfl) rfl ?_)
        | (go_at_call 51; refine (octet_calls b _ HX.out HLT.out HM.out HCL2.out C HCC.out hO).mono ?_; rintro e ww ⟨rfl, hO2⟩; clear hO; have hO := hO2; clear hO2))
      go_roundg (4 - (j + 1))
      case measure => omega
      case rel => exact ⟨j + 1, us + 1, C, rfl, by omega, (by have h := HU.out; show us + 1 = 1 + (j + 1); omega), HN, hO⟩
    · obtain rfl : j = 4 := by omega
      obtain rfl : us = 5 := HU.out
      obtain rfl : code = V := by rw [← HC.out, HV.out]
      clear HC HV HU
      by_cases hv : code = 4294967295
      · subst hv
        go_wp2_with (first
          | ((with_reducible refine gLoad ?_); first | refine ldX hO 0 rfl rfl (tA rfl) (tS rfl) ?_ | refine ldC hO 0 rfl rfl (tA rfl) rfl ?_))
        go_ret2
        unfold newPost
        rw [if_pos rfl]
        exact ⟨rfl, hO.below⟩
      · have d3 : ((code : Int) == 4294967295) = false := by simp; omega
        have HNV : Hid (¬ code = 4294967295) := hv
        clear hv
        go_wp2_with (first
          | ((with_reducible refine gLoad ?_); first | refine ldX hO 0 rfl rfl (tA rfl) (tS rfl) ?_ | refine ldC hO 0 rfl rfl (tA rfl) rfl ?_))
        go_ret2
        unfold newPost
        rw [if_neg HNV.out]
        exact ⟨rb, a1, c1, a2, c2, rfl, hO⟩
end Go.Proofs.Ytnkpjmcgecdkfaa
