/- Walk: the document's more. -/
import Derived.Test.YtnkpjmcgecdkfaaKa
import Derived.Test.YtnkpjmcgecdkfaaKp
namespace Go.Own
open Go.RowKit
/-- of what a call has made, one thing -/
theorem Own.only {w0 w : World} {L : List Res} (h : Own w0 w L) {r : Res} (hr : r ∈ L) : Own w0 w [r] :=
  ⟨h.below, fun q hq => by rw [List.mem_singleton] at hq; rw [hq]; exact h.mem r hr, List.pairwise_singleton _ _⟩
end Go.Own
namespace Go.Proofs.Ytnkpjmcgecdkfaa
open Go.RowKit Go.Own Go.Bv Go.Ord Go.Eq Go.Opn Go.Pb

theorem iu8x : (Try.prog.info? 5).map (·.size) = some 1 := by kernel_rfl
set_option maxHeartbeats 2000000 in
set_option maxRecDepth 100000 in
theorem rmore_calls {w0 w : World} {L : List Res} {a : Option Addr} {n c : Nat} (b : List (BitVec 8)) (hb : b.length = n) (hn : n ≤ 10000000) (T : List (BitVec 8)) (hT : Go.Kc.be n (Go.Kc.val b + 1) = T)
    (hO : Own w0 w (.sl 5 1 (.slice a n c) n (u8s b) :: L)) :
    Calls Try.prog 48 #[.slice a n c] w fun e w' => e = .returned (.tuple #[]) ∧ Own w0 w' (.sl 5 1 (.slice a n c) n (u8s T) :: L) := by
  have HB := Lib.hid hb
  have HT := Lib.hid hT
  clear hb hT
  have i0 : IntKind.i64.wrap ((n : Int) - 1) = (n : Int) - 1 := by rw [IntKind.wrap_i64]; omega
  obtain ⟨z0, hz0⟩ : ∃ z, (n : Int) - 1 = z := ⟨_, rfl⟩
  rw [hz0] at i0
  go_enter Try.func48, Try.ntmps48
  go_wp2
  go_loopg [2] n (fun m s2 wr => ∃ (j : Nat) (z : Int), m = n - j ∧ j ≤ n ∧ s2 = .int .i64 z ∧ z = (n : Int) - 1 - j ∧ Hid (Go.Kc.val b + 1 = (Go.Kc.val (b.take (n - j)) + 1) * 256 ^ j) ∧
    Own w0 wr (.sl 5 1 (.slice a n c) n (u8s (b.take (n - j) ++ List.replicate j 0#8)) :: L))
  case atStart => exact ⟨0, z0, rfl, by omega, by rw [← hz0], by omega, by show _ = _; rw [Nat.sub_zero, List.take_of_length_le (by rw [HB.out]; omega)]; simp, by rw [Nat.sub_zero, List.take_of_length_le (by rw [HB.out]; omega), List.replicate_zero, List.append_nil]; exact hO⟩
  case round =>
    obtain ⟨j, z, rfl, hj, rfl, hz, HV, hO1⟩ := hrel
    clear hO
    have hO := hO1
    clear hO1 i0 hz0
    by_cases hlt : j < n
    · obtain ⟨i, rfl⟩ : ∃ i : Nat, z = (i : Int) := ⟨z.toNat, by omega⟩
      have hi : i = n - j - 1 := by omega
      have hin : i < n := by omega
      obtain ⟨g, rfl⟩ := hO.slPlace 0 rfl (by omega)
      obtain ⟨cur, hcur⟩ : ∃ cur, b.take (n - j) ++ List.replicate j 0#8 = cur := ⟨_, rfl⟩
      rw [hcur] at hO
      have hil : i < b.length := by rw [HB.out]; exact hin
      have hci : cur[i]? = some b[i] := by
        rw [← hcur, List.getElem?_append_left (by rw [List.length_take, HB.out]; omega), List.getElem?_take_of_lt (by omega), List.getElem?_eq_getElem hil]
      have hcl : i < cur.length := by rw [← hcur]; simp; omega
      have hg : (u8s cur)[i]? = some (.int .u8 ((b[i]).toNat : Int)) := by
        rw [u8s_get cur i hcl]
        have := List.getElem?_eq_getElem hcl
        rw [hci] at this
        rw [← Option.some.inj this]
      obtain ⟨x, hx⟩ : ∃ x, b[i] = x := ⟨_, rfl⟩
      rw [hx] at hg
      have hst : (u8s cur).set i (.int .u8 (((x + 1#8).toNat : Nat) : Int)) = u8s (cur.set i (x + 1#8)) := by unfold u8s; rw [List.map_set]
      have e4 : IntKind.u8.wrap ((x.toNat : Int) + 1) = (((x + 1#8).toNat : Nat) : Int) := by rw [IntKind.wrap_u8', BitVec.toNat_add]; simp
      have hxl := x.isLt
      have hset : cur.set i (x + 1#8) = b.take (n - j - 1) ++ [x + 1#8] ++ List.replicate j 0#8 := by
        rw [← hcur, ← hi, show n - j = i + 1 by omega, List.take_succ_eq_append_getElem hil, List.append_assoc, List.append_assoc, List.set_append_right _ _ (by rw [List.length_take]; omega)]
        congr 1
        rw [List.length_take, HB.out, show i - min i n = 0 by omega]; rfl
      have hg2 : ((u8s cur).set i (.int .u8 (((x + 1#8).toNat : Nat) : Int)))[i]? = some (.int .u8 (((x + 1#8).toNat : Nat) : Int)) := by
        rw [List.getElem?_set_self (by rw [u8s_length]; exact hcl)]
      have HG2 := Lib.hid hg2
      have HG := Lib.hid hg
      have HST := Lib.hid hst
      have HSET := Lib.hid hset
      by_cases hx5 : x.toNat < 255
      · have HR : Hid (b.take (n - j - 1) ++ [x + 1#8] ++ List.replicate j 0#8 = T) := by
          show _ = _
          have h := Go.Kc.more_hit HB.out hlt HV.out (by subst hi; rw [hx]; exact hx5)
          subst hi
          rw [hx] at h
          rw [h, HT.out]
        have i2 : ((((x + 1#8).toNat : Nat) : Int) == 0) = false := by rw [BitVec.toNat_add]; simp; omega
        generalize hy : x + 1#8 = y at *
        clear hy hg2 hci hcl hil hx hg hst hset hi hcur hx5 hz
        go_wp2_with (first
          | ((with_reducible refine gLoad (T := 5) ?_); first | refine ld_sl hO 0 rfl rfl HG.out (tA rfl) ?_ | refine ld_sl hO 0 rfl rfl (HG2.out) (tA rfl) ?_)
          | ((with_reducible refine gStore (T := 5) ?_); refine own_setElem hO 0 5 _ _ _ rfl rfl rfl (by omega) iu8x rfl ?_; clear hO; intro ww hO))
        refine bodyPost_ret (results_none rfl _ _ _) rfl ?_
        exact ⟨rfl, by rw [← HR.out, ← HSET.out, ← HST.out]; exact hO⟩
      · have hv2 := Go.Kc.more_miss HB.out hlt HV.out (by subst hi; rw [hx]; exact hx5)
        have HV2 := Lib.hid hv2
        have hx6 : x + 1#8 = 0#8 := by apply BitVec.eq_of_toNat_eq; rw [BitVec.toNat_add]; simp; omega
        rw [hx6] at e4 HG2 HST HSET
        have HZ : Hid (b.take (n - j - 1) ++ [0#8] ++ List.replicate j 0#8 = b.take (n - (j + 1)) ++ List.replicate (j + 1) 0#8) := by
          show _ = _
          rw [List.append_assoc, Nat.sub_sub]; rfl
        have i3 : IntKind.i64.wrap ((i : Int) - 1) = (i : Int) - 1 := by rw [IntKind.wrap_i64]; omega
        have HZZ : Hid ((i : Int) - 1 = (n : Int) - 1 - (j + 1 : Nat)) := by show _ = _; omega
        clear hv2 hx6 hg2 hci hcl hil hx hg hst hset hcur hx5 hi hz
        go_wp2_with (first
          | ((with_reducible refine gLoad (T := 5) ?_); first | refine ld_sl hO 0 rfl rfl HG.out (tA rfl) ?_ | refine ld_sl hO 0 rfl rfl (HG2.out) (tA rfl) ?_)
          | ((with_reducible refine gStore (T := 5) ?_); refine own_setElem hO 0 5 _ _ _ rfl rfl rfl (by omega) iu8x rfl ?_; clear hO; intro ww hO))
        go_roundg (n - (j + 1))
        case measure => omega
        case rel => exact ⟨j + 1, (i : Int) - 1, rfl, by omega, rfl, HZZ.out, HV2.out, by rw [← HZ.out, ← HSET.out, ← HST.out]; exact hO⟩
    · obtain rfl : j = n := by omega
      have HE : Hid (List.replicate j 0#8 = T) := by
        show _ = _
        rw [Go.Kc.more_end HB.out HV.out, HT.out]
      have d2 : decide (0 ≤ z) = false := decide_eq_false (by omega)
      go_wp2
      refine bodyPost_end (results_none rfl _ _ _) rfl ?_
      exact ⟨rfl, by rw [← HE.out]; rw [Nat.sub_self, List.take_zero, List.nil_append] at hO; exact hO⟩
end Go.Proofs.Ytnkpjmcgecdkfaa
