/- Walks: the document's answer for layer 3. -/
import Derived.Test.YtocanpehkmcndaaL
import Derived.Test.YtocanpehkmcndaaCr
namespace Go.Proofs.Ytocanpehkmcndaa
open Go.RowKit Go.Own Go.Bv Go.Ord Go.Eq

set_option maxHeartbeats 1000000 in
theorem roct_calls (r : BitVec 32) (c : BitVec 8) (w : World) :
    Calls Try.prog 21 #[.int .u32 (r.toNat : Int), .int .u8 (c.toNat : Int)] w fun e w' => e = .returned (.int .u32 ((Crc.step1 r c).toNat : Int)) ∧ w = w' := by
  rw [← Crc.oct_eq]
  obtain ⟨x, e0, e1, hx⟩ : ∃ x : BitVec 32, (c.toNat : Int) = ((c.setWidth 32).toNat : Int) ∧ Go.bits .xor .u32 (r.toNat : Int) ((c.setWidth 32).toNat : Int) = (x.toNat : Int) ∧ x = r ^^^ c.setWidth 32 :=
    ⟨_, by rw [BitVec.toNat_setWidth]; have := c.isLt; omega, xor32 _ _, rfl⟩
  have e2 : Go.bits .xor .u32 (r.toNat : Int) (c.toNat : Int) = (x.toNat : Int) := by rw [e0]; exact e1
  have HX : Hid (Crc.oct r c = Crc.halves 8 x) := by rw [hx]; rfl
  have b1 := lt8 c
  clear e0 e1 hx
  rw [HX.out]
  go_enter Try.func21, Try.ntmps21
  go_wp2
  go_loopg [0, 10] 8 (fun m v k wr => ∃ j : Nat, m = 8 - j ∧ j ≤ 8 ∧ k = .int .i64 j ∧ v = .int .u32 ((Crc.halves j x).toNat : Int) ∧ wr = w)
  case atStart => exact ⟨0, rfl, by omega, rfl, rfl, rfl⟩
  case round =>
    obtain ⟨j, rfl, hj, rfl, rfl, rfl⟩ := hrel
    clear e2
    by_cases hlt : j < 8
    · have hb : decide ((j : Int) < 8) = true := by simp; omega
      have HS : Hid (Crc.halves (j + 1) x = Crc.half (Crc.halves j x)) := rfl
      generalize Crc.halves j x = X at HS ⊢
      rcases Crc.half_facts X with ⟨y, z, f1, f2, f3, f4⟩ | ⟨y, f1, f2, f4⟩
      · have HF := Lib.hid f4
        clear f4
        go_wp2
        go_roundg (8 - (j + 1))
        case measure => omega
        case rel => exact ⟨j + 1, rfl, by omega, by go_num, by rw [HS.out, ← HF.out], rfl⟩
      · have HF := Lib.hid f4
        clear f4
        go_wp2
        go_roundg (8 - (j + 1))
        case measure => omega
        case rel => exact ⟨j + 1, rfl, by omega, by go_num, by rw [HS.out, ← HF.out], rfl⟩
    · obtain rfl : j = 8 := by omega
      go_wp2
      go_ret
      exact ⟨rfl, rfl⟩

set_option maxHeartbeats 1000000 in
set_option maxRecDepth 100000 in
theorem rstep_calls (r : BitVec 32) (a : Option Addr) (n cap : Nat) (bs : List (BitVec 8)) (w : World) (hR : Rd w 1 a n cap (u8s bs)) :
    Calls Try.prog 14 #[.int .u32 (r.toNat : Int), .slice a n cap] w fun e w' => e = .returned (.int .u32 ((Crc.step r bs).toNat : Int)) ∧ w = w' := by
  have hlen : bs.length = n := by have := hR.len; rw [u8s_length] at this; omega
  have hmax : n ≤ maxLen := Nat.le_trans hR.le hR.max
  unfold maxLen at hmax
  have hR' := Lib.hid hR
  clear hR
  have HL := Lib.hid hlen
  clear hlen
  go_enter Try.func14, Try.ntmps14
  go_wp2
  go_loopg [0, 9] n (fun m r' c wr => ∃ k : Nat, m = n - k ∧ k ≤ n ∧ c = .int .i64 k ∧ r' = .int .u32 ((Crc.step r (bs.take k)).toNat : Int) ∧ wr = w)
  case atStart => exact ⟨0, rfl, by omega, rfl, by simp [Crc.step], rfl⟩
  case round =>
    obtain ⟨k, rfl, hk, rfl, rfl, rfl⟩ := hrel
    by_cases hlt : k < n
    · have hkb : k < bs.length := by rw [HL.out]; exact hlt
      have HS := Lib.hid (step_take r bs k hkb)
      obtain ⟨ba, off, ha, hbl, hc⟩ := hR'.out.at' (by omega)
      subst ha
      have hcell : wr.cell? ⟨ba, off + k, none⟩ = some (.int .u8 (bs[k].toNat : Int)) := (hc k (by omega)).trans (u8s_get bs k hkb)
      clear hc hbl
      generalize Crc.step r (bs.take k) = X at HS ⊢
      generalize bs[k] = c at HS hcell
      go_wp2_with (go_at_call 21; refine (roct_calls _ _ _).mono ?_; rintro e w1 ⟨rfl, rfl⟩)
      go_roundg (n - (k + 1))
      case measure => omega
      case rel => exact ⟨k + 1, rfl, by omega, by go_num, by rw [HS.out], rfl⟩
    · obtain rfl : k = n := by omega
      have ht : bs.take k = bs := List.take_of_length_le (by rw [HL.out]; omega)
      rw [ht]
      go_wp2
      go_ret
      exact ⟨rfl, rfl⟩

set_option maxHeartbeats 400000 in
theorem rsum_calls (a : Option Addr) (n cap : Nat) (bs : List (BitVec 8)) (w : World) (hR : Rd w 1 a n cap (u8s bs)) :
    Calls Try.prog 15 #[.slice a n cap] w fun e w' => e = .returned (.int .u32 ((Crc.sum bs).toNat : Int)) ∧ w = w' := by
  have hR' := Lib.hid hR
  clear hR
  have e5 : Go.bits .xor .u32 ((Crc.step 4294967295#32 bs).toNat : Int) 4294967295 = ((Crc.sum bs).toNat : Int) := xor32 _ 4294967295#32
  go_enter Try.func15, Try.ntmps15
  go_wp2_with (go_at_call 14; refine (rstep_calls 4294967295#32 _ _ _ bs _ hR'.out).mono ?_; rintro e w1 ⟨rfl, rfl⟩)
  go_ret
  exact ⟨rfl, rfl⟩

set_option maxHeartbeats 1000000 in
set_option maxRecDepth 100000 in
theorem four_calls (s : BitVec 32) (w : World) :
    Calls Try.prog 22 #[.int .u32 (s.toNat : Int)] w fun e w' => ∃ g, e = .returned (.slice (some ⟨g, 0, none⟩) 4 4) ∧ Below w.heap.size w w' ∧ w'.ownsRow w.heap.size 5 1 (.slice (some ⟨g, 0, none⟩) 4 4) 4 (u8s (octs4 s)) := by
  have hO := Own.start w
  rw [octs4_eq]
  have b1 := lt32 s
  have b0 := nn s
  generalize hW : w = wn at hO ⊢
  clear hW w
  go_enter Try.func22, Try.ntmps22
  go_wp2_with ((with_reducible refine gBuild ?_); go_must (refine own_build hO 22 4 _ eu8 #[.int .u8 ((s.toNat : Int) % 256), .int .u8 ((s.toNat : Int) / 256 % 256), .int .u8 ((s.toNat : Int) / 65536 % 256), .int .u8 ((s.toNat : Int) / 16777216)] (by omega) (by omega) (by simp [go_sem, Instr.fill]) rfl ?_); clear hO; intro g w1 hO)
  go_ret
  exact ⟨g, rfl, hO.below, hO.row 0 rfl⟩

set_option maxHeartbeats 1000000 in
set_option maxRecDepth 100000 in
theorem rseal_calls (a : Option Addr) (n cap : Nat) (bs : List (BitVec 8)) (w : World) (hR : Rd w 1 a n cap (u8s bs)) (hn : n ≤ 140737488351232) :
    Calls Try.prog 17 #[.slice a n cap] w fun e w' => ∃ a' c', e = .returned (.slice a' (n + 4) c') ∧ Below w.heap.size w w' ∧ w'.ownsRow w.heap.size 5 1 (.slice a' (n + 4) c') (n + 4) (u8s (bs ++ octs4 (Crc.sum bs))) := by
  have hO := Own.start w
  have hR' := Lib.hid hR
  clear hR
  generalize hW : w = wn at hO hR' ⊢
  clear hW w
  go_enter Try.func17, Try.ntmps17
  go_wp2_with (first
    | ((with_reducible refine gAppend ?_); refine own_appendNil hO _ _ 22 eu8 rfl rfl (hO.rd hR'.out) (u8s_one _) (by simp [maxLen]; omega) (by omega) ?_; clear hO; intro a1 c1 w1 hO)
    | (go_at_call 15; refine (rsum_calls _ _ _ bs _ (hO.rd hR'.out)).mono ?_; rintro e w2 ⟨rfl, rfl⟩)
    | (go_at_call 22; refine (four_calls _ _).mono ?_; rintro e w3 ⟨g, rfl, hb, hr⟩; replace hO := hO.addRow hb hr; clear hb hr)
    | ((with_reducible refine gAppend ?_); refine own_append hO 1 _ _ 22 eu8 rfl rfl rfl (hO.rdAt 0 rfl) (u8s_one _) (n + 4) rfl (by simp [maxLen]; omega) (by omega) ?_; clear hO; intro a2 c2 w4 hO))
  go_ret
  refine ⟨_, _, rfl, hO.below, ?_⟩
  have := hO.row 1 rfl
  simpa [u8s_append] using this

theorem fi22 : flatInt Try.prog 22 = false := by kernel_rfl

set_option maxHeartbeats 2000000 in
set_option maxRecDepth 100000 in
theorem ropen_calls (a : Option Addr) (n cap : Nat) (bs : List (BitVec 8)) (w : World) (hR : Rd w 1 a n cap (u8s bs)) (hn : n ≤ 140737488351232) :
    Calls Try.prog 12 #[.slice a n cap] w (RetSE w (openT bs) (openE bs)) := by
  have hO := Own.start w
  have hlen : bs.length = n := by have := hR.len; rw [u8s_length] at this; omega
  by_cases h4 : n < 4
  · have e1 : openE bs = 2 := by simp [openE, hlen, h4]
    have e2 : openT bs = [] := by simp [openT, openOk, hlen]; omega
    rw [e1, e2]
    generalize hW : w = wn at hO ⊢
    clear hR hlen e1 e2 hW w
    go_enter Try.func12, Try.ntmps12
    go_wp2
    go_ret2
    exact ⟨none, 0, rfl, hO.below, World.ownsRow_nil _ _ _ _⟩
  · obtain ⟨m, rfl⟩ : ∃ m, n = m + 4 := ⟨n - 4, by omega⟩
    have hm4 : bs.length - 4 = m := by omega
    obtain ⟨B, hB⟩ : ∃ B : Bool, decide (octs4 (Crc.sum (bs.take m)) = bs.drop m) = B := ⟨_, rfl⟩
    have e1 : openE bs = if B = true then 0 else 7 := by
      unfold openE openOk
      rw [if_neg (by omega), hm4, ← hB]
      simp [hlen]
    have e2 : openT bs = if B = true then bs.take m else [] := by rw [← hB]; simp [openT, openOk, hlen]
    rw [e1, e2]
    have hcap : ¬ cap = m := by have := hR.le; omega
    have hcap0 : ¬ cap = 0 := by have := hR.le; omega
    have hle : m + 4 ≤ cap := hR.le
    have HRT : Hid (Rd w 1 a m cap (u8s (bs.take m))) := by
      have := hR.take m (by omega)
      rw [Nat.mul_one] at this
      rw [u8s_take]; exact this
    obtain ⟨b, off, rfl, hzz⟩ := rd_sub hR m 4 (by omega) (by omega)
    clear hzz
    have HT : Hid ((bs.take m).length = m) := by show _ = _; simp; omega
    have hstr : ((strB (bs.take m ++ octs4 (Crc.sum (bs.take m)))).toList == (strB bs).toList) = B := by
      rw [strB_beq, ← hB, decide_eq_decide]
      constructor
      · intro h
        have h2 := congrArg (fun l => l.drop m) h
        have : (bs.take m).length = m := by simp; omega
        simpa [List.drop_left' this] using h2
      · intro h
        rw [h, List.take_append_drop]
    have HR := Lib.hid hR
    have hmm : m ≤ 140737488351232 := by omega
    generalize hW : w = wn at hO HRT HR ⊢
    clear e1 e2 hm4 hlen hR h4 hW w hB
    cases B
    all_goals
      simp only [Bool.false_eq_true, if_true, if_false]
      go_enter Try.func12, Try.ntmps12
      go_wp2
      refine wp_region_textS (fun w' => Below wn.heap.size wn w') (fun op => match op with | .convert _ _ (.tmp 16) => true | _ => false) (by kernel_rfl) (by kernel_rfl) hO.drew.below ?_
      replace hO := hO.drew
      generalize World.drew _ = w3 at hO ⊢
      go_wp2_with (first
        | (go_at_call 17; refine (rseal_calls _ _ _ (bs.take m) _ (hO.rd HRT.out) hmm).mono ?_; rintro e w4 ⟨a1, c1, rfl, hb, hr⟩; replace hO := hO.addRow hb hr; clear hb hr; have hcv := run_bytes_string (P := Try.prog) w4 Try.underlying22 Try.underlying5 Try.underlying9 (hO.rdAt 0 rfl))
        | ((with_reducible refine gI ?_); refine wpI_step rfl rfl (ok_convS fi22) ?_; intro _ _)
        | ((with_reducible refine gI ?_); refine wpI_steady (.string (strB bs)) rfl rfl (ok_convS fi22) (fun w' hS => run_value rfl (run_bytes_string w' Try.underlying22 Try.underlying5 Try.underlying9 (HR.out.below hS))) ?_; clear hcv)
        | ((with_reducible refine gI ?_); refine wpI_step rfl rfl (by first | exact ok_int rfl rfl | exact ok_bool rfl rfl | exact ok_str rfl rfl | exact ok_conv rfl | rfl) ?_; intro _ _) | ((with_reducible refine gI ?_); first | refine wpI_skip rfl ?_ | refine wpI_want rfl ?_) | ((with_reducible refine gOnly ?_ ?_); exact hO.below) | (with_reducible refine wpI_nil ?_)
        | ((with_reducible refine gAppend ?_); refine own_appendNil hO _ _ 22 eu8 rfl rfl (hO.rd HRT.out) (u8s_one _) (by simp [maxLen]; omega) (by omega) ?_; clear hO; intro a5 c5 w5 hO))
      go_ret2
      first
        | exact ⟨none, 0, rfl, hO.below, World.ownsRow_nil _ _ _ _⟩
        | exact ⟨a5, c5, by rw [HT.out]; rfl, hO.below, by rw [HT.out]; exact hO.row 0 rfl⟩
end Go.Proofs.Ytocanpehkmcndaa
