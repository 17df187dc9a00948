/- The walks of ProbStays, ProbEnds, ProbSplits. -/
import Derived.Test.YtldhfapigjcjiaaQ
namespace Go.Proofs.Ytldhfapigjcjiaa
open Go.RowKit Go.Own Go.Bv Go.Ord Go.Eq Go.Opn

theorem Learn_low (w : World) : Calls Try.prog 10 #[.int .i64 31, .bool true] w fun e w' => e = .returned (.tuple #[.int .i64 31, .int .i64 0]) ∧ w = w' := Learn_calls 31 true w
theorem Learn_high (w : World) : Calls Try.prog 10 #[.int .i64 2017, .bool false] w fun e w' => e = .returned (.tuple #[.int .i64 2017, .int .i64 0]) ∧ w = w' := Learn_calls 2017 false w

set_option maxHeartbeats 1000000 in
set_option maxRecDepth 100000 in
theorem ends_walk (p : Int) (b : Bool) (w : World) :
    Calls Try.prog 4 #[.int .i64 p, .bool b] w fun e w' => e = .returned (.bool true) ∧ Below w.heap.size w w' := by
  have hO := Own.start w
  generalize hW : w = wn at hO ⊢
  clear hW w
  cases hm : mayB p
  · have HM := Lib.hid hm
    clear hm
    go_enter Try.func4, Try.ntmps4
    go_wp2_with (first
      | (go_at_call 8; refine (live_calls _).mono ?_; rintro e w1 ⟨rfl, rfl⟩)
      | ((with_reducible refine gBuild ?_); refine own_build hO 26 1 _ ei64 #[.int .i64 p] (by omega) (by omega) (by simp [go_sem, Instr.fill]) rfl ?_; clear hO; intro g w2 hO)
      | (go_at_call 9; refine (check_calls _ _ _ [p] _ (hO.rdAt 0 rfl)).mono ?_; rw [check_one, HM.out]; rintro e w3 ⟨rfl, rfl⟩))
    go_ret
    exact ⟨rfl, hO.below⟩
  · have HI : ∀ k, Hid (mayB (iter b k p) = true) := fun k => iter_may b k hm
    have HE := Lib.hid (iter_end b hm)
    have HM := Lib.hid hm
    clear hm
    go_enter Try.func4, Try.ntmps4
    go_wp2_with (first
      | (go_at_call 8; refine (live_calls _).mono ?_; rintro e w1 ⟨rfl, rfl⟩)
      | ((with_reducible refine gBuild ?_); refine own_build hO 26 1 _ ei64 #[.int .i64 p] (by omega) (by omega) (by simp [go_sem, Instr.fill]) rfl ?_; clear hO; intro g w2 hO)
      | (go_at_call 9; refine (check_calls _ _ _ [p] _ (hO.rdAt 0 rfl)).mono ?_; rw [check_one, HM.out]; rintro e w3 ⟨rfl, rfl⟩))
    go_loopg [0, 16] 400 (fun m v c wr => ∃ k : Nat, m = 400 - k ∧ k ≤ 400 ∧ c = .int .i64 k ∧ v = .int .i64 (iter b k p) ∧ Below wn.heap.size wn wr)
    case atStart => exact ⟨0, rfl, by omega, rfl, rfl, hO.below⟩
    case round =>
      obtain ⟨k, rfl, hk, rfl, rfl, hB⟩ := hrel
      clear hO
      have HB := Lib.hid hB
      clear hB
      by_cases hlt : k < 400
      · have hb0 : decide ((k : Int) < 400) = true := by simp; omega
        have HS : Hid (learnI (iter b k p) b = iter b (k + 1) p) := rfl
        have HK := HI k
        generalize iter b k p = x at *
        go_wp2_with (go_at_call 10; refine (Learn_calls _ _ _).mono ?_; rw [HK.out]; rintro e w1 ⟨rfl, rfl⟩)
        go_roundg (400 - (k + 1))
        case measure => omega
        case rel => exact ⟨k + 1, rfl, by omega, by go_num, by rw [← HS.out], HB.out⟩
      · obtain rfl : k = 400 := by omega
        have HK := HI 400
        rw [HE.out] at HK ⊢
        cases b
        all_goals
          simp only [Bool.false_eq_true, if_true, if_false] at HK ⊢
          go_wp2_with (first
            | (go_at_call 10; (with_reducible refine gCall #[.int .i64 31, .bool true] ?_); refine (Learn_low _).mono ?_; rintro e w1 ⟨rfl, rfl⟩)
            | (go_at_call 10; (with_reducible refine gCall #[.int .i64 2017, .bool false] ?_); refine (Learn_high _).mono ?_; rintro e w1 ⟨rfl, rfl⟩))
          go_ret
          exact ⟨rfl, HB.out⟩

set_option maxHeartbeats 1000000 in
set_option maxRecDepth 100000 in
theorem stays_walk (p : Int) (a : Option Addr) (n cap : Nat) (bs : List Bool) (w : World) (hR : Rd w 1 a n cap (bls bs)) :
    Calls Try.prog 3 #[.int .i64 p, .slice a n cap] w fun e w' => e = .returned (.bool true) ∧ Below w.heap.size w w' := by
  have hO := Own.start w
  have hlen : bs.length = n := by have := hR.len; rw [bls_length] at this; omega
  have HR := Lib.hid hR
  have HL := Lib.hid hlen
  clear hR hlen
  generalize hW : w = wn at hO HR ⊢
  clear hW w
  by_cases h5 : n ≤ 300
  · have hb5 : decide ((300 : Int) < (n : Int)) = false := by simp; omega
    cases hm : mayB p
    · have HM := Lib.hid hm
      clear hm
      go_enter Try.func3, Try.ntmps3
      go_wp2_with (first
        | (go_at_call 8; refine (live_calls _).mono ?_; rintro e w1 ⟨rfl, rfl⟩)
        | ((with_reducible refine gBuildG ?_); refine wpList_want rfl ?_; refine own_build hO 26 1 _ ei64 #[.int .i64 p] (by omega) (by omega) (by simp [go_sem, Instr.fill]) rfl ?_; clear hO; intro g w2 hO)
        | (go_at_call 9; refine (check_calls _ _ _ [p] _ (hO.rdAt 0 rfl)).mono ?_; rw [check_one, HM.out]; rintro e w3 ⟨rfl, rfl⟩))
      go_ret
      exact ⟨rfl, hO.below⟩
    · have HI : ∀ k, Hid (mayB (steps p (bs.take k)) = true) := fun k => steps_may hm _
      have HM := Lib.hid hm
      clear hm
      go_enter Try.func3, Try.ntmps3
      go_wp2_with (first
        | (go_at_call 8; refine (live_calls _).mono ?_; rintro e w1 ⟨rfl, rfl⟩)
        | ((with_reducible refine gBuildG ?_); refine wpList_want rfl ?_; refine own_build hO 26 1 _ ei64 #[.int .i64 p] (by omega) (by omega) (by simp [go_sem, Instr.fill]) rfl ?_; clear hO; intro g w2 hO)
        | (go_at_call 9; refine (check_calls _ _ _ [p] _ (hO.rdAt 0 rfl)).mono ?_; rw [check_one, HM.out]; rintro e w3 ⟨rfl, rfl⟩))
      replace hO := hO.sub (L' := []) (by simp)
      go_loopg [0, 23] n (fun m v c wr => ∃ k : Nat, m = n - k ∧ k ≤ n ∧ c = .int .i64 k ∧ v = .int .i64 (steps p (bs.take k)) ∧ Own wn wr [])
      case atStart => exact ⟨0, rfl, by omega, rfl, rfl, hO⟩
      case round =>
        obtain ⟨k, rfl, hk, rfl, rfl, hO1⟩ := hrel
        clear hO
        by_cases hlt : k < n
        · have hb0 : decide ((k : Int) < (n : Int)) = true := by simp; omega
          have hkl : k < bs.length := by rw [HL.out]; exact hlt
          have HS := Lib.hid (steps_take p bs k hkl)
          obtain ⟨ba, off, ea, _, fa⟩ := HR.out.at' (by omega)
          subst ea
          have hcell : wr.cell? ⟨ba, off + k, none⟩ = some (.bool bs[k]) := hO1.oldcell ((fa k (by omega)).trans (bls_get bs k hkl))
          clear fa
          have HK := HI k
          generalize steps p (bs.take k) = x at *
          generalize bs[k] = b at *
          have HN := Lib.hid (may_learn b HK.out)
          have hup := learn_up HK.out
          have hdn := learn_down HK.out
          obtain ⟨y, hy⟩ : ∃ y, learnI x b = y := ⟨_, rfl⟩
          have HY := Lib.hid hy
          have hbd := (mayB_iff _).1 HK.out
          cases b
          all_goals
            rw [hy] at HN
            first | rw [hy] at hup | skip
            first | rw [hy] at hdn | skip
            clear hy
            go_wp2_with (first
              | (go_at_call 10; refine (Learn_calls _ _ _).mono ?_; rw [HK.out, HY.out]; rintro e w1 ⟨rfl, rfl⟩)
              | ((with_reducible refine gBuildG ?_); refine wpList_want rfl ?_; refine own_build hO1 26 1 _ ei64 #[.int .i64 y] (by omega) (by omega) (by simp [go_sem, Instr.fill]) rfl ?_; clear hO1 hcell; intro g w2 hO1)
              | (go_at_call 9; refine (check_calls _ _ _ [y] _ (hO1.rdAt 0 rfl)).mono ?_; rw [check_one, HN.out]; rintro e w3 ⟨rfl, rfl⟩))
            go_roundg (n - (k + 1))
            case measure => omega
            case rel => exact ⟨k + 1, rfl, by omega, by go_num, by rw [HS.out, HY.out], hO1.sub (by simp)⟩
        · obtain rfl : k = n := by omega
          go_wp2
          go_ret
          exact ⟨rfl, hO1.below⟩
  · have hb5 : decide ((300 : Int) < (n : Int)) = true := by simp; omega
    go_enter Try.func3, Try.ntmps3
    go_wp2_with (go_at_call 8; refine (live_calls _).mono ?_; rintro e w1 ⟨rfl, rfl⟩)
    go_ret
    exact ⟨rfl, hO.below⟩
end Go.Proofs.Ytldhfapigjcjiaa
