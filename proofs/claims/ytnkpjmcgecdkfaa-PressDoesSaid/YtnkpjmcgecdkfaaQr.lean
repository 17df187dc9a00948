/- Walks of the document's chances: is, Check, New, Learn, Split, All. -/
import Derived.Test.YtnkpjmcgecdkfaaQc
import Derived.Test.YtnkpjmcgecdkfaaQS
namespace Go.Proofs.Ytnkpjmcgecdkfaa
open Go.RowKit Go.Own Go.Bv Go.Ord Go.Eq Go.Opn Go.Pb

set_option maxHeartbeats 400000 in
theorem is_calls (p : Int) (w : World) :
    Calls Try.prog 63 #[.int .i64 p] w fun e w' => e = .returned (.bool (mayB p)) ∧ w = w' := by
  by_cases h1 : 31 ≤ p
  · have e : mayB p = decide (p ≤ 2017) := by simp [mayB, h1]
    rw [e]
    go_enter Try.func63, Try.ntmps63
    go_wp2
    go_ret
    exact ⟨rfl, rfl⟩
  · have e : mayB p = false := by simp [mayB, h1]
    rw [e]
    go_enter Try.func63, Try.ntmps63
    go_wp2
    go_ret
    exact ⟨rfl, rfl⟩

set_option maxHeartbeats 1000000 in
theorem rLearn_calls (p : Int) (b : Bool) (w : World) :
    Calls Try.prog 49 #[.int .i64 p, .bool b] w fun e w' => e = .returned (.tuple #[.int .i64 (if mayB p then learnI p b else 0), .int .i64 (if mayB p then 0 else 1)]) ∧ w = w' := by
  cases h : mayB p
  · have HM := Lib.hid h
    clear h
    go_enter Try.func49, Try.ntmps49
    go_wp2_with (first
      | (go_at_call 63; refine (is_calls _ _).mono ?_; rw [HM.out]; rintro e w1 ⟨rfl, rfl⟩))
    go_ret2
    exact ⟨rfl, rfl⟩
  · obtain ⟨h1, h2⟩ := (mayB_iff p).1 h
    have HM := Lib.hid h
    have q1 : p.tdiv 32 = p / 32 := Int.tdiv_eq_ediv_of_nonneg (by omega)
    have q2 : (2048 - p).tdiv 32 = (2048 - p) / 32 := Int.tdiv_eq_ediv_of_nonneg (by omega)
    have q3 : 0 ≤ p / 32 ∧ p / 32 ≤ p := by omega
    have q4 : 0 ≤ (2048 - p) / 32 ∧ (2048 - p) / 32 ≤ 2048 - p := by omega
    clear h
    cases b
    all_goals
      go_enter Try.func49, Try.ntmps49
      go_wp2_with (first
        | (go_at_call 63; refine (is_calls _ _).mono ?_; rw [HM.out]; rintro e w1 ⟨rfl, rfl⟩))
      go_ret2
      exact ⟨rfl, rfl⟩


set_option maxHeartbeats 1000000 in
set_option maxRecDepth 100000 in
theorem rNew_calls (x : Int) (w : World) (N : Nat) (T : List Int) (E : Int) (hN : (newT x).length = N) (hT : newT x = T) (hE : newE x = E) :
    Calls Try.prog 46 #[.int .i64 x] w fun e w' => ∃ a' c', e = .returned (.tuple #[.slice a' N c', .int .i64 E]) ∧ Below w.heap.size w w' ∧ w'.ownsRow w.heap.size 3 1 (.slice a' N c') N (i64s T) := by
  have hO := Own.start w
  by_cases h1 : x < 0
  · have e1 : T = [] := by rw [← hT]; unfold newT; rw [if_neg (by omega)]
    have e2 : E = 1 := by rw [← hE]; unfold newE; rw [if_neg (by omega)]
    have e3 : N = 0 := by rw [← hN, hT, e1]; rfl
    have d1 : decide (x < 0) = true := by simpa using h1
    subst e1 e2 e3
    clear hN hT hE
    generalize hW : w = wn at hO ⊢
    clear hW w
    go_enter Try.func46, Try.ntmps46
    go_wp2_with (first | ((with_reducible refine gG ?_); refine wpList_want rfl ?_))
    go_ret2
    exact ⟨none, 0, rfl, hO.below, World.ownsRow_nil _ _ _ _⟩
  have d1 : decide (x < 0) = false := by simpa using h1
  by_cases h2 : 1024 < x
  · have e1 : T = [] := by rw [← hT]; unfold newT; rw [if_neg (by omega)]
    have e2 : E = 1 := by rw [← hE]; unfold newE; rw [if_neg (by omega)]
    have e3 : N = 0 := by rw [← hN, hT, e1]; rfl
    have d2 : decide (1024 < x) = true := by simpa using h2
    subst e1 e2 e3
    clear hN hT hE
    generalize hW : w = wn at hO ⊢
    clear hW w
    go_enter Try.func46, Try.ntmps46
    go_wp2_with (first | ((with_reducible refine gG ?_); refine wpList_want rfl ?_))
    go_ret2
    exact ⟨none, 0, rfl, hO.below, World.ownsRow_nil _ _ _ _⟩
  have d2 : decide (1024 < x) = false := by simpa using h2
  obtain ⟨n, rfl⟩ : ∃ n : Nat, x = (n : Int) := ⟨x.toNat, by omega⟩
  have e1 : T = List.replicate n 1024 := by rw [← hT]; unfold newT; rw [if_pos (by omega), Int.toNat_natCast]
  have e2 : E = 0 := by rw [← hE]; unfold newE; rw [if_pos (by omega)]
  have e3 : N = n := by rw [← hN, hT, e1, List.length_replicate]
  subst e1 e2 e3
  clear hN hT hE
  generalize hW : w = wn at hO ⊢
  clear hW w
  go_enter Try.func46, Try.ntmps46
  go_wp2_with (first | ((with_reducible refine gG ?_); refine wpList_want rfl ?_))
  replace hO : Own wn _ [.sl 3 1 (.slice none 0 0) 0 (i64s (List.replicate 0 1024))] := hO.add (Below.refl _ _) (World.ownsRow_nil _ _ _ _)
  go_loopg [4, 12] N (fun m s4 s12 wr => ∃ (k : Nat) (aO : Option Addr) (cO : Nat), m = N - k ∧ k ≤ N ∧ s12 = .int .i64 (k : Int) ∧ s4 = .slice aO k cO ∧ Own wn wr [.sl 3 1 (.slice aO k cO) k (i64s (List.replicate k 1024))])
  case atStart => exact ⟨0, none, 0, rfl, by omega, rfl, rfl, hO⟩
  case round =>
    obtain ⟨k, aO, cO, rfl, hk, rfl, rfl, hO1⟩ := hrel
    clear hO
    have hO := hO1
    clear hO1
    by_cases hlt : k < N
    · have hb0 : decide ((k : Int) < (N : Int)) = true := by simp; omega
      have HS : Hid (i64s (List.replicate (k + 1) 1024) = i64s (List.replicate k 1024) ++ i64s [1024]) := by
        show _ = _
        rw [List.replicate_succ']
        unfold i64s
        rw [List.map_append]
      go_wp2_with (first
        | ((with_reducible refine gBuild ?_); refine own_build hO 59 1 _ ei64 (i64s [1024]).toArray (by omega) (by omega) (by kernel_rfl) rfl ?_; clear hO; intro g ww hO)
        | ((with_reducible refine gAppend ?_); refine own_append hO 1 _ _ 59 ei64 rfl rfl rfl (hO.rdAt 0 rfl) (i64s_one _) (k + 1) rfl (by simp [maxLen]; omega) (by omega) ?_; clear hO; intro a2 c2 ww hO))
      go_roundg (N - (k + 1))
      case measure => omega
      case rel => exact ⟨k + 1, a2, c2, rfl, by omega, by go_num, rfl, by rw [HS.out]; exact hO.tail⟩
    · obtain rfl : k = N := by omega
      go_wp2
      go_ret2
      exact ⟨aO, cO, rfl, hO.below, hO.row 0 rfl⟩

set_option maxHeartbeats 1000000 in
theorem rsplit_calls (s p : Int) (w : World) (h0 : 0 ≤ s) (h1 : s < 4294967296) :
    Calls Try.prog 47 #[.int .u32 s, .int .i64 p] w fun e w' => e = .returned (.tuple #[.int .u32 (if splitOk s p then splitI s p else 0), .int .i64 (if splitOk s p then 0 else 1)]) ∧ w = w' := by
  cases hm : mayB p
  · have e : splitOk s p = false := by simp [splitOk, hm]
    rw [e]
    have HM := Lib.hid hm
    clear hm e
    simp only [Bool.false_eq_true, if_false]
    go_enter Try.func47, Try.ntmps47
    go_wp2_with (first | ((with_reducible refine gG ?_); refine wpList_want rfl ?_) | (go_at_call 63; refine (is_calls _ _).mono ?_; rw [HM.out]; rintro e w1 ⟨rfl, rfl⟩))
    go_ret2
    exact ⟨rfl, rfl⟩
  by_cases h2 : 16777216 ≤ s
  · have e : splitOk s p = true := by simp [splitOk, hm, h2]
    rw [e]
    obtain ⟨b1, b2, b3⟩ := split_bounds h1 h2 hm
    obtain ⟨pa, pb⟩ := (mayB_iff p).1 hm
    have HM := Lib.hid hm
    clear hm e
    have hb : decide (s < 16777216) = false := by simp; omega
    simp only [if_true]
    have q1 : s.tdiv 2048 = s / 2048 := Int.tdiv_eq_ediv_of_nonneg h0
    have hmul : (s / 2048 * p) % 4294967296 = splitI s p := by
      show _ = s / 2048 * p
      exact Int.emod_eq_of_lt (by have : splitI s p = s / 2048 * p := rfl; omega) b3
    generalize splitI s p = m at *
    go_enter Try.func47, Try.ntmps47
    go_wp2_with (first | ((with_reducible refine gG ?_); refine wpList_want rfl ?_) | (go_at_call 63; refine (is_calls _ _).mono ?_; rw [HM.out]; rintro e w1 ⟨rfl, rfl⟩))
    go_ret2
    exact ⟨by rw [← hmul]; rfl, rfl⟩
  · have e : splitOk s p = false := by simp [splitOk, h2]
    rw [e]
    have HM := Lib.hid hm
    have hb : decide (s < 16777216) = true := by simp; omega
    clear hm e
    simp only [Bool.false_eq_true, if_false]
    go_enter Try.func47, Try.ntmps47
    go_wp2_with (first | ((with_reducible refine gG ?_); refine wpList_want rfl ?_) | (go_at_call 63; refine (is_calls _ _).mono ?_; rw [HM.out]; rintro e w1 ⟨rfl, rfl⟩))
    go_ret2
    exact ⟨rfl, rfl⟩
end Go.Proofs.Ytnkpjmcgecdkfaa
