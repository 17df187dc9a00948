/- Walks: math/bits.Mul64 of one and a number, slices.Repeat of one number, prob.New. -/
import Derived.Test.YtnkpjmcgecdkfaaQa
import Derived.Test.YtnkpjmcgecdkfaaCp2
import Derived.Laws.Bits64b
namespace Go.Proofs.Ytnkpjmcgecdkfaa
open Go.RowKit Go.Own Go.Bv Go.Ord Go.Eq Go.Opn Go.Pb

set_option maxHeartbeats 1000000 in
theorem mul64_one (n : Nat) (hn : n ≤ 1024) (w : World) :
    Calls Try.prog 69 #[.int .u64 1, .int .u64 (n : Int)] w fun e w' => e = .returned (.tuple #[.int .u64 0, .int .u64 (n : Int)]) ∧ w = w' := by
  have b1 : bits .and .u64 1 4294967295 = 1 := by decide +kernel
  have b2 : bits .and .u64 (n : Int) 4294967295 = (n : Int) := by
    have h := Go.bits_and_u64_nat n 4294967295 (by omega) (by decide)
    rw [show (4294967295 : Int) = ((4294967295 : Nat) : Int) from rfl, h, show (4294967295 : Nat) = 2 ^ 32 - 1 from rfl, Nat.and_two_pow_sub_one_eq_mod, Nat.mod_eq_of_lt (by omega)]
  have b3 : (n : Int) / 4294967296 = 0 := by omega
  have b4 : bits .and .u64 0 4294967295 = 0 := by decide +kernel
  have w1 : IntKind.u64.wrap (n : Int) = (n : Int) := by simp [IntKind.wrap, IntKind.bits, IntKind.signed]; omega
  have w0 : IntKind.u64.wrap 0 = 0 := by decide +kernel
  go_enter Try.func69, Try.ntmps69
  go_wp2
  go_ret2
  exact ⟨rfl, rfl⟩

set_option maxHeartbeats 1000000 in
theorem mul_one (n : Nat) (hn : n ≤ 1024) (w : World) :
    Calls Try.prog 65 #[.int .u64 1, .int .u64 (n : Int)] w fun e w' => e = .returned (.tuple #[.int .u64 0, .int .u64 (n : Int)]) ∧ w = w' := by
  go_enter Try.func65, Try.ntmps65
  go_wp2_with (first
    | (go_at_call 69; refine (mul64_one n hn _).mono ?_; rintro e ww ⟨rfl, rfl⟩))
  go_ret2
  exact ⟨rfl, rfl⟩

theorem rep_rep (n k : Nat) (h : k ≤ n) : i64s (List.replicate n 1024) = List.replicate k (Value.int .i64 1024) ++ List.replicate (n - k) (Value.int .i64 1024) := by
  unfold i64s
  rw [List.map_replicate, List.replicate_append_replicate, Nat.add_sub_cancel' h]
/-- k numbers are there, the others are not yet -/
def filled (n k : Nat) : List Value := List.replicate k (.int .i64 1024) ++ List.replicate (n - k) (.int .i64 0)
theorem filled_length (n k : Nat) (h : k ≤ n) : (filled n k).length = n := by simp [filled]; omega
theorem filled_all (n : Nat) : filled n n = i64s (List.replicate n 1024) := by simp [filled, i64s]
theorem filled_zero (n : Nat) : filled n 0 = (madeCells (Value.int .i64 0).cells (n * 1)).toList := by
  rw [Nat.mul_one, show (Value.int .i64 0).cells = #[Value.int .i64 0] from rfl, toList_madeCells_one]
  simp [filled]
theorem filled_copy (n k m : Nat) (hm : k + m ≤ n) : (filled n k).take k ++ List.replicate m (.int .i64 1024) ++ (filled n k).drop (k + m) = filled n (k + m) := by
  unfold filled
  have hl : (List.replicate k (Value.int .i64 1024)).length = k := List.length_replicate
  rw [List.take_left' hl, List.drop_append, hl, List.drop_of_length_le (by rw [hl]; omega), List.nil_append, List.drop_replicate, List.replicate_append_replicate]
  congr 2
  omega

set_option maxHeartbeats 4000000 in
set_option maxRecDepth 100000 in
theorem repeat_calls (g : Nat) (n : Nat) (hn : n ≤ 1024) (w : World) (hR : Rd w 1 (some ⟨g, 0, none⟩) 1 1 (i64s [1024])) :
    Calls Try.prog 59 #[.slice (some ⟨g, 0, none⟩) 1 1, .int .i64 (n : Int)] w fun e w' => ∃ a' c', e = .returned (.slice a' n c') ∧ Below w.heap.size w w' ∧ w'.ownsRow w.heap.size 3 1 (.slice a' n c') n (i64s (List.replicate n 1024)) := by
  have hO := Own.start w
  have HR := Lib.hid hR
  clear hR
  have d1 : decide ((n : Int) < 0) = false := by simp
  have d2 : decide ((9223372036854775807 : Int) < (n : Int)) = false := by simp; omega
  have w1 : IntKind.u64.wrap (n : Int) = (n : Int) := by simp [IntKind.wrap, IntKind.bits, IntKind.signed]; omega
  generalize hW : w = wn at hO HR ⊢
  clear hW w
  by_cases hn0 : n = 0
  · have hmin : Nat.min 1 n = 0 := by show min 1 n = 0; omega
    have e0 : decide ((0 : Int) < (n : Int)) = false := by simp; omega
    have e0' : decide (0 < n) = false := by simp; omega
    have HZ : Hid (i64s (List.replicate n 1024) = filled n 0) := by show _ = _; subst hn0; rfl
    rw [HZ.out]
    clear hn0
    go_enter Try.func59, Try.ntmps59
    go_wp2_with (first
      | ((with_reducible refine gG ?_); refine wpList_want rfl ?_)
      | (go_at_call 65; refine (mul_one n hn _).mono ?_; rintro e ww ⟨rfl, rfl⟩)
      | ((with_reducible refine gMake ?_); refine own_make hO _ _ 59 ei64 n rfl rfl rfl rfl (by omega) (by simp [maxLen]; omega) ?_; clear hO; intro g2 ww hO)
      | ((with_reducible refine gCopy ?_); refine own_copy hO 0 _ _ 59 59 ei64 (sa := ⟨g, 0, none⟩) (ys := []) rfl rfl rfl 0 hmin (by omega) rfl (fun j v hj => by simp at hj) (fun v hv => by simp at hv) (filled n 0) (by rw [← filled_zero]; simp) ?_; clear hO; intro ww hO))
    go_loopg [8] 0 (fun m s8 wr => s8 = .int .i64 ((0 : Nat) : Int) ∧ Own wn wr [.sl 3 1 (.slice (some ⟨g2, 0, none⟩) n n) n (filled n 0)])
    case atStart => exact ⟨rfl, hO⟩
    case round =>
      obtain ⟨rfl, hO1⟩ := hrel
      clear hO
      have hO := hO1
      clear hO1
      go_wp2
      go_ret
      exact ⟨_, _, rfl, hO.below, hO.row 0 rfl⟩
  · have hmin : Nat.min 1 n = 1 := by show min 1 n = 1; omega
    go_enter Try.func59, Try.ntmps59
    go_wp2_with (first
      | ((with_reducible refine gG ?_); refine wpList_want rfl ?_)
      | (go_at_call 65; refine (mul_one n hn _).mono ?_; rintro e ww ⟨rfl, rfl⟩)
      | ((with_reducible refine gMake ?_); refine own_make hO _ _ 59 ei64 n rfl rfl rfl rfl (by omega) (by simp [maxLen]; omega) ?_; clear hO; intro g2 ww hO)
      | ((with_reducible refine gCopy ?_); refine own_copy hO 0 _ _ 59 59 ei64 (sa := ⟨g, 0, none⟩) (ys := [.int .i64 1024]) rfl rfl rfl 1 hmin (by omega) rfl ((hO.rd HR.out).cells rfl) (fun v hv => by simp at hv; subst hv; rfl) (filled n 1) (by rw [← filled_zero]; exact filled_copy n 0 1 (by omega)) ?_; clear hO; intro ww hO))
    clear d1 d2 w1
    clear hmin
    replace hO : Own wn _ [.sl 3 1 (.slice (some ⟨g2, 0, none⟩) n n) n (filled n 1)] := hO
    go_loopg [8] (n - 1) (fun m s8 wr => ∃ k : Nat, m = n - k ∧ 1 ≤ k ∧ k ≤ n ∧ s8 = .int .i64 (k : Int) ∧ Own wn wr [.sl 3 1 (.slice (some ⟨g2, 0, none⟩) n n) n (filled n k)])
    case atStart => exact ⟨1, rfl, by omega, by omega, rfl, hO⟩
    case round =>
      obtain ⟨k, rfl, hk1, hkn, rfl, hO1⟩ := hrel
      clear hO
      have hO := hO1
      clear hO1
      by_cases c1 : k < n
      · have e1 : decide ((k : Int) < (n : Int)) = true := by simp; omega
        obtain ⟨m, hm⟩ : ∃ m, Nat.min k (n - k) = m := ⟨_, rfl⟩
        have hm2 : min k (n - k) = m := hm
        have hkm : k + m ≤ n ∧ 1 ≤ m ∧ m ≤ k := by omega
        have hNk : ¬ (n = k) := by omega
        have HM := Lib.hid hm
        clear hm hm2
        go_wp2
        refine wp_region_text (by kernel_rfl) (by kernel_rfl) ?_
        replace hO := hO.drew
        generalize World.drew _ = wd at hO ⊢
        go_wp2_with (first
          | ((with_reducible refine gCopy ?_); refine own_copy hO 0 _ _ 59 59 ei64 (sa := ⟨g2, 0, none⟩) (ys := List.replicate m (.int .i64 1024)) rfl rfl rfl m HM.out (by omega) List.length_replicate (fun j v hj => by
              have hj2 : j < m := by have := (List.getElem?_eq_some_iff.1 hj).1; rwa [List.length_replicate] at this
              rw [List.getElem?_replicate, if_pos hj2] at hj
              rw [Addr.add_lit, Nat.zero_add, hO.slCell 0 rfl (by omega)]
              unfold filled
              rw [List.getElem?_append_left (by rw [List.length_replicate]; omega), List.getElem?_replicate, if_pos (by omega)]
              exact hj) (fun v hv => by rw [List.eq_of_mem_replicate hv]; rfl) (filled n (k + m)) (filled_copy n k m hkm.1) ?_; clear hO; intro ww hO)
          | ((with_reducible refine gI ?_); refine wpI_step rfl rfl (by kernel_rfl) ?_; intro K hK; have HK := Lib.hid hK; clear hK) | ((with_reducible refine gI ?_); first | refine wpI_skip rfl ?_ | refine wpI_want rfl ?_) | ((with_reducible refine gOnlyK0 HK.out ?_); clear HK K; first | (refine wpI_act (by simp only [Act.put, List.setIfInBounds_toArray, List.set_cons_succ, List.set_cons_zero]; rfl) ?_) | skip) | (with_reducible refine wpI_nil ?_))
        go_roundg (n - (k + m))
        case measure => omega
        case rel => exact ⟨k + m, rfl, by omega, by omega, by go_num, hO⟩
      · obtain rfl : k = n := by omega
        rw [filled_all] at hO
        go_wp2
        go_ret
        exact ⟨_, _, rfl, hO.below, hO.row 0 rfl⟩

/-- what 'New' hands back -/
def newT (n : Int) : List Int := if 0 ≤ n ∧ n ≤ 1024 then List.replicate n.toNat 1024 else []
def newE (n : Int) : Int := if 0 ≤ n ∧ n ≤ 1024 then 0 else 1
set_option maxHeartbeats 1000000 in
set_option maxRecDepth 100000 in
theorem new_calls (x : Int) (w : World) (N : Nat) (T : List Int) (E : Int) (hN : (newT x).length = N) (hT : newT x = T) (hE : newE x = E) :
    Calls Try.prog 38 #[.int .i64 x] w fun e w' => ∃ a' c', e = .returned (.tuple #[.slice a' N c', .int .i64 E]) ∧ Below w.heap.size w w' ∧ w'.ownsRow w.heap.size 3 1 (.slice a' N c') N (i64s T) := by
  have hO := Own.start w
  by_cases h1 : x < 0
  · have e1 : T = [] := by rw [← hT]; unfold newT; rw [if_neg (by omega)]
    have e2 : E = 1 := by rw [← hE]; unfold newE; rw [if_neg (by omega)]
    have e3 : N = 0 := by rw [← hN, hT, e1]; rfl
    have d1 : decide (x < 0) = true := by simpa using h1
    subst e1 e2 e3
    clear hN hT hE
    generalize hW : w = wn at hO ⊢
    clear hW w
    go_enter Try.func38, Try.ntmps38
    go_wp2_with (first | ((with_reducible refine gG ?_); refine wpList_want rfl ?_))
    go_ret2
    exact ⟨none, 0, rfl, hO.below, World.ownsRow_nil _ _ _ _⟩
  have d1 : decide (x < 0) = false := by simpa using h1
  by_cases h2 : 1024 < x
  · have e1 : T = [] := by rw [← hT]; unfold newT; rw [if_neg (by omega)]
    have e2 : E = 1 := by rw [← hE]; unfold newE; rw [if_neg (by omega)]
    have e3 : N = 0 := by rw [← hN, hT, e1]; rfl
    have d2 : decide (1024 < x) = true := by simpa using h2
    subst e1 e2 e3
    clear hN hT hE
    generalize hW : w = wn at hO ⊢
    clear hW w
    go_enter Try.func38, Try.ntmps38
    go_wp2_with (first | ((with_reducible refine gG ?_); refine wpList_want rfl ?_))
    go_ret2
    exact ⟨none, 0, rfl, hO.below, World.ownsRow_nil _ _ _ _⟩
  have d2 : decide (1024 < x) = false := by simpa using h2
  obtain ⟨n, rfl⟩ : ∃ n : Nat, x = (n : Int) := ⟨x.toNat, by omega⟩
  have e1 : T = List.replicate n 1024 := by rw [← hT]; unfold newT; rw [if_pos (by omega), Int.toNat_natCast]
  have e2 : E = 0 := by rw [← hE]; unfold newE; rw [if_pos (by omega)]
  have e3 : N = n := by rw [← hN, hT, e1, List.length_replicate]
  subst e1 e2 e3
  have HP := Lib.hid (fun g w h => repeat_calls g N (by omega) w h)
  clear hN hT hE
  generalize hW : w = wn at hO ⊢
  clear hW w
  go_enter Try.func38, Try.ntmps38
  go_wp2_with (first
    | ((with_reducible refine gG ?_); refine wpList_want rfl ?_)
    | ((with_reducible refine gBuild ?_); refine own_build hO 59 1 _ ei64 (i64s [1024]).toArray (by omega) (by omega) (by kernel_rfl) rfl ?_; clear hO; intro g ww hO)
    | (go_at_call 59; refine (HP.out _ _ (hO.rdAt 0 rfl)).mono ?_; rintro e ww ⟨a2, c2, rfl, hb, hr⟩; replace hO := hO.addRow hb hr; clear hb hr))
  go_ret2
  exact ⟨a2, c2, rfl, hO.below, hO.row 0 rfl⟩
end Go.Proofs.Ytnkpjmcgecdkfaa
