/- The walk of PressSame. -/
import Derived.Test.YtnkpjmcgecdkfaaZp
import Derived.Test.YtnkpjmcgecdkfaaZs
namespace Go.Proofs.Ytnkpjmcgecdkfaa
open Go.RowKit Go.Own Go.Bv Go.Ord Go.Eq Go.Opn Go.Pb Go.Mt

def badS (n : Int) (m : Nat) : Prop := n < 0 ∨ 300 < n ∨ 100 < m

set_option maxHeartbeats 8000000 in
set_option maxRecDepth 100000 in
theorem psame_out (c0 : BitVec 8) (n : Int) (a : Option Addr) (m c : Nat) (w : World) (h : badS n m) :
    Calls Try.prog 4 #[.int .u8 (c0.toNat : Int), .int .i64 n, .slice a m c] w fun e w' => e = .returned (.bool true) ∧ Below w.heap.size w w' := by
  have hO := Own.start w
  generalize hW : w = wn at hO ⊢
  clear hW w
  obtain ⟨D1, hD1⟩ : ∃ D, decide (n < 0) = D := ⟨_, rfl⟩
  obtain ⟨D2, hD2⟩ : ∃ D, decide ((300 : Int) < n) = D := ⟨_, rfl⟩
  obtain ⟨D3, hD3⟩ : ∃ D, decide ((100 : Int) < (m : Int)) = D := ⟨_, rfl⟩
  have hb : (D1 || D2 || D3) = true := by
    rw [← hD1, ← hD2, ← hD3]
    unfold badS at h
    simp
    omega
  clear h
  cases D1 <;> cases D2 <;> cases D3 <;> first
    | (exfalso; revert hb; decide)
    | (clear hb
       go_enter Try.func4, Try.ntmps4
       go_wp2_with (first
         | ((with_reducible refine gG ?_); refine wpList_want rfl ?_)
         | (go_at_call 9; refine (live7_calls _).mono ?_; rintro e ww ⟨rfl, hb⟩; replace hO := hO.call hb; clear hb))
       go_ret
       exact ⟨rfl, hO.below⟩)
    | (exfalso; simp at hD1 hD2 hD3; omega)

set_option maxHeartbeats 8000000 in
set_option maxRecDepth 100000 in
theorem psame_in (c0 : BitVec 8) (n : Nat) (a : Option Addr) (m c : Nat) (bs : List (BitVec 8)) (w : World) (hR : Rd w 1 a m c (u8s bs)) (hn : n ≤ 300) (hm : m ≤ 100) :
    Calls Try.prog 4 #[.int .u8 (c0.toNat : Int), .int .i64 (n : Int), .slice a m c] w fun e w' => e = .returned (.bool true) ∧ Below w.heap.size w w' := by
  have hO := Own.start w
  have hlen : bs.length = m := by have := hR.len; rw [u8s_length] at this; omega
  have d1 : decide ((n : Int) < 0) = false := decide_eq_false (by omega)
  have d2 : decide ((300 : Int) < (n : Int)) = false := decide_eq_false (by omega)
  have d3 : decide ((100 : Int) < (m : Int)) = false := decide_eq_false (by omega)
  obtain ⟨T, hT⟩ : ∃ T, Go.Pz.packT (List.replicate n c0) = T := ⟨_, rfl⟩
  obtain ⟨M, hM⟩ : ∃ M, T.length = M := ⟨_, rfl⟩
  obtain ⟨T2, hT2⟩ : ∃ T, Go.Pz.packT bs = T := ⟨_, rfl⟩
  obtain ⟨M2, hM2⟩ : ∃ M, T2.length = M := ⟨_, rfl⟩
  have hb1 : M ≤ 60 + n / 6 := by rw [← hM, ← hT]; exact Go.Pz.pack_same c0 n hn
  have hb2 : M2 ≤ 16 + 9 * m := by rw [← hM2, ← hT2, ← hlen]; exact Go.Pz.pack_short bs
  have q1 : (n : Int).tdiv 6 = ((n / 6 : Nat) : Int) := rfl
  have e1 : decide ((M : Int) ≤ 60 + ((n / 6 : Nat) : Int)) = true := decide_eq_true (by omega)
  have e1' : decide ((M : Int) ≤ 60 + (n : Int) / 6) = true := decide_eq_true (by omega)
  have e2 : decide ((M2 : Int) ≤ 16 + 9 * (m : Int)) = true := decide_eq_true (by omega)
  have H1 := Lib.hid (fun (a : Option Addr) (c : Nat) w h => pack_ok a n c (List.replicate n c0) w h (by omega) T hT M hM)
  have H2 := Lib.hid (fun w h => pack_ok a m c bs w h (by omega) T2 hT2 M2 hM2)
  have HR := Lib.hid hR
  clear hR hlen hT hM hT2 hM2 hb1 hb2
  generalize hW : w = wn at hO HR ⊢
  clear hW w
  go_enter Try.func4, Try.ntmps4
  go_wp2_with (first
    | ((with_reducible refine gG ?_); refine wpList_want rfl ?_)
    | (go_at_call 9; refine (live7_calls _).mono ?_; rintro e ww ⟨rfl, hb⟩; replace hO := hO.call hb; clear hb)
    | ((with_reducible refine gMake ?_); refine own_make hO _ _ 34 eu8 n rfl rfl rfl rfl (by omega) (by simp [maxLen]; omega) ?_; clear hO; intro g ww hO))
  go_loopg [31] n (fun mm cc wr => ∃ (k : Nat), mm = n - k ∧ k ≤ n ∧ cc = .int .i64 (k : Int) ∧ Own wn wr [.sl 5 1 (.slice (some ⟨g, 0, none⟩) n n) n (u8s (List.replicate k c0 ++ List.replicate (n - k) 0#8))])
  case atStart => exact ⟨0, rfl, by omega, rfl, by
    have e : (madeCells (Value.int .u8 0).cells (n * 1)).toList = u8s (List.replicate 0 c0 ++ List.replicate (n - 0) 0#8) := by
      rw [Nat.mul_one, show (Value.int .u8 0).cells = #[Value.int .u8 0] from rfl, toList_madeCells_one]
      simp [u8s]
    rw [← e]; exact hO⟩
  case round =>
    obtain ⟨k, rfl, hk, rfl, hO1⟩ := hrel
    clear hO
    have hO := hO1
    clear hO1
    by_cases hlt : k < n
    · have d5 : decide ((k : Int) < (n : Int)) = true := decide_eq_true (by omega)
      have HS : Hid ((u8s (List.replicate k c0 ++ List.replicate (n - k) 0#8)).set k (.int .u8 (c0.toNat : Int)) = u8s (List.replicate (k + 1) c0 ++ List.replicate (n - (k + 1)) 0#8)) := by
        show _ = _
        unfold u8s
        have h := List.map_set (f := fun x : BitVec 8 => Value.int .u8 (x.toNat : Int)) (l := List.replicate k c0 ++ List.replicate (n - k) 0#8) (i := k) (a := c0)
        rw [← h]
        congr 1
        rw [List.set_append_right _ _ (by simp), List.length_replicate, Nat.sub_self, show n - k = (n - (k + 1)) + 1 by omega, List.replicate_succ, List.set_cons_zero, List.replicate_succ', List.append_assoc]
        rfl
      go_wp2_with (first
        | ((with_reducible refine gStore (T := 5) ?_); refine own_setElem hO 0 5 _ _ _ rfl rfl rfl (by omega) iu8z rfl ?_; clear hO; intro ww hO))
      go_roundg (n - (k + 1))
      case measure => omega
      case rel => exact ⟨k + 1, rfl, by omega, by go_num, by rw [← HS.out]; exact hO⟩
    · obtain rfl : k = n := by omega
      rw [Nat.sub_self, List.replicate_zero, List.append_nil] at hO
      go_wp2_with (first
        | ((with_reducible refine gG ?_); refine wpList_want rfl ?_)
        | (go_at_call 12; (with_reducible refine gCall #[.slice (some ⟨g, 0, none⟩) k k] ?_); refine (H1.out _ _ _ (hO.rdAt 0 rfl)).mono ?_; rintro e ww ⟨a3, c3, rfl, hb, hr⟩; replace hO := hO.addRow hb hr; clear hb hr)
        | (go_at_call 12; refine (H2.out _ (hO.rd HR.out)).mono ?_; rintro e ww ⟨a4, c4, rfl, hb, hr⟩; replace hO := hO.addRow hb hr; clear hb hr))
      go_ret
      exact ⟨rfl, hO.below⟩
end Go.Proofs.Ytnkpjmcgecdkfaa
