/- Walks: slices.Grow of nothing, slices.Concat of three, slices.Clone. -/
import Derived.Test.YtekiloagckkneaaDoorVt
import Derived.Lib.AppendZeros
import Derived.Lib.LazyBuf
namespace Go.Proofs.YtekiloagckkneaaDoor
open Go.RowKit Go.Own Go.Bv Go.Ord Go.Eq

section
variable {P : Program} {ops : Array Oper} {Q : Exit → Act → World → Prop} {a : Act} {w0 w : World} {L : List Res} {rest : List Oper}
variable {d : Option Tmp} {ty : TypeId} {pos : String} {aft : Array Edge}
/-- 'append([]T(nil), make([]T, n)...)', of which nothing will be read: kept as a row of no element -/
theorem own_appZ (hO : Own w0 w L) (s x : Operand) (t tn : TypeId) {e : TypeId} {z : Value} {bytes : Nat} (hE : Elem P t e z 1 bytes) {kn kq : IntKind} (htn : P.underlying tn = some (.int kn))
    {N : Int} (n : Nat) (hs : a.eval s = .slice none 0 0) (hx : a.eval x = .int kq N) (hN : N = (n : Int)) (h0 : 0 < n) (h63 : n ≤ maxLen) (hb : n * bytes ≤ 281474976710656)
    (h : ∀ g c w', Own w0 w' (.sl e 1 (.slice (some ⟨g, 0, none⟩) 0 c) 0 [] :: L) → wpList P ops Q rest (a.put d (.slice (some ⟨g, 0, none⟩) n c)) w') :
    wpList P ops Q ({ dst := d, op := .call { callee := .builtin .append, args := #[s, x], argTypes := #[t, tn] }, type := ty, pos := pos, after := aft, guard := none } :: rest) a w := by
  obtain ⟨inf, hinf, hz, hsz, hby⟩ := info_parts hE.info
  have hm : (n : Int) ≤ 9223372036854775807 := by have := h63; simp [maxLen] at this; omega
  have hr := Lib.run_append_nil_zeros (P := P) w t tn ty e inf z kq kn hE.slice htn hinf hz n h0 (by omega) hm (by rw [hby]; exact hb)
  refine Lib.wpList_append_run w rfl s x t tn rfl _ _ hs (hx.trans (by rw [hN])) _ _ hr (h _ _ _ ?_)
  have hc := hE.cells
  have hrow := World.ownsRow_made (e := e) (size := 1) (base := w.drew.heap.size) w.drew (Builtin.zeroCells z.cells n ++ Builtin.zeroCells z.cells (grownCap w n 0 e - n)) (grownCap w n 0 e) (Nat.le_refl _) (grownCap_le_maxLen w n 0 e h63)
    (by
      have hg := grownCap_ge w n 0 e
      simp [Builtin.zeroCells, hc]
      omega)
  exact hO.drew.add ((Below.refl _ _).alloc (Nat.le_refl _) _) hrow
end

set_option maxHeartbeats 2000000 in
set_option maxRecDepth 100000 in
theorem grow_calls (n : Nat) (hn : n ≤ 1000000000) (w : World) :
    Calls Tryd.prog 41 #[.slice none 0 0, .int .i64 (n : Int)] w fun e w' => ∃ a' c', e = .returned (.slice a' 0 c') ∧ Below w.heap.size w w' ∧ w'.ownsRow w.heap.size 5 1 (.slice a' 0 c') 0 [] := by
  have hO := Own.start w
  generalize hW : w = wn at hO ⊢
  clear hW w
  have d0 : decide ((n : Int) < 0) = false := by simp
  by_cases h0 : n = 0
  · subst h0
    go_enter Tryd.func41, Tryd.ntmps41
    go_wp2
    go_ret
    exact ⟨_, _, rfl, hO.below, World.ownsRow_nil _ _ _ _⟩
  · have d1 : decide (0 < n) = true := by simp; omega
    have e1 : wrap64 (n : Int) = (n : Int) := by unfold wrap64; omega
    have HZ := Lib.hid h0
    clear h0
    go_enter Tryd.func41, Tryd.ntmps41
    go_wp2_with (first
      | ((with_reducible refine gAppend ?_); refine own_appZ hO _ _ 28 3 eu8 Tryd.underlying3 n rfl rfl rfl (by have := HZ.out; omega) (by simp [maxLen]; omega) (by omega) ?_; clear hO; intro g c ww hO))
    go_ret
    exact ⟨_, _, rfl, hO.below, hO.row 0 rfl⟩

set_option maxHeartbeats 2000000 in
set_option maxRecDepth 100000 in
theorem clone_calls (a : Option Addr) (n c : Nat) (bs : List (BitVec 8)) (w : World) (hR : Rd w 1 a n c (u8s bs)) (hn : n ≤ 1000000) :
    Calls Tryd.prog 36 #[.slice a n c] w fun e w' => ∃ a' c', e = .returned (.slice a' n c') ∧ Below w.heap.size w w' ∧ w'.ownsRow w.heap.size 5 1 (.slice a' n c') n (u8s bs) := by
  have hO := Own.start w
  cases a with
  | none =>
    obtain ⟨rfl, rfl⟩ := hR.nil rfl
    have hb : u8s bs = [] := List.eq_nil_of_length_eq_zero (by rw [hR.len])
    rw [hb]
    have hnil : ∀ W, (binOp .eql 28 (.slice none 0 0) (.slice none 0 0)).run Tryd.prog W = .ok (.bool true) W := fun W => Go.run_eql_slice_nil W _ _ none 0 0 Tryd.underlying28
    clear hR hb
    generalize hW : w = wn at hO ⊢
    clear hW w
    go_enter Tryd.func36, Tryd.ntmps36
    go_wp2
    go_ret
    exact ⟨_, _, rfl, hO.below, World.ownsRow_nil _ _ _ _⟩
  | some ad =>
    have HR := Lib.hid hR
    have hnil : ∀ W, (binOp .eql 28 (.slice (some ad) n c) (.slice none 0 0)).run Tryd.prog W = .ok (.bool false) W := fun W => Go.run_eql_slice_nil W _ _ (some ad) n c Tryd.underlying28
    clear hR
    generalize hW : w = wn at hO HR ⊢
    clear hW w
    go_enter Tryd.func36, Tryd.ntmps36
    go_wp2_with (first
      | ((with_reducible refine gBuild ?_); refine own_build0 hO 28 eu8 ?_; clear hO; intro g ww hO)
      | ((with_reducible refine gAppend ?_); refine own_append hO 0 _ _ 28 eu8 rfl rfl rfl (hO.rd HR.out) (u8s_one _) n (by omega) (by simp [maxLen]; omega) (by omega) ?_; clear hO; intro a2 c2 ww hO))
    go_ret
    exact ⟨_, _, rfl, hO.below, hO.row 0 rfl⟩

/-- what is there ahead of the k-th of three -/
def sumK (n1 n2 n3 : Nat) : Nat → Nat
  | 0 => 0
  | 1 => n1
  | 2 => n1 + n2
  | _ => n1 + n2 + n3
def catK (b1 b2 b3 : List (BitVec 8)) : Nat → List (BitVec 8)
  | 0 => []
  | 1 => b1
  | 2 => b1 ++ b2
  | _ => b1 ++ b2 ++ b3
theorem u8s_append' (a b : List (BitVec 8)) : u8s a ++ u8s b = u8s (a ++ b) := by unfold u8s; rw [List.map_append]

set_option maxHeartbeats 4000000 in
set_option maxRecDepth 100000 in
theorem concat3_calls (a0 : Option Addr) (c0 : Nat) (a1 a2 a3 : Option Addr) (n1 c1 n2 c2 n3 c3 : Nat) (b1 b2 b3 : List (BitVec 8)) (w : World)
    (hR : Rd w 1 a0 3 c0 [.slice a1 n1 c1, .slice a2 n2 c2, .slice a3 n3 c3]) (h1 : Rd w 1 a1 n1 c1 (u8s b1)) (h2 : Rd w 1 a2 n2 c2 (u8s b2)) (h3 : Rd w 1 a3 n3 c3 (u8s b3)) (m1 : n1 ≤ 1000000) (m2 : n2 ≤ 1000000) (m3 : n3 ≤ 1000000) :
    Calls Tryd.prog 31 #[.slice a0 3 c0] w fun e w' => ∃ a' c', e = .returned (.slice a' (n1 + n2 + n3) c') ∧ Below w.heap.size w w' ∧ w'.ownsRow w.heap.size 5 1 (.slice a' (n1 + n2 + n3) c') (n1 + n2 + n3) (u8s (b1 ++ b2 ++ b3)) := by
  have hO := Own.start w
  obtain ⟨g0, off, rfl⟩ := hR.place (by omega)
  have HR := Lib.hid hR
  have H1 := Lib.hid h1
  have H2 := Lib.hid h2
  have H3 := Lib.hid h3
  clear hR h1 h2 h3
  generalize hW : w = wn at hO HR H1 H2 H3 ⊢
  clear hW w
  go_enter Tryd.func31, Tryd.ntmps31
  go_wp2
  go_loopg [3, 5, 11] 3 (fun m s3 s5 c wr => ∃ k : Nat, m = 3 - k ∧ k ≤ 3 ∧ c = .int .i64 k ∧ s3 = .int .i64 (sumK n1 n2 n3 k : Nat) ∧ Own wn wr [])
  case atStart => exact ⟨0, rfl, by omega, rfl, rfl, hO⟩
  case round =>
    obtain ⟨k, rfl, hk, rfl, rfl, hO1⟩ := hrel
    clear hO
    have hO := hO1
    clear hO1
    obtain rfl | rfl | rfl | rfl : k = 0 ∨ k = 1 ∨ k = 2 ∨ k = 3 := by omega
    · simp only [sumK]
      have dz : decide ((n1 : Int) < 0) = false := by simp
      have ez : wrap64 (n1 : Int) = (n1 : Int) := by unfold wrap64; omega
      go_wp2_with ((with_reducible refine gLoad ?_); refine ld_rd (hO.rd HR.out) rfl (show ([.slice a1 n1 c1, .slice a2 n2 c2, .slice a3 n3 c3] : List Value)[0]? = some (.slice a1 n1 c1) from rfl) (tA rfl) ?_)
      go_roundg 2
      case measure => omega
      case rel => exact ⟨1, rfl, by omega, by go_num, by simp [sumK], hO⟩
    · simp only [sumK]
      have dz : decide ((n1 : Int) + (n2 : Int) < 0) = false := by simp; omega
      have ez : wrap64 ((n1 : Int) + (n2 : Int)) = (n1 : Int) + (n2 : Int) := by unfold wrap64; omega
      go_wp2_with ((with_reducible refine gLoad ?_); refine ld_rd (hO.rd HR.out) rfl (show ([.slice a1 n1 c1, .slice a2 n2 c2, .slice a3 n3 c3] : List Value)[1]? = some (.slice a2 n2 c2) from rfl) (tA rfl) ?_)
      go_roundg 1
      case measure => omega
      case rel => exact ⟨2, rfl, by omega, by go_num, by simp [sumK], hO⟩
    · simp only [sumK]
      have dz : decide ((n1 : Int) + (n2 : Int) + (n3 : Int) < 0) = false := by simp; omega
      have ez : wrap64 ((n1 : Int) + (n2 : Int) + (n3 : Int)) = (n1 : Int) + (n2 : Int) + (n3 : Int) := by unfold wrap64; omega
      go_wp2_with ((with_reducible refine gLoad ?_); refine ld_rd (hO.rd HR.out) rfl (show ([.slice a1 n1 c1, .slice a2 n2 c2, .slice a3 n3 c3] : List Value)[2]? = some (.slice a3 n3 c3) from rfl) (tA rfl) ?_)
      go_roundg 0
      case measure => omega
      case rel => exact ⟨3, rfl, by omega, by go_num, by simp [sumK], hO⟩
    · simp only [sumK]
      have hg := grow_calls (n1 + n2 + n3) (by omega)
      rw [show ((n1 + n2 + n3 : Nat) : Int) = (n1 : Int) + (n2 : Int) + (n3 : Int) by omega] at hg
      have HG := Lib.hid hg
      clear hg
      go_wp2_with (go_at_call 41; refine (HG.out _).mono ?_; rintro e ww ⟨aG, cG, rfl, hb, hr⟩; replace hO := hO.addRow hb hr; clear hb hr)
      go_loopg [6, 8, 27] 3 (fun m s6 s8 c wr => ∃ (k : Nat) (aK : Option Addr) (cK : Nat), m = 3 - k ∧ k ≤ 3 ∧ c = .int .i64 k ∧ s6 = .slice aK (sumK n1 n2 n3 k) cK ∧ Own wn wr [.sl 5 1 (.slice aK (sumK n1 n2 n3 k) cK) (sumK n1 n2 n3 k) (u8s (catK b1 b2 b3 k))])
      case atStart => exact ⟨0, _, _, rfl, by omega, rfl, rfl, hO⟩
      case round =>
        obtain ⟨k, aK, cK, rfl, hk, rfl, rfl, hO1⟩ := hrel
        clear hO
        have hO := hO1
        clear hO1
        obtain rfl | rfl | rfl | rfl : k = 0 ∨ k = 1 ∨ k = 2 ∨ k = 3 := by omega
        · simp only [sumK, catK] at hO ⊢
          go_wp2_with (first
            | ((with_reducible refine gLoad ?_); refine ld_rd (hO.rd HR.out) rfl (show ([.slice a1 n1 c1, .slice a2 n2 c2, .slice a3 n3 c3] : List Value)[0]? = some (.slice a1 n1 c1) from rfl) (tA rfl) ?_)
            | ((with_reducible refine gAppend ?_); refine own_append hO 0 _ _ 28 eu8 rfl rfl rfl (hO.rd H1.out) (u8s_one _) n1 (by omega) (by simp [maxLen]; omega) (by omega) ?_; clear hO; intro a2 c2 ww hO))
          go_roundg 2
          case measure => omega
          case rel => exact ⟨1, _, _, rfl, by omega, by go_num, rfl, hO⟩
        · simp only [sumK, catK] at hO ⊢
          go_wp2_with (first
            | ((with_reducible refine gLoad ?_); refine ld_rd (hO.rd HR.out) rfl (show ([.slice a1 n1 c1, .slice a2 n2 c2, .slice a3 n3 c3] : List Value)[1]? = some (.slice a2 n2 c2) from rfl) (tA rfl) ?_)
            | ((with_reducible refine gAppend ?_); refine own_append hO 0 _ _ 28 eu8 rfl rfl rfl (hO.rd H2.out) (u8s_one _) (n1 + n2) rfl (by simp [maxLen]; omega) (by omega) ?_; clear hO; intro a2 c2 ww hO))
          go_roundg 1
          case measure => omega
          case rel => exact ⟨2, _, _, rfl, by omega, by go_num, rfl, by simp only [catK]; rw [← u8s_append']; exact hO⟩
        · simp only [sumK, catK] at hO ⊢
          go_wp2_with (first
            | ((with_reducible refine gLoad ?_); refine ld_rd (hO.rd HR.out) rfl (show ([.slice a1 n1 c1, .slice a2 n2 c2, .slice a3 n3 c3] : List Value)[2]? = some (.slice a3 n3 c3) from rfl) (tA rfl) ?_)
            | ((with_reducible refine gAppend ?_); refine own_append hO 0 _ _ 28 eu8 rfl rfl rfl (hO.rd H3.out) (u8s_one _) (n1 + n2 + n3) rfl (by simp [maxLen]; omega) (by omega) ?_; clear hO; intro a2 c2 ww hO))
          go_roundg 0
          case measure => omega
          case rel => exact ⟨3, _, _, rfl, by omega, by go_num, rfl, by simp only [catK]; rw [← u8s_append']; exact hO⟩
        · simp only [sumK, catK] at hO ⊢
          go_wp2
          go_ret
          exact ⟨_, _, rfl, hO.below, hO.row 0 rfl⟩
end Go.Proofs.YtekiloagckkneaaDoor
