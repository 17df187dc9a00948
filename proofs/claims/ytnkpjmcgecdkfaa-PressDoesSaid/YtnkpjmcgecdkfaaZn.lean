/- Walks: press.number, Bits. -/
import Derived.Test.YtnkpjmcgecdkfaaZm
namespace Go.Own
open Go.RowKit
/-- of what a call has made, one thing -/
theorem Own.only' {w0 w : World} {L : List Res} (h : Own w0 w L) {r : Res} (hr : r ∈ L) : Own w0 w [r] :=
  ⟨h.below, fun q hq => by rw [List.mem_singleton] at hq; rw [hq]; exact h.mem r hr, List.pairwise_singleton _ _⟩
end Go.Own
namespace Go.Proofs.Ytnkpjmcgecdkfaa
open Go.RowKit Go.Own Go.Bv Go.Ord Go.Eq Go.Opn Go.Pb Go.Mt

theorem pw4 {x : Int} (h : x < 16) : x < 2 ^ 4 := h
theorem pw8 {x : Int} (h : x < 256) : x < 2 ^ 8 := h
theorem ebtz : Elem Try.prog 24 32 (.agg zB.C) 2 16 := ⟨Try.underlying24, by kernel_rfl, rfl, by decide⟩

set_option maxHeartbeats 2000000 in
set_option maxRecDepth 100000 in
theorem number_calls {w0 w : World} {L : List Res} {a : Option Addr} {m c : Nat} (q : List Bt) (n wide tree : Nat) (hn : n < 2 ^ wide) (hw : wide ≤ 8) (ht : tree ≤ 300) (hm : m ≤ 10000000)
    (hO : Own w0 w (.sl 32 2 (.slice a m c) m (bts q) :: L)) :
    Calls Try.prog 21 #[.slice a m c, .int .i64 (n : Int), .int .i64 (wide : Int), .int .i64 (tree : Int)] w fun e w' => ∃ a' c', e = .returned (.slice a' (m + wide) c') ∧
      Own w0 w' (.sl 32 2 (.slice a' (m + wide) c') (m + wide) (bts (q ++ Go.Pz.numT (2 ^ wide + n) tree wide)) :: L) := by
  obtain ⟨N, hN⟩ : ∃ N, 2 ^ wide + n = N := ⟨_, rfl⟩
  have HN := Lib.hid hN
  have HNN := Lib.hid hn
  rw [hN]
  clear hN hn
  have i0 : IntKind.i64.wrap ((wide : Int) - 1) = (wide : Int) - 1 := by rw [IntKind.wrap_i64]; omega
  go_enter Try.func21, Try.ntmps21
  go_wp2
  go_loopg [0, 9, 10] wide (fun mm s0 s9 s10 wr => ∃ (r : Nat) (z : Int) (v : Nat) (D : List Bt) (aJ : Option Addr) (cJ M : Nat), mm = r ∧ r ≤ wide ∧ s10 = .int .i64 z ∧ z = (r : Int) - 1 ∧ s9 = .int .i64 (v : Int) ∧ Hid (v = N / 2 ^ r) ∧ s0 = .slice aJ M cJ ∧ M + r = m + wide ∧ Hid (D ++ Go.Pz.numT N tree r = Go.Pz.numT N tree wide) ∧
    Own w0 wr (.sl 32 2 (.slice aJ M cJ) M (bts (q ++ D)) :: L))
  case atStart => exact ⟨wide, (wide : Int) - 1, 1, [], a, c, m, rfl, by omega, rfl, rfl, rfl, by
    show _ = _
    rw [← HN.out, Nat.add_comm, Nat.add_div_right _ (Nat.pow_pos (by decide)), Nat.div_eq_of_lt HNN.out], rfl, rfl, rfl, by rw [List.append_nil]; exact hO⟩
  case round =>
    obtain ⟨r, z, v, D, aJ, cJ, M, hmm, hr, rfl, hz, rfl, HV, rfl, hM, HD, hO1⟩ := hrel
    clear hO i0
    have hO := hO1
    clear hO1
    by_cases hr0 : 0 < r
    · obtain ⟨k, rfl⟩ : ∃ k, r = k + 1 := ⟨r - 1, by omega⟩
      obtain rfl : z = (k : Int) := by omega
      clear hz
      obtain ⟨bt, hbt⟩ : ∃ bt, N / 2 ^ k % 2 = bt := ⟨_, rfl⟩
      have hb2 : bt < 2 := by rw [← hbt]; exact Nat.mod_lt _ (by decide)
      have hnk : n / 2 ^ k < 256 := Nat.lt_of_le_of_lt (Nat.div_le_self _ _) (Nat.lt_of_lt_of_le HNN.out (Nat.le_trans (Nat.pow_le_pow_right (by decide) hw) (by decide)))
      have hN2 : N < 512 := by
        rw [← HN.out]
        have h1 := HNN.out
        have h2 : 2 ^ wide ≤ 256 := Nat.le_trans (Nat.pow_le_pow_right (by decide) hw) (by decide)
        omega
      have hv : v ≤ 512 := by rw [HV.out]; exact Nat.le_trans (Nat.div_le_self _ _) (by omega)
      have e1 : bits .and .i64 ((n : Int) / 2 ^ k) 1 = (bt : Int) := by
        have h := Go.Pz.and1_i64 (n / 2 ^ k) (by omega)
        rw [Go.Pz.bit_same HN.out (by omega), hbt] at h
        rw [← h]; push_cast; rfl
      have e4 : bits .or .i64 ((v : Int) * 2) (bt : Int) = ((v * 2 + bt : Nat) : Int) := Go.Pz.or1_i64 v bt (by omega) hb2
      have HV2 : Hid (v * 2 + bt = N / 2 ^ k) := by show _ = _; rw [HV.out, ← hbt]; exact Go.Pz.node_next N k
      have HD2 : Hid ((D ++ [(⟨(tree : Int) + (v : Int), decide (bt = 1)⟩ : Bt)]) ++ Go.Pz.numT N tree k = Go.Pz.numT N tree wide) := by
        show _ = _
        rw [← HD.out, List.append_assoc, ← Int.natCast_add, HV.out, ← hbt]; rfl
      have e3 : ((bt : Int) == 1) = decide (bt = 1) := by
        rw [Bool.eq_iff_iff]; simp; omega
      have HQ : Hid (bts (q ++ (D ++ [(⟨(tree : Int) + (v : Int), decide (bt = 1)⟩ : Bt)])) = bts (q ++ D) ++ bts [(⟨(tree : Int) + (v : Int), decide (bt = 1)⟩ : Bt)]) := by
        show _ = _
        rw [← List.append_assoc, bts_append]
      clear hbt hnk hN2
      obtain ⟨B, hB⟩ : ∃ B, decide (bt = 1) = B := ⟨_, rfl⟩
      rw [hB] at e3 HD2 HQ
      clear hB
      have i3 : IntKind.i64.wrap ((k : Int) - 1) = (k : Int) - 1 := by rw [IntKind.wrap_i64]; omega
      have hMb : M ≤ 10000100 := by omega
      go_wp2_with (first
        | ((with_reducible refine gBuild (T := 24) ?_); refine own_build hO 24 1 _ ebtz (bts [(⟨(tree : Int) + (v : Int), B⟩ : Bt)]).toArray (by omega) (by omega) (by kernel_rfl) rfl ?_; clear hO; intro g ww hO)
        | ((with_reducible refine gAppend ?_); refine own_append hO 1 _ _ 24 ebtz rfl rfl rfl (hO.rdAt 0 rfl) (bts_one _) (M + 1) rfl (by simp [maxLen]; omega) (by omega) ?_; clear hO; intro a2 c2 ww hO))
      go_roundg k
      case measure => omega
      case rel => exact ⟨k, (k : Int) - 1, v * 2 + bt, D ++ [(⟨(tree : Int) + (v : Int), B⟩ : Bt)], a2, c2, M + 1, rfl, by omega, by go_num, rfl, rfl, HV2.out, rfl, by omega, HD2.out, by rw [HQ.out]; exact hO.tail⟩
    · obtain rfl : r = 0 := by omega
      have d2 : decide (0 ≤ z) = false := decide_eq_false (by omega)
      obtain rfl : M = m + wide := by omega
      have HDD : Hid (D = Go.Pz.numT N tree wide) := by
        have h := HD.out
        show _ = _
        rw [← h]; simp [Go.Pz.numT]
      rw [HDD.out] at hO
      go_wp2
      go_ret
      exact ⟨aJ, cJ, rfl, hO⟩

/-- the three calls as they stand -/
theorem number_lit {w0 w : World} {L : List Res} {a : Option Addr} {m c : Nat} (q : List Bt) (x : BitVec 8) (hm : m ≤ 10000000) (hO : Own w0 w (.sl 32 2 (.slice a m c) m (bts q) :: L)) :
    Calls Try.prog 21 #[.slice a m c, .int .i64 (x.toNat : Int), .int .i64 8, .int .i64 0] w fun e w' => ∃ a' c', e = .returned (.slice a' (m + 8) c') ∧
      Own w0 w' (.sl 32 2 (.slice a' (m + 8) c') (m + 8) (bts (q ++ Go.Pz.numT (256 + x.toNat) 0 8)) :: L) :=
  number_calls q x.toNat 8 0 x.isLt (by omega) (by omega) hm hO
theorem number_int {w0 w : World} {L : List Res} {a : Option Addr} {m c : Nat} (q : List Bt) (x : Int) (wide tree : Nat) (h0 : 0 ≤ x) (h1 : x < 2 ^ wide) (hw : wide ≤ 8) (ht : tree ≤ 300) (hm : m ≤ 10000000) (hO : Own w0 w (.sl 32 2 (.slice a m c) m (bts q) :: L)) :
    Calls Try.prog 21 #[.slice a m c, .int .i64 x, .int .i64 (wide : Int), .int .i64 (tree : Int)] w fun e w' => ∃ a' c', e = .returned (.slice a' (m + wide) c') ∧
      Own w0 w' (.sl 32 2 (.slice a' (m + wide) c') (m + wide) (bts (q ++ Go.Pz.numT (2 ^ wide + x.toNat) tree wide)) :: L) := by
  obtain ⟨n, rfl⟩ : ∃ n : Nat, x = (n : Int) := ⟨x.toNat, by omega⟩
  rw [Int.toNat_natCast]
  exact number_calls q n wide tree (by exact_mod_cast h1) hw ht hm hO

set_option maxHeartbeats 8000000 in
set_option maxRecDepth 100000 in
theorem bits_ok (a : Option Addr) (n c : Nat) (l : List Tok) (w : World) (hR : Rd w 3 a n c (tks l)) (hn : n ≤ 65536) (hk : okFrom 0 l) (B : List Bt) (hB : Go.Pz.bitsAll l = B) (K : Nat) (hK : B.length = K) :
    Calls Try.prog 10 #[.slice a n c] w fun e w' => ∃ a' c', e = .returned (.tuple #[.slice a' K c', .int .i64 0]) ∧ Below w.heap.size w w' ∧ w'.ownsRow w.heap.size 32 2 (.slice a' K c') K (bts B) := by
  have hO := Own.start w
  have hlen : l.length = n := by have := hR.len; rw [tks_length] at this; omega
  have HC := Lib.hid (fun w h => check_calls a n c l w h 0 (fun _ _ => rfl) (fun h1 => by rcases h1 with h1 | h1; omega; exact absurd hk h1))
  have HR := Lib.hid hR
  have HL := Lib.hid hlen
  have HK := Lib.hid hk
  have HB := Lib.hid hB
  have HKK := Lib.hid hK
  clear hR hlen hk hB hK
  generalize hW : w = wn at hO HR ⊢
  clear hW w
  go_enter Try.func10, Try.ntmps10
  go_wp2_with (first
    | (go_at_call 11; refine (HC.out _ (hO.rd HR.out)).mono ?_; rintro e ww ⟨rfl, hb⟩; replace hO := hO.call hb; clear hb))
  replace hO : Own wn _ [.sl 32 2 (.slice none 0 0) 0 (bts (Go.Pz.bitsAll (l.take 0)))] := hO.addRow (Below.refl _ _) (World.ownsRow_nil _ _ _ _)
  go_loopg [2, 15] n (fun mm s2 cc wr => ∃ (k M : Nat) (aO : Option Addr) (cO : Nat), mm = n - k ∧ k ≤ n ∧ cc = .int .i64 (k : Int) ∧ s2 = .slice aO M cO ∧ Hid ((Go.Pz.bitsAll (l.take k)).length = M) ∧ Own wn wr [.sl 32 2 (.slice aO M cO) M (bts (Go.Pz.bitsAll (l.take k)))])
  case atStart => exact ⟨0, 0, none, 0, rfl, by omega, rfl, rfl, rfl, hO⟩
  case round =>
    obtain ⟨k, M, aO, cO, rfl, hkn, rfl, rfl, HM, hO1⟩ := hrel
    clear hO
    have hO := hO1
    clear hO1
    by_cases c1 : k < n
    · have d1 : decide ((k : Int) < (n : Int)) = true := decide_eq_true (by omega)
      have hkl : k < l.length := by rw [HL.out]; exact c1
      have ht := List.getElem?_eq_getElem (l := l) (i := k) hkl
      have hbn := Go.Pz.bitsAll_next hkl
      have hokk := ((okFrom_next hkl).1 (okFrom_take (k + 1) HK.out)).2
      generalize l[k] = t at ht hbn hokk
      have hMb : M ≤ 1000000 := by
        have := Go.Pz.bitsAll_length_le (l.take k)
        rw [HM.out, List.length_take] at this
        omega
      have HT := Lib.hid ht
      obtain ⟨b0, off, rfl⟩ := HR.out.place (by omega)
      obtain ⟨Q, hQ⟩ : ∃ Q, Go.Pz.bitsAll (l.take k) = Q := ⟨_, rfl⟩
      rw [hQ] at hO hbn HM
      obtain ⟨lit, len, dist⟩ := t
      have HBN := Lib.hid hbn
      clear ht hkl hbn hQ
      by_cases h0 : len = 0
      · subst h0
        have HN : Hid (Go.Pz.bitsAll (l.take (k + 1)) = (Q ++ [⟨0, false⟩]) ++ Go.Pz.numT (256 + lit.toNat) 0 8) := by
          show _ = _
          rw [HBN.out, List.append_assoc]; rfl
        have HA : Hid (bts (Q ++ [⟨0, false⟩]) = bts Q ++ bts [⟨0, false⟩]) := by show _ = _; rw [bts_append]
        have HNC := Lib.hid (fun (w : World) (L : List Res) (a : Option Addr) (c : Nat) hO => number_lit (w0 := wn) (w := w) (L := L) (a := a) (c := c) (m := M + 1) (Q ++ [⟨0, false⟩]) lit (by omega) hO)
        have HLN : Hid ((Go.Pz.bitsAll (l.take (k + 1))).length = M + 1 + 8) := by
          show _ = _
          rw [HN.out, List.length_append, List.length_append, HM.out, Go.Pz.numT_length]; rfl
        clear hokk
        go_wp2_with (first
          | ((with_reducible refine gAlloc (T := 30) ?_); refine own_alloc hO _ _ itz ?_; clear hO; intro bx ww hO)
          | ((with_reducible refine gLoad (T := 30) ?_); refine ld_tok (hO.rd HR.out) HT.out rfl (by omega) (tA rfl) (tS rfl) ?_)
          | ((with_reducible refine gLoad ?_); first | refine ldX hO 0 rfl rfl (tA rfl) (tS rfl) ?_ | refine ldC hO 0 rfl rfl (tA rfl) rfl ?_ | refine ldX hO 1 rfl rfl (tA rfl) (tS rfl) ?_ | refine ldC hO 1 rfl rfl (tA rfl) rfl ?_)
          | ((with_reducible refine gStore ?_); first | (refine stX hO 0 rfl rfl rfl rfl rfl (tS rfl) ?_; clear hO; intro ww hO) | (refine stC hO 0 rfl rfl rfl (ltb rfl) rfl (tS rfl) ?_; clear hO; intro ww hO))
          | ((with_reducible refine gBuild (T := 24) ?_); refine own_build hO 24 1 _ ebtz (bts [⟨0, false⟩]).toArray (by omega) (by omega) (by kernel_rfl) rfl ?_; clear hO; intro g ww hO)
          | ((with_reducible refine gAppend ?_); refine own_append hO 2 _ _ 24 ebtz rfl rfl rfl (hO.rdAt 0 rfl) (bts_one _) (M + 1) rfl (by simp [maxLen]; omega) (by omega) ?_; clear hO; intro a2 c2 ww hO; replace hO := hO.tail.swap)
          | (go_at_call 21; refine (HNC.out _ _ _ _ (by rw [HA.out]; exact hO)).mono ?_; rintro e ww ⟨a3, c3, rfl, hO2⟩; clear hO; have hO := hO2; clear hO2))
        go_roundg (n - (k + 1))
        case measure => omega
        case rel => exact ⟨k + 1, M + 1 + 8, a3, c3, rfl, by omega, by go_num, rfl, HLN.out, by rw [HN.out]; exact hO.only' (by simp)⟩
      · have hk2 : 3 ≤ len ∧ len ≤ 18 ∧ 1 ≤ dist ∧ dist ≤ 256 := by
          unfold Tok.ok at hokk
          dsimp only at hokk
          omega
        obtain ⟨k3, k4, k5, k6⟩ := hk2
        have HN : Hid (Go.Pz.bitsAll (l.take (k + 1)) = ((Q ++ [⟨0, true⟩]) ++ Go.Pz.numT (16 + (len - 3).toNat) 256 4) ++ Go.Pz.numT (256 + (dist - 1).toNat) 272 8) := by
          show _ = _
          rw [HBN.out]
          unfold Go.Pz.bitsOf
          rw [if_neg h0]
          simp only [List.append_assoc, List.singleton_append, List.cons_append, List.nil_append]
        have HA : Hid (bts (Q ++ [⟨0, true⟩]) = bts Q ++ bts [⟨0, true⟩]) := by show _ = _; rw [bts_append]
        have HNC := Lib.hid (fun (w : World) (L : List Res) (a : Option Addr) (c : Nat) hO => number_int (w0 := wn) (w := w) (L := L) (a := a) (c := c) (m := M + 1) (Q ++ [⟨0, true⟩]) (len - 3) 4 256 (by omega) (pw4 (by omega)) (by omega) (by omega) (by omega) hO)
        have HNC2 := Lib.hid (fun (w : World) (L : List Res) (a : Option Addr) (c : Nat) hO => number_int (w0 := wn) (w := w) (L := L) (a := a) (c := c) (m := M + 1 + 4) ((Q ++ [⟨0, true⟩]) ++ Go.Pz.numT (16 + (len - 3).toNat) 256 4) (dist - 1) 8 272 (by omega) (pw8 (by omega)) (by omega) (by omega) (by omega) hO)
        have HLN : Hid ((Go.Pz.bitsAll (l.take (k + 1))).length = M + 1 + 4 + 8) := by
          show _ = _
          rw [HN.out, List.length_append, List.length_append, List.length_append, HM.out, Go.Pz.numT_length, Go.Pz.numT_length]; rfl
        have d2 : decide ((0 : Int) < len) = true := decide_eq_true (by omega)
        clear hokk h0
        go_wp2_with (first
          | ((with_reducible refine gAlloc (T := 30) ?_); refine own_alloc hO _ _ itz ?_; clear hO; intro bx ww hO)
          | ((with_reducible refine gLoad (T := 30) ?_); refine ld_tok (hO.rd HR.out) HT.out rfl (by omega) (tA rfl) (tS rfl) ?_)
          | ((with_reducible refine gLoad ?_); first | refine ldX hO 0 rfl rfl (tA rfl) (tS rfl) ?_ | refine ldC hO 0 rfl rfl (tA rfl) rfl ?_ | refine ldX hO 1 rfl rfl (tA rfl) (tS rfl) ?_ | refine ldC hO 1 rfl rfl (tA rfl) rfl ?_)
          | ((with_reducible refine gStore ?_); first | (refine stX hO 0 rfl rfl rfl rfl rfl (tS rfl) ?_; clear hO; intro ww hO) | (refine stC hO 0 rfl rfl rfl (ltb rfl) rfl (tS rfl) ?_; clear hO; intro ww hO))
          | ((with_reducible refine gBuild (T := 24) ?_); refine own_build hO 24 1 _ ebtz (bts [⟨0, true⟩]).toArray (by omega) (by omega) (by kernel_rfl) rfl ?_; clear hO; intro g ww hO)
          | ((with_reducible refine gAppend ?_); refine own_append hO 2 _ _ 24 ebtz rfl rfl rfl (hO.rdAt 0 rfl) (bts_one _) (M + 1) rfl (by simp [maxLen]; omega) (by omega) ?_; clear hO; intro a2 c2 ww hO; replace hO := hO.tail.swap)
          | (go_at_call 21; (with_reducible refine gCall #[_, _, .int .i64 4, _] ?_); refine (HNC.out _ _ _ _ (by rw [HA.out]; exact hO)).mono ?_; rintro e ww ⟨a3, c3, rfl, hO2⟩; clear hO; have hO := hO2; clear hO2)
          | (go_at_call 21; (with_reducible refine gCall #[_, _, .int .i64 8, _] ?_); refine (HNC2.out _ _ _ _ hO).mono ?_; rintro e ww ⟨a4, c4, rfl, hO2⟩; clear hO; have hO := hO2; clear hO2))
        go_roundg (n - (k + 1))
        case measure => omega
        case rel => exact ⟨k + 1, M + 1 + 4 + 8, a4, c4, rfl, by omega, by go_num, rfl, HLN.out, by rw [HN.out]; exact hO.only' (by simp)⟩
    · obtain rfl : k = n := by omega
      have HA : Hid (Go.Pz.bitsAll (l.take k) = B) := by show _ = _; rw [List.take_of_length_le (by rw [HL.out]; exact Nat.le_refl _), HB.out]
      rw [HA.out] at hO HM
      obtain rfl : K = M := by rw [← HKK.out, HM.out]
      go_wp2
      go_ret2
      exact ⟨aO, cO, rfl, hO.below, hO.row 0 rfl⟩

set_option maxHeartbeats 1000000 in
theorem bits_bad (a : Option Addr) (n c : Nat) (l : List Tok) (w : World) (hR : Rd w 3 a n c (tks l)) (h : 65536 < n ∨ ¬ okFrom 0 l) :
    Calls Try.prog 10 #[.slice a n c] w fun e w' => e = .returned (.tuple #[.slice none 0 0, .int .i64 1]) ∧ Below w.heap.size w w' := by
  have hO := Own.start w
  have HC := Lib.hid (fun w h' => check_calls a n c l w h' 1 (fun h1 h2 => by rcases h with h | h; omega; exact absurd h2 h) (fun _ => rfl))
  have HR := Lib.hid hR
  clear hR h
  generalize hW : w = wn at hO HR ⊢
  clear hW w
  go_enter Try.func10, Try.ntmps10
  go_wp2_with (first
    | (go_at_call 11; refine (HC.out _ (hO.rd HR.out)).mono ?_; rintro e ww ⟨rfl, hb⟩; replace hO := hO.call hb; clear hb))
  go_ret2
  exact ⟨rfl, hO.below⟩
end Go.Proofs.Ytnkpjmcgecdkfaa
