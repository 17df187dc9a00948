/- Walks: the document's number, Bits, Tokens of too long a text, Pack, Long, Same of bits (one list twice). -/
import Derived.Test.YtnkpjmcgecdkfaaZp
import Derived.Test.YtnkpjmcgecdkfaaMn
import Derived.Test.YtnkpjmcgecdkfaaMq
import Derived.Test.YtnkpjmcgecdkfaaKcc
import Derived.Deep.CutRange
import Derived.Laws.StructEq
namespace Go.Proofs.Ytnkpjmcgecdkfaa
open Go.RowKit Go.Own Go.Bv Go.Ord Go.Eq Go.Opn Go.Pb Go.Mt

set_option maxHeartbeats 2000000 in
set_option maxRecDepth 100000 in
theorem rnumber_calls (n wide tree : Nat) (hn : n < 2 ^ wide) (hw : wide ≤ 8) (ht : tree ≤ 300) (w : World) :
    Calls Try.prog 26 #[.int .i64 (n : Int), .int .i64 (wide : Int), .int .i64 (tree : Int)] w fun e w' => ∃ a' c', e = .returned (.slice a' wide c') ∧ Below w.heap.size w w' ∧ w'.ownsRow w.heap.size 32 2 (.slice a' wide c') wide (bts (Go.Pz.numT (2 ^ wide + n) tree wide)) := by
  have hO := Own.start w
  obtain ⟨N, hN⟩ : ∃ N, 2 ^ wide + n = N := ⟨_, rfl⟩
  have HN := Lib.hid hN
  have HNN := Lib.hid hn
  rw [hN]
  clear hN hn
  have i0 : IntKind.i64.wrap ((wide : Int) - 1) = (wide : Int) - 1 := by rw [IntKind.wrap_i64]; omega
  generalize hW : w = wn at hO ⊢
  clear hW w
  go_enter Try.func26, Try.ntmps26
  go_wp2
  have hO2 : Own wn wn [.sl 32 2 (.slice none 0 0) 0 (bts [])] := hO.addRow (Below.refl _ _) (World.ownsRow_nil _ _ _ _)
  clear hO
  have hO := hO2
  clear hO2
  go_loopg [7, 8, 9] wide (fun mm s7 s8 s9 wr => ∃ (r : Nat) (z : Int) (v : Nat) (D : List Bt) (aJ : Option Addr) (cJ M : Nat), mm = r ∧ r ≤ wide ∧ s9 = .int .i64 z ∧ z = (r : Int) - 1 ∧ s8 = .int .i64 (v : Int) ∧ Hid (v = N / 2 ^ r) ∧ s7 = .slice aJ M cJ ∧ M + r = wide ∧ Hid (D ++ Go.Pz.numT N tree r = Go.Pz.numT N tree wide) ∧
    Own wn wr [.sl 32 2 (.slice aJ M cJ) M (bts D)])
  case atStart => exact ⟨wide, (wide : Int) - 1, 1, [], none, 0, 0, rfl, by omega, rfl, rfl, rfl, by
    show _ = _
    rw [← HN.out, Nat.add_comm, Nat.add_div_right _ (Nat.pow_pos (by decide)), Nat.div_eq_of_lt HNN.out], rfl, by omega, rfl, hO⟩
  case round =>
    obtain ⟨r, z, v, D, aJ, cJ, M, hmm, hr, rfl, hz, rfl, HV, rfl, hM, HD, hO1⟩ := hrel
    clear hO i0
    have hO := hO1
    clear hO1
    by_cases hr0 : 0 < r
    · obtain ⟨k, rfl⟩ : ∃ k, r = k + 1 := ⟨r - 1, by omega⟩
      obtain rfl : z = (k : Int) := by omega
      clear hz
      obtain ⟨bt, hbt⟩ : ∃ bt, N / 2 ^ k % 2 = bt := ⟨_, rfl⟩
      have hb2 : bt < 2 := by rw [← hbt]; exact Nat.mod_lt _ (by decide)
      have hN2 : N < 512 := by
        rw [← HN.out]
        have h1 := HNN.out
        have h2 : 2 ^ wide ≤ 256 := Nat.le_trans (Nat.pow_le_pow_right (by decide) hw) (by decide)
        omega
      have hv : v ≤ 512 := by rw [HV.out]; exact Nat.le_trans (Nat.div_le_self _ _) (by omega)
      have e0 : ((n : Int) / 2 ^ k) % 2 = (bt : Int) := by
        have h := Go.Pz.bit_same HN.out (k := k) (by omega)
        rw [hbt] at h
        rw [← h]; push_cast; rfl
      have e1 : Int.tmod ((n : Int) / 2 ^ k) 2 = (bt : Int) := by
        rw [Int.tmod_eq_emod_of_nonneg (Int.ediv_nonneg (by omega) (Int.le_of_lt (Int.pow_pos (by decide))))]; exact e0
      have HV2 : Hid (v * 2 + bt = N / 2 ^ k) := by show _ = _; rw [HV.out, ← hbt]; exact Go.Pz.node_next N k
      have HD2 : Hid ((D ++ [(⟨(tree : Int) + (v : Int), decide (bt = 1)⟩ : Bt)]) ++ Go.Pz.numT N tree k = Go.Pz.numT N tree wide) := by
        show _ = _
        rw [← HD.out, List.append_assoc, ← Int.natCast_add, HV.out, ← hbt]; rfl
      clear hbt hN2
      have hMb : M ≤ 8 := by omega
      obtain rfl | rfl : bt = 0 ∨ bt = 1 := by omega
      · rw [decide_eq_false (by decide)] at HD2
        have HQ : Hid (bts (D ++ [(⟨(tree : Int) + (v : Int), false⟩ : Bt)]) = bts D ++ bts [(⟨(tree : Int) + (v : Int), false⟩ : Bt)]) := by show _ = _; rw [bts_append]
        go_wp2_with (first
          | ((with_reducible refine gBuild (T := 24) ?_); refine own_build hO 24 1 _ ebtz (bts [(⟨(tree : Int) + (v : Int), false⟩ : Bt)]).toArray (by omega) (by omega) (by kernel_rfl) rfl ?_; clear hO; intro g ww hO)
          | ((with_reducible refine gAppend ?_); refine own_append hO 1 _ _ 24 ebtz rfl rfl rfl (hO.rdAt 0 rfl) (bts_one _) (M + 1) rfl (by simp [maxLen]; omega) (by omega) ?_; clear hO; intro a2 c2 ww hO))
        go_roundg k
        case measure => omega
        case rel => exact ⟨k, (k : Int) - 1, v * 2 + 0, D ++ [(⟨(tree : Int) + (v : Int), false⟩ : Bt)], a2, c2, M + 1, rfl, by omega, by go_num, rfl, by go_num, HV2.out, rfl, by omega, HD2.out, by rw [HQ.out]; exact hO.tail⟩
      · rw [decide_eq_true rfl] at HD2
        have HQ : Hid (bts (D ++ [(⟨(tree : Int) + (v : Int), true⟩ : Bt)]) = bts D ++ bts [(⟨(tree : Int) + (v : Int), true⟩ : Bt)]) := by show _ = _; rw [bts_append]
        go_wp2_with (first
          | ((with_reducible refine gBuild (T := 24) ?_); refine own_build hO 24 1 _ ebtz (bts [(⟨(tree : Int) + (v : Int), true⟩ : Bt)]).toArray (by omega) (by omega) (by kernel_rfl) rfl ?_; clear hO; intro g ww hO)
          | ((with_reducible refine gAppend ?_); refine own_append hO 1 _ _ 24 ebtz rfl rfl rfl (hO.rdAt 0 rfl) (bts_one _) (M + 1) rfl (by simp [maxLen]; omega) (by omega) ?_; clear hO; intro a2 c2 ww hO))
        go_roundg k
        case measure => omega
        case rel => exact ⟨k, (k : Int) - 1, v * 2 + 1, D ++ [(⟨(tree : Int) + (v : Int), true⟩ : Bt)], a2, c2, M + 1, rfl, by omega, by go_num, rfl, by go_num, HV2.out, rfl, by omega, HD2.out, by rw [HQ.out]; exact hO.tail⟩
    · obtain rfl : r = 0 := by omega
      have d2 : decide (0 ≤ z) = false := decide_eq_false (by omega)
      obtain rfl : M = wide := by omega
      have HDD : Hid (D = Go.Pz.numT N tree M) := by
        have h := HD.out
        show _ = _
        rw [← h]; simp [Go.Pz.numT]
      rw [HDD.out] at hO
      go_wp2
      go_ret
      exact ⟨aJ, cJ, rfl, hO.below, hO.row 0 rfl⟩
end Go.Proofs.Ytnkpjmcgecdkfaa

namespace Go.Proofs.Ytnkpjmcgecdkfaa
open Go.RowKit Go.Own Go.Bv Go.Ord Go.Eq Go.Opn Go.Pb Go.Mt

theorem rnumber_lit (x : BitVec 8) (w : World) : Calls Try.prog 26 #[.int .i64 (x.toNat : Int), .int .i64 8, .int .i64 0] w fun e w' => ∃ a' c', e = .returned (.slice a' 8 c') ∧ Below w.heap.size w w' ∧ w'.ownsRow w.heap.size 32 2 (.slice a' 8 c') 8 (bts (Go.Pz.numT (256 + x.toNat) 0 8)) :=
  rnumber_calls x.toNat 8 0 x.isLt (by omega) (by omega) w
theorem rnumber_int (x : Int) (wide tree : Nat) (h0 : 0 ≤ x) (h1 : x < 2 ^ wide) (hw : wide ≤ 8) (ht : tree ≤ 300) (w : World) : Calls Try.prog 26 #[.int .i64 x, .int .i64 (wide : Int), .int .i64 (tree : Int)] w fun e w' => ∃ a' c', e = .returned (.slice a' wide c') ∧ Below w.heap.size w w' ∧ w'.ownsRow w.heap.size 32 2 (.slice a' wide c') wide (bts (Go.Pz.numT (2 ^ wide + x.toNat) tree wide)) := by
  obtain ⟨n, rfl⟩ : ∃ n : Nat, x = (n : Int) := ⟨x.toNat, by omega⟩
  rw [Int.toNat_natCast]
  exact rnumber_calls n wide tree (by exact_mod_cast h1) hw ht w

set_option maxHeartbeats 8000000 in
set_option maxRecDepth 100000 in
theorem rbits_ok (a : Option Addr) (n c : Nat) (l : List Tok) (w : World) (hR : Rd w 3 a n c (tks l)) (hn : n ≤ 65536) (hk : okFrom 0 l) (B : List Bt) (hB : Go.Pz.bitsAll l = B) (K : Nat) (hK : B.length = K) :
    Calls Try.prog 13 #[.slice a n c] w fun e w' => ∃ a' c', e = .returned (.tuple #[.slice a' K c', .int .i64 0]) ∧ Below w.heap.size w w' ∧ w'.ownsRow w.heap.size 32 2 (.slice a' K c') K (bts B) := by
  have hO := Own.start w
  have hlen : l.length = n := by have := hR.len; rw [tks_length] at this; omega
  have HC := Lib.hid (fun w h => rcheck_calls a n c l w h 0 (fun _ _ => rfl) (fun h1 => by rcases h1 with h1 | h1; omega; exact absurd hk h1))
  have HR := Lib.hid hR
  have HL := Lib.hid hlen
  have HK := Lib.hid hk
  have HB := Lib.hid hB
  have HKK := Lib.hid hK
  clear hR hlen hk hB hK
  generalize hW : w = wn at hO HR ⊢
  clear hW w
  go_enter Try.func13, Try.ntmps13
  go_wp2_with (first
    | (go_at_call 25; refine (HC.out _ (hO.rd HR.out)).mono ?_; rintro e ww ⟨rfl, hb⟩; replace hO := hO.call hb; clear hb))
  replace hO : Own wn _ [.sl 32 2 (.slice none 0 0) 0 (bts (Go.Pz.bitsAll (l.take 0)))] := hO.addRow (Below.refl _ _) (World.ownsRow_nil _ _ _ _)
  go_loopg [4, 12] n (fun mm s2 cc wr => ∃ (k M : Nat) (aO : Option Addr) (cO : Nat), mm = n - k ∧ k ≤ n ∧ cc = .int .i64 (k : Int) ∧ s2 = .slice aO M cO ∧ Hid ((Go.Pz.bitsAll (l.take k)).length = M) ∧ Own wn wr [.sl 32 2 (.slice aO M cO) M (bts (Go.Pz.bitsAll (l.take k)))])
  case atStart => exact ⟨0, 0, none, 0, rfl, by omega, rfl, rfl, rfl, hO⟩
  case round =>
    obtain ⟨k, M, aO, cO, rfl, hkn, rfl, rfl, HM, hO1⟩ := hrel
    clear hO
    have hO := hO1
    clear hO1
    by_cases c1 : k < n
    · have d1 : decide ((k : Int) < (n : Int)) = true := decide_eq_true (by omega)
      have hkl : k < l.length := by rw [HL.out]; exact c1
      have ht := List.getElem?_eq_getElem (l := l) (i := k) hkl
      have hbn := Go.Pz.bitsAll_next hkl
      have hokk := ((okFrom_next hkl).1 (okFrom_take (k + 1) HK.out)).2
      generalize l[k] = t at ht hbn hokk
      have hMb : M ≤ 1000000 := by
        have := Go.Pz.bitsAll_length_le (l.take k)
        rw [HM.out, List.length_take] at this
        omega
      have HT := Lib.hid ht
      obtain ⟨b0, off, rfl⟩ := HR.out.place (by omega)
      obtain ⟨Q, hQ⟩ : ∃ Q, Go.Pz.bitsAll (l.take k) = Q := ⟨_, rfl⟩
      rw [hQ] at hO hbn HM
      obtain ⟨lit, len, dist⟩ := t
      have HBN := Lib.hid hbn
      clear ht hkl hbn hQ
      by_cases h0 : len = 0
      · subst h0
        have HN : Hid (bts (Go.Pz.bitsAll (l.take (k + 1))) = (bts Q ++ bts [⟨0, false⟩]) ++ bts (Go.Pz.numT (256 + lit.toNat) 0 8)) := by
          show _ = _
          rw [HBN.out, ← bts_append, ← bts_append, List.append_assoc]; rfl
        have HNC := Lib.hid (fun (w : World) => rnumber_lit lit w)
        have HLN : Hid ((Go.Pz.bitsAll (l.take (k + 1))).length = M + 1 + 8) := by
          show _ = _
          rw [HBN.out, List.length_append, HM.out, Go.Pz.bitsOf_length]; rfl
        clear hokk
        go_wp2_with (first
          | ((with_reducible refine gAlloc (T := 30) ?_); refine own_alloc hO _ _ itz ?_; clear hO; intro bx ww hO)
          | ((with_reducible refine gLoad (T := 30) ?_); refine ld_tok (hO.rd HR.out) HT.out rfl (by omega) (tA rfl) (tS rfl) ?_)
          | ((with_reducible refine gLoad ?_); first | refine ldX hO 0 rfl rfl (tA rfl) (tS rfl) ?_ | refine ldC hO 0 rfl rfl (tA rfl) rfl ?_)
          | ((with_reducible refine gStore ?_); first | (refine stX hO 0 rfl rfl rfl rfl rfl (tS rfl) ?_; clear hO; intro ww hO) | (refine stC hO 0 rfl rfl rfl (ltb rfl) rfl (tS rfl) ?_; clear hO; intro ww hO))
          | ((with_reducible refine gBuild (T := 24) ?_); refine own_build hO 24 1 _ ebtz (bts [⟨0, false⟩]).toArray (by omega) (by omega) (by kernel_rfl) rfl ?_; clear hO; intro g ww hO)
          | ((with_reducible refine gAppend (d := some 22) ?_); refine own_append hO 2 _ _ 24 ebtz rfl rfl rfl (hO.rdAt 0 rfl) (bts_one _) (M + 1) rfl (by simp [maxLen]; omega) (by omega) ?_; clear hO; intro a2 c2 ww hO; replace hO := hO.tail)
          | (go_at_call 26; refine (HNC.out _).mono ?_; rintro e ww ⟨a3, c3, rfl, hb, hr⟩; replace hO := hO.addRow hb hr; clear hb hr)
          | ((with_reducible refine gAppend (d := some 31) ?_); refine own_append hO 2 _ _ 24 ebtz rfl rfl rfl (hO.rdAt 0 rfl) (bts_one _) (M + 1 + 8) rfl (by simp [maxLen]; omega) (by omega) ?_; clear hO; intro a4 c4 ww hO; replace hO := hO.tail))
        go_roundg (n - (k + 1))
        case measure => omega
        case rel => exact ⟨k + 1, M + 1 + 8, a4, c4, rfl, by omega, by go_num, rfl, HLN.out, by rw [HN.out]; exact hO.only' (by simp)⟩
      · have hk2 : 3 ≤ len ∧ len ≤ 18 ∧ 1 ≤ dist ∧ dist ≤ 256 := by
          unfold Tok.ok at hokk
          dsimp only at hokk
          omega
        obtain ⟨k3, k4, k5, k6⟩ := hk2
        have HN : Hid (bts (Go.Pz.bitsAll (l.take (k + 1))) = ((bts Q ++ bts [⟨0, true⟩]) ++ bts (Go.Pz.numT (16 + (len - 3).toNat) 256 4)) ++ bts (Go.Pz.numT (256 + (dist - 1).toNat) 272 8)) := by
          show _ = _
          rw [HBN.out, ← bts_append, ← bts_append, ← bts_append]
          unfold Go.Pz.bitsOf
          rw [if_neg h0]
          simp only [List.append_assoc, List.singleton_append, List.cons_append, List.nil_append]
        have HNC := Lib.hid (fun (w : World) => rnumber_int (len - 3) 4 256 (by omega) (pw4 (by omega)) (by omega) (by omega) w)
        have HNC2 := Lib.hid (fun (w : World) => rnumber_int (dist - 1) 8 272 (by omega) (pw8 (by omega)) (by omega) (by omega) w)
        have HLN : Hid ((Go.Pz.bitsAll (l.take (k + 1))).length = M + 1 + 4 + 8) := by
          show _ = _
          rw [HBN.out, List.length_append, HM.out, Go.Pz.bitsOf_length, if_neg h0]
        have d2 : decide ((0 : Int) < len) = true := decide_eq_true (by omega)
        have d3 : (len == 0) = false := by simpa using h0
        have d3' : decide (len = 0) = false := decide_eq_false h0
        clear hokk h0
        go_wp2_with (first
          | ((with_reducible refine gAlloc (T := 30) ?_); refine own_alloc hO _ _ itz ?_; clear hO; intro bx ww hO)
          | ((with_reducible refine gLoad (T := 30) ?_); refine ld_tok (hO.rd HR.out) HT.out rfl (by omega) (tA rfl) (tS rfl) ?_)
          | ((with_reducible refine gLoad ?_); first | refine ldX hO 0 rfl rfl (tA rfl) (tS rfl) ?_ | refine ldC hO 0 rfl rfl (tA rfl) rfl ?_)
          | ((with_reducible refine gStore ?_); first | (refine stX hO 0 rfl rfl rfl rfl rfl (tS rfl) ?_; clear hO; intro ww hO) | (refine stC hO 0 rfl rfl rfl (ltb rfl) rfl (tS rfl) ?_; clear hO; intro ww hO))
          | ((with_reducible refine gBuild (T := 24) ?_); refine own_build hO 24 1 _ ebtz (bts [⟨0, true⟩]).toArray (by omega) (by omega) (by kernel_rfl) rfl ?_; clear hO; intro g ww hO)
          | ((with_reducible refine gAppend (d := some 22) ?_); refine own_append hO 2 _ _ 24 ebtz rfl rfl rfl (hO.rdAt 0 rfl) (bts_one _) (M + 1) rfl (by simp [maxLen]; omega) (by omega) ?_; clear hO; intro a2 c2 ww hO; replace hO := hO.tail)
          | (go_at_call 26; (with_reducible refine gCall #[_, .int .i64 4, _] ?_); refine (HNC.out _).mono ?_; rintro e ww ⟨a3, c3, rfl, hb, hr⟩; replace hO := hO.addRow hb hr; clear hb hr)
          | ((with_reducible refine gAppend (d := some 37) ?_); refine own_append hO 2 _ _ 24 ebtz rfl rfl rfl (hO.rdAt 0 rfl) (bts_one _) (M + 1 + 4) rfl (by simp [maxLen]; omega) (by omega) ?_; clear hO; intro a4 c4 ww hO; replace hO := hO.tail)
          | (go_at_call 26; (with_reducible refine gCall #[_, .int .i64 8, _] ?_); refine (HNC2.out _).mono ?_; rintro e ww ⟨a5, c5, rfl, hb, hr⟩; replace hO := hO.addRow hb hr; clear hb hr)
          | ((with_reducible refine gAppend (d := some 43) ?_); refine own_append hO 2 _ _ 24 ebtz rfl rfl rfl (hO.rdAt 0 rfl) (bts_one _) (M + 1 + 4 + 8) rfl (by simp [maxLen]; omega) (by omega) ?_; clear hO; intro a6 c6 ww hO; replace hO := hO.tail))
        go_roundg (n - (k + 1))
        case measure => omega
        case rel => exact ⟨k + 1, M + 1 + 4 + 8, a6, c6, rfl, by omega, by go_num, rfl, HLN.out, by rw [HN.out]; exact hO.only' (by simp)⟩
    · obtain rfl : k = n := by omega
      have HA : Hid (Go.Pz.bitsAll (l.take k) = B) := by show _ = _; rw [List.take_of_length_le (by rw [HL.out]; exact Nat.le_refl _), HB.out]
      rw [HA.out] at hO HM
      obtain rfl : K = M := by rw [← HKK.out, HM.out]
      go_wp2
      go_ret2
      exact ⟨aO, cO, rfl, hO.below, hO.row 0 rfl⟩

set_option maxHeartbeats 1000000 in
theorem rbits_bad (a : Option Addr) (n c : Nat) (l : List Tok) (w : World) (hR : Rd w 3 a n c (tks l)) (h : 65536 < n ∨ ¬ okFrom 0 l) :
    Calls Try.prog 13 #[.slice a n c] w fun e w' => e = .returned (.tuple #[.slice none 0 0, .int .i64 1]) ∧ Below w.heap.size w w' := by
  have hO := Own.start w
  have HC := Lib.hid (fun w h' => rcheck_calls a n c l w h' 1 (fun h1 h2 => by rcases h with h | h; omega; exact absurd h2 h) (fun _ => rfl))
  have HR := Lib.hid hR
  clear hR h
  generalize hW : w = wn at hO HR ⊢
  clear hW w
  go_enter Try.func13, Try.ntmps13
  go_wp2_with (first
    | (go_at_call 25; refine (HC.out _ (hO.rd HR.out)).mono ?_; rintro e ww ⟨rfl, hb⟩; replace hO := hO.call hb; clear hb))
  go_ret2
  exact ⟨rfl, hO.below⟩
end Go.Proofs.Ytnkpjmcgecdkfaa

namespace Go.Proofs.Ytnkpjmcgecdkfaa
open Go.RowKit Go.Own Go.Bv Go.Ord Go.Eq Go.Opn Go.Pb Go.Mt

set_option maxHeartbeats 1000000 in
theorem rtokens_long (a : Option Addr) (n cap : Nat) (w : World) (hn : 65536 < n) :
    Calls Try.prog 27 #[.slice a n cap] w fun e w' => e = .returned (.tuple #[.slice none 0 0, .int .i64 3]) ∧ w = w' := by
  have d1 : decide ((65536 : Int) < (n : Int)) = true := by simp; omega
  go_enter Try.func27, Try.ntmps27
  go_wp2
  go_ret2
  exact ⟨rfl, rfl⟩
set_option maxHeartbeats 1000000 in
theorem rpack_long (a : Option Addr) (n cap : Nat) (w : World) (hn : 65536 < n) :
    Calls Try.prog 14 #[.slice a n cap] w fun e w' => e = .returned (.tuple #[.slice none 0 0, .int .i64 3]) ∧ Below w.heap.size w w' := by
  have hO := Own.start w
  have HT := Lib.hid (fun w => rtokens_long a n cap w hn)
  clear hn
  generalize hW : w = wn at hO ⊢
  clear hW w
  go_enter Try.func14, Try.ntmps14
  go_wp2_with (first
    | (go_at_call 27; refine (HT.out _).mono ?_; rintro e ww ⟨rfl, rfl⟩))
  go_ret2
  exact ⟨rfl, hO.below⟩

set_option maxHeartbeats 4000000 in
set_option maxRecDepth 100000 in
theorem rpack_ok (a : Option Addr) (n cap : Nat) (bs : List (BitVec 8)) (w : World) (hR : Rd w 1 a n cap (u8s bs)) (hn : n ≤ 65536) (T : List (BitVec 8)) (hT : Go.Pz.packT bs = T) (M : Nat) (hM : T.length = M) :
    Calls Try.prog 14 #[.slice a n cap] w fun e w' => ∃ a' c', e = .returned (.tuple #[.slice a' M c', .int .i64 0]) ∧ Below w.heap.size w w' ∧ w'.ownsRow w.heap.size 5 1 (.slice a' M c') M (u8s T) := by
  have hO := Own.start w
  have hlen : bs.length = n := by have := hR.len; rw [u8s_length] at this; omega
  obtain ⟨s1, s2, s3⟩ := tokens_spec bs
  have hbd := told_bounds 0 _ s1
  rw [hlen] at s2
  rw [s2] at hbd
  obtain ⟨L, hL⟩ : ∃ L, tokens bs = L := ⟨_, rfl⟩
  obtain ⟨TN, hTN⟩ : ∃ T, L.length = T := ⟨_, rfl⟩
  obtain ⟨B, hB⟩ : ∃ B, Go.Pz.bitsAll L = B := ⟨_, rfl⟩
  obtain ⟨K, hK⟩ : ∃ K, B.length = K := ⟨_, rfl⟩
  obtain ⟨X, hX⟩ : ∃ X, Go.Kc.encT 528 (Go.Kc.prs B) = X := ⟨_, rfl⟩
  obtain ⟨Y, hY⟩ : ∃ Y, X.length = Y := ⟨_, rfl⟩
  rw [hL] at s1 hbd
  rw [hTN] at hbd
  have hall := bits_all (b := bs) s1
  have hKb : K ≤ 1048576 := by
    have := Go.Pz.bitsAll_length_le L
    rw [hB, hK, hTN] at this
    omega
  have hYb : Y ≤ 10000000 := by
    rw [hB] at hall
    obtain ⟨_, _, _, h4⟩ := Go.Kc.enc_facts (within_ok hall)
    rw [Go.Kc.prs_length, hK] at h4
    rw [← hY, ← hX, Go.Kc.encT_length]
    omega
  have h1 := fun w h => rtokens_calls a n cap bs TN (by rw [hL, hTN]) w h hn
  rw [hL] at h1
  have hE0 : encE 528 B = 0 := by
    unfold encE
    rw [if_pos (by omega), if_pos (by omega), if_pos (by rw [← hB]; exact hall)]
  have hEO : encO 528 B = X := by
    unfold encO
    rw [if_pos hE0]
    exact hX
  have H1 := Lib.hid h1
  have H2 := Lib.hid (fun (a : Option Addr) (c : Nat) w h => rbits_ok a TN c L w h (by omega) s1 B hB K hK)
  have H3 := Lib.hid (fun (a : Option Addr) (c : Nat) w h => rencode_calls 528 a K c B w h Y X 0 hE0 hEO hY)
  have HT : Hid (T = Go.Pz.le4 n ++ X) := by
    show _ = _
    rw [← hT]; unfold Go.Pz.packT
    rw [hL, hB, hX, hlen]
  have HM : Hid (M = 4 + Y) := by show _ = _; rw [← hM, HT.out, List.length_append, hY]; rfl
  have HR := Lib.hid hR
  obtain ⟨b0, hb0⟩ : ∃ x, BitVec.ofNat 8 n = x := ⟨_, rfl⟩
  obtain ⟨b1, hb1⟩ : ∃ x, BitVec.ofNat 8 (n / 256) = x := ⟨_, rfl⟩
  obtain ⟨b2, hb2⟩ : ∃ x, BitVec.ofNat 8 (n / 65536) = x := ⟨_, rfl⟩
  have hb3 : BitVec.ofNat 8 (n / 16777216) = 0#8 := by rw [show n / 16777216 = 0 by omega]
  have e0 : IntKind.u8.wrap ((n : Int) % 256) = (b0.toNat : Int) := by rw [← hb0, BitVec.toNat_ofNat, IntKind.wrap_u8']; omega
  have e1 : IntKind.u8.wrap ((n : Int) / 256 % 256) = (b1.toNat : Int) := by rw [← hb1, BitVec.toNat_ofNat, IntKind.wrap_u8']; omega
  have e2 : IntKind.u8.wrap ((n : Int) / 65536) = (b2.toNat : Int) := by rw [← hb2, BitVec.toNat_ofNat, IntKind.wrap_u8']; omega
  have t0 : (n : Int).tmod 256 = (n : Int) % 256 := rfl
  have t1 : (n : Int).tdiv 256 = (n : Int) / 256 := rfl
  have t2 : (n : Int).tdiv 65536 = (n : Int) / 65536 := rfl
  have t3 : ((n : Int) / 256).tmod 256 = (n : Int) / 256 % 256 := rfl
  have HLE : Hid (Go.Pz.le4 n = [b0, b1, b2, 0#8]) := by show _ = _; unfold Go.Pz.le4; rw [hb0, hb1, hb2, hb3]
  clear hR hlen s1 s2 s3 hbd hL hTN hB hK hX hY hall hKb h1 hb0 hb1 hb2 hb3 hT hM hE0 hEO
  generalize hW : w = wn at hO HR ⊢
  clear hW w
  go_enter Try.func14, Try.ntmps14
  go_wp2_with (first
    | (go_at_call 27; refine (H1.out _ (hO.rd HR.out)).mono ?_; rintro e ww ⟨a1, c1, rfl, hb, hr⟩; replace hO := hO.addRow hb hr; clear hb hr)
    | (go_at_call 13; refine (H2.out _ _ _ (hO.rdAt 0 rfl)).mono ?_; rintro e ww ⟨a2, c2, rfl, hb, hr⟩; replace hO := hO.addRow hb hr; clear hb hr)
    | (go_at_call 28; refine (H3.out _ _ _ (hO.rdAt 0 rfl)).mono ?_; rintro e ww ⟨a3, c3, rfl, hb, hr⟩; replace hO := hO.addRow hb hr; clear hb hr)
    | ((with_reducible refine gBuild ?_); refine own_build hO 34 4 _ eu8 (u8s [b0, b1, b2, 0#8]).toArray (by omega) (by omega) (by simp [go_sem, Instr.fill, u8s]) rfl ?_; clear hO; intro g ww hO)
    | ((with_reducible refine gAppend ?_); refine own_append hO 0 _ _ 34 eu8 rfl rfl rfl (hO.rdAt 1 rfl) (u8s_one _) (4 + Y) rfl (by simp [maxLen]; omega) (by omega) ?_; clear hO; intro a5 c5 ww hO))
  have HF : Hid (u8s [b0, b1, b2, 0#8] ++ u8s X = u8s T) := by
    show _ = _
    rw [HT.out, HLE.out]; unfold u8s; rw [List.map_append]
  obtain rfl : M = 4 + Y := HM.out
  go_ret2
  refine ⟨a5, c5, rfl, hO.below, ?_⟩
  rw [← HF.out]
  exact hO.row 0 rfl
end Go.Proofs.Ytnkpjmcgecdkfaa

namespace Go.Proofs.Ytnkpjmcgecdkfaa
open Go.RowKit Go.Own Go.Bv Go.Ord Go.Eq Go.Opn Go.Pb Go.Mt

set_option maxHeartbeats 4000000 in
set_option maxRecDepth 100000 in
theorem rplong_calls (a : Option Addr) (n cap : Nat) (b : List (BitVec 8)) (w : World) (hR : Rd w 1 a n cap (u8s b)) (V : Nat) (E : Int) (hV : Go.Pz.longV b = V) (hE : Go.Pz.longE b = E) :
    Calls Try.prog 16 #[.slice a n cap] w fun e w' => e = .returned (.tuple #[.int .i64 (V : Int), .int .i64 E]) ∧ Below w.heap.size w w' := by
  have hlen : b.length = n := by have := hR.len; rw [u8s_length] at this; omega
  have hO := Own.start w
  by_cases h9 : n < 9
  · have d1 : decide ((n : Int) < 9) = true := decide_eq_true (by omega)
    have e1 : V = 0 := by rw [← hV]; unfold Go.Pz.longV; rw [if_pos (by omega)]
    have e2 : E = 2 := by rw [← hE]; unfold Go.Pz.longE; rw [if_pos (by omega)]
    subst e1 e2
    clear hR hV hE hlen h9
    generalize hW : w = wn at hO ⊢
    clear hW w
    go_enter Try.func16, Try.ntmps16
    go_wp2
    go_ret2
    exact ⟨rfl, hO.below⟩
  · have d1 : decide ((n : Int) < 9) = false := decide_eq_false (by omega)
    obtain ⟨ba, off, rfl⟩ := hR.place (by omega)
    have hG : ∀ j (hj : j < 4), (u8s b)[j]? = some (.int .u8 ((b.getD j 0).toNat : Int)) := fun j hj => by
      have : j < b.length := by omega
      rw [u8s_get b j this]; simp [this]
    have hg0 := hG 0 (by omega)
    have hg1 := hG 1 (by omega)
    have hg2 := hG 2 (by omega)
    have hg3 := hG 3 (by omega)
    have hV' : V = if 65536 < Go.Pz.lg4 b then 0 else Go.Pz.lg4 b := by rw [← hV]; unfold Go.Pz.longV; rw [if_neg (by omega)]
    have hE' : E = if 65536 < Go.Pz.lg4 b then 2 else 0 := by rw [← hE]; unfold Go.Pz.longE; rw [if_neg (by omega)]
    obtain ⟨G, hGG⟩ : ∃ G, Go.Pz.lg4 b = G := ⟨_, rfl⟩
    rw [hGG] at hV' hE'
    unfold Go.Pz.lg4 at hGG
    have l0 := lt8 (b.getD 0 0)
    have l1 := lt8 (b.getD 1 0)
    have l2 := lt8 (b.getD 2 0)
    have l3 := lt8 (b.getD 3 0)
    have n0 := nn (b.getD 0 0)
    have n1 := nn (b.getD 1 0)
    have n2 := nn (b.getD 2 0)
    have n3 := nn (b.getD 3 0)
    generalize b.getD 0 0 = x0 at *
    generalize b.getD 1 0 = x1 at *
    generalize b.getD 2 0 = x2 at *
    generalize b.getD 3 0 = x3 at *
    have hGI : (x0.toNat : Int) + 256 * (x1.toNat : Int) + 65536 * (x2.toNat : Int) + 16777216 * (x3.toNat : Int) = (G : Int) := by omega
    have HGI := Lib.hid hGI
    have HV := Lib.hid hV'
    have HE := Lib.hid hE'
    have HG0 := Lib.hid hg0
    have HG1 := Lib.hid hg1
    have HG2 := Lib.hid hg2
    have HG3 := Lib.hid hg3
    have HR := Lib.hid hR
    have hn4 : 4 ≤ n := by omega
    have hn1 : 0 < n := by omega
    have hn2 : 1 < n := by omega
    have hn3 : 2 < n := by omega
    have hn5 : 3 < n := by omega
    clear hR hV hE hlen h9 hG hg0 hg1 hg2 hg3 hV' hE' hGI hGG
    generalize hW : w = wn at hO HR ⊢
    clear hW w
    go_enter Try.func16, Try.ntmps16
    go_wp2
    clear d1
    refine wp_region_text (by kernel_rfl) (by kernel_rfl) ?_
    replace hO := hO.drew
    generalize World.drew _ = wd at hO ⊢
    have c0 : wd.cell? ⟨ba, off, none⟩ = some (.int .u8 (x0.toNat : Int)) := (hO.rd HR.out).cells rfl 0 _ HG0.out
    have c1 : wd.cell? ⟨ba, off + 1, none⟩ = some (.int .u8 (x1.toNat : Int)) := (hO.rd HR.out).cells rfl 1 _ HG1.out
    have c2 : wd.cell? ⟨ba, off + 2, none⟩ = some (.int .u8 (x2.toNat : Int)) := (hO.rd HR.out).cells rfl 2 _ HG2.out
    have c3 : wd.cell? ⟨ba, off + 3, none⟩ = some (.int .u8 (x3.toNat : Int)) := (hO.rd HR.out).cells rfl 3 _ HG3.out
    go_upto_region 4 with (first | ((with_reducible refine gI ?_); refine wpI_step rfl rfl (by kernel_rfl) ?_; intro K hK; have HK := Lib.hid hK; clear hK) | ((with_reducible refine gI ?_); first | refine wpI_skip rfl ?_ | refine wpI_want rfl ?_) | ((with_reducible refine gOnlyK0 HK.out ?_); clear HK K; first | (refine wpI_act (by simp only [Act.put, List.setIfInBounds_toArray, List.set_cons_succ, List.set_cons_zero]; rfl) ?_) | skip) | (with_reducible refine wpI_nil ?_))
    rw [HGI.out]
    clear c0 c1 c2 c3 HG0 HG1 HG2 HG3 HGI HR
    by_cases hb : 65536 < G
    · have d5 : decide ((65536 : Int) < (G : Int)) = true := decide_eq_true (by omega)
      have e1 : V = 0 := by rw [HV.out, if_pos hb]
      have e2 : E = 2 := by rw [HE.out, if_pos hb]
      subst e1 e2
      clear hb HV HE
      go_wp2
      go_ret2
      exact ⟨rfl, hO.below⟩
    · have d5 : decide ((65536 : Int) < (G : Int)) = false := decide_eq_false (by omega)
      have e1 : V = G := by rw [HV.out, if_neg hb]
      have e2 : E = 0 := by rw [HE.out, if_neg hb]
      subst e1 e2
      clear hb HV HE
      go_wp2
      go_ret2
      exact ⟨rfl, hO.below⟩
end Go.Proofs.Ytnkpjmcgecdkfaa

namespace Go.Proofs.Ytnkpjmcgecdkfaa
open Go.RowKit Go.Own Go.Bv Go.Ord Go.Eq Go.Opn Go.Pb Go.Mt

theorem b_egB : Try.prog.eqGuardType Try.prog.depth 32 = false := by kernel_rfl
theorem eqBitR (s : Bt) (w : World) : (binOp .eql 32 (.agg s.C) (.agg s.C)).run Try.prog w = .ok (.bool true) w := by
  have u3 := Try.underlying3
  have u5 := Try.underlying4
  have hS : Try.prog.underlying 32 = some (.struct (Try.prog.fieldsOf 32)) := by kernel_rfl
  have hp : Try.prog.stoodInHeld 32 = false := by kernel_rfl
  rw [run_eql_struct, show (10000 : Nat) = 9999 + 1 from rfl, run_equalIn_agg w 9999 32 _ _ hS hp]
  simp only [Program.fieldsOf, Try.underlying32, Bt.C]
  go_simp
theorem neBitR (s : Bt) (w : World) : (binOp .neq 32 (.agg s.C) (.agg s.C)).run Try.prog w = .ok (.bool false) w := by
  have h := eqBitR s w
  rw [run_eql_struct] at h
  rw [run_neq_struct]
  revert h
  generalize (Op.equalIn 10000 32 (.agg s.C) (.agg s.C)).run Try.prog w = r
  cases r with
  | ok b w2 => simp +contextual [Result.andThen]
  | halt x w2 => simp [Result.andThen]

set_option maxHeartbeats 2000000 in
set_option maxRecDepth 100000 in
theorem sameb_refl (a1 a2 : Option Addr) (n1 c1 c2 : Nat) (l : List Bt) (w : World) (h1 : Rd w 2 a1 n1 c1 (bts l)) (h2 : Rd w 2 a2 n1 c2 (bts l)) :
    Calls Try.prog 17 #[.slice a1 n1 c1, .slice a2 n1 c2] w fun e w' => e = .returned (.bool true) ∧ Below w.heap.size w w' := by
  have hO := Own.start w
  have hl1 : l.length = n1 := by have := h1.len; rw [bts_length] at this; omega
  have HR1 := Lib.hid h1
  have HR2 := Lib.hid h2
  have hm := h1.max
  have hle := h1.le
  unfold maxLen at hm
  have HL1 := Lib.hid hl1
  clear h1 h2
  generalize hW : w = wn at hO HR1 HR2 ⊢
  clear hW w hl1
  go_enter Try.func17, Try.ntmps17
  go_wp2
  go_loopg [13] n1 (fun m c wr => ∃ k : Nat, m = n1 - k ∧ k ≤ n1 ∧ c = .int .i64 (k : Int) ∧ Own wn wr [])
  case atStart => exact ⟨0, rfl, by omega, rfl, hO⟩
  case round =>
    obtain ⟨k, rfl, hk, rfl, hO1⟩ := hrel
    clear hO
    have hO := hO1
    clear hO1
    by_cases c1 : k < n1
    · have d1 : decide ((k : Int) < (n1 : Int)) = true := by simp; omega
      have hs := List.getElem?_eq_getElem (l := l) (i := k) (by rw [HL1.out]; exact c1)
      generalize l[k]'(by rw [HL1.out]; exact c1) = s at hs
      have HS := Lib.hid hs
      clear hs
      obtain ⟨b1, o1, rfl⟩ := HR1.out.place (by omega)
      obtain ⟨b2, o2, rfl⟩ := HR2.out.place (by omega)
      go_wp2
      refine wp_region_text (by kernel_rfl) (by kernel_rfl) ?_
      replace hO := hO.drew
      generalize World.drew _ = wd at hO ⊢
      go_wp2_with (first
        | ((with_reducible refine gLoad (d := some 19) ?_); refine ld_bt (hO.rd HR1.out) HS.out rfl (by omega) (tA rfl) (tS rfl) ?_)
        | ((with_reducible refine gLoad (d := some 23) ?_); refine ld_bt (hO.rd HR2.out) HS.out rfl (by omega) (tA rfl) (tS rfl) ?_)
        | ((with_reducible refine gNeq (t := 32) ?_); refine neD b_egB rfl rfl ?_; (with_reducible refine ⟨_, neBitR _, ?_⟩))
        | ((with_reducible refine gI ?_); refine wpI_step rfl rfl (by kernel_rfl) ?_; intro K hK; have HK := Lib.hid hK; clear hK) | ((with_reducible refine gI ?_); first | refine wpI_skip rfl ?_ | refine wpI_want rfl ?_) | ((with_reducible refine gOnlyK0 HK.out ?_); clear HK K; first | (refine wpI_act (by simp only [Act.put, List.setIfInBounds_toArray, List.set_cons_succ, List.set_cons_zero]; rfl) ?_) | skip) | (with_reducible refine wpI_nil ?_))
      go_roundg (n1 - (k + 1))
      case measure => omega
      case rel => exact ⟨k + 1, rfl, by omega, by go_num, hO⟩
    · obtain rfl : k = n1 := by omega
      go_wp2
      go_ret
      exact ⟨rfl, hO.below⟩
end Go.Proofs.Ytnkpjmcgecdkfaa
