/- Walks: press.Pack, Long; live. -/
import Derived.Test.YtnkpjmcgecdkfaaZn
namespace Go.Proofs.Ytnkpjmcgecdkfaa
open Go.RowKit Go.Own Go.Bv Go.Ord Go.Eq Go.Opn Go.Pb Go.Mt

theorem iu8z : (Try.prog.info? 5).map (·.size) = some 1 := by kernel_rfl
theorem bits_all {b : List (BitVec 8)} {m : Nat} {l : List Tok} (h : okFrom m l) : (Go.Pz.bitsAll l).all (okI (528 : Nat)) = true := by
  rw [List.all_eq_true]
  intro x hx
  have := Go.Pz.bits_within h x hx
  simp only [okI, Bool.and_eq_true, decide_eq_true_eq]
  omega

set_option maxHeartbeats 1000000 in
theorem tokens_long (a : Option Addr) (n cap : Nat) (w : World) (hn : 65536 < n) :
    Calls Try.prog 23 #[.slice a n cap] w fun e w' => e = .returned (.tuple #[.slice none 0 0, .int .i64 3]) ∧ w = w' := by
  have d1 : decide ((65536 : Int) < (n : Int)) = true := by simp; omega
  go_enter Try.func23, Try.ntmps23
  go_wp2
  refine wp_scope_ghost 0 (fun _ _ _ => False) rfl ?_ ?_
  · intro K hX
    clear hX
    go_wp2
    simp only [Exit.jump]
    go_ret2
    exact ⟨rfl, rfl⟩
  · intro m a' w' h
    exact h.elim

set_option maxHeartbeats 1000000 in
theorem pack_long (a : Option Addr) (n cap : Nat) (w : World) (hn : 65536 < n) :
    Calls Try.prog 12 #[.slice a n cap] w fun e w' => e = .returned (.tuple #[.slice none 0 0, .int .i64 3]) ∧ Below w.heap.size w w' := by
  have hO := Own.start w
  have HT := Lib.hid (fun w => tokens_long a n cap w hn)
  clear hn
  generalize hW : w = wn at hO ⊢
  clear hW w
  go_enter Try.func12, Try.ntmps12
  go_wp2_with (first
    | (go_at_call 23; refine (HT.out _).mono ?_; rintro e ww ⟨rfl, rfl⟩))
  go_ret2
  exact ⟨rfl, hO.below⟩

set_option maxHeartbeats 4000000 in
set_option maxRecDepth 100000 in
theorem pack_ok (a : Option Addr) (n cap : Nat) (bs : List (BitVec 8)) (w : World) (hR : Rd w 1 a n cap (u8s bs)) (hn : n ≤ 65536) (T : List (BitVec 8)) (hT : Go.Pz.packT bs = T) (M : Nat) (hM : T.length = M) :
    Calls Try.prog 12 #[.slice a n cap] w fun e w' => ∃ a' c', e = .returned (.tuple #[.slice a' M c', .int .i64 0]) ∧ Below w.heap.size w w' ∧ w'.ownsRow w.heap.size 5 1 (.slice a' M c') M (u8s T) := by
  have hO := Own.start w
  have hlen : bs.length = n := by have := hR.len; rw [u8s_length] at this; omega
  obtain ⟨s1, s2, s3⟩ := tokens_spec bs
  have hbd := told_bounds 0 _ s1
  rw [hlen] at s2
  rw [s2] at hbd
  obtain ⟨L, hL⟩ : ∃ L, tokens bs = L := ⟨_, rfl⟩
  obtain ⟨TN, hTN⟩ : ∃ T, L.length = T := ⟨_, rfl⟩
  obtain ⟨B, hB⟩ : ∃ B, Go.Pz.bitsAll L = B := ⟨_, rfl⟩
  obtain ⟨K, hK⟩ : ∃ K, B.length = K := ⟨_, rfl⟩
  obtain ⟨X, hX⟩ : ∃ X, Go.Kc.encT 528 (Go.Kc.prs B) = X := ⟨_, rfl⟩
  obtain ⟨Y, hY⟩ : ∃ Y, X.length = Y := ⟨_, rfl⟩
  rw [hL] at s1 hbd
  rw [hTN] at hbd
  have hall := bits_all (b := bs) s1
  have hKb : K ≤ 1048576 := by
    have := Go.Pz.bitsAll_length_le L
    rw [hB, hK, hTN] at this
    omega
  have hYb : Y ≤ 10000000 := by
    rw [hB] at hall
    obtain ⟨_, _, _, h4⟩ := Go.Kc.enc_facts (within_ok hall)
    rw [Go.Kc.prs_length, hK] at h4
    rw [← hY, ← hX, Go.Kc.encT_length]
    omega
  have h1 := fun w h => tokens_callsN a n cap bs TN (by rw [hL, hTN]) w h hn
  rw [hL] at h1
  have H1 := Lib.hid h1
  have H2 := Lib.hid (fun (a : Option Addr) (c : Nat) w h => bits_ok a TN c L w h (by omega) s1 B hB K hK)
  have H3 := Lib.hid (fun (a : Option Addr) (c : Nat) w h => encode_ok 528 (by omega) a K c B w h hKb (by rw [← hB]; exact hall) Y X hX hY)
  have HT : Hid (T = Go.Pz.le4 n ++ X) := by
    show _ = _
    rw [← hT]; unfold Go.Pz.packT
    rw [hL, hB, hX, hlen]
  have HM : Hid (M = 4 + Y) := by show _ = _; rw [← hM, HT.out, List.length_append, hY]; rfl
  have HR := Lib.hid hR
  obtain ⟨b0, hb0⟩ : ∃ x, BitVec.ofNat 8 n = x := ⟨_, rfl⟩
  obtain ⟨b1, hb1⟩ : ∃ x, BitVec.ofNat 8 (n / 256) = x := ⟨_, rfl⟩
  obtain ⟨b2, hb2⟩ : ∃ x, BitVec.ofNat 8 (n / 65536) = x := ⟨_, rfl⟩
  obtain ⟨b3, hb3⟩ : ∃ x, BitVec.ofNat 8 (n / 16777216) = x := ⟨_, rfl⟩
  have e0 : IntKind.u8.wrap (n : Int) = (b0.toNat : Int) := by rw [← hb0, BitVec.toNat_ofNat, IntKind.wrap_u8']; omega
  have e1 : IntKind.u8.wrap ((n : Int) / 256) = (b1.toNat : Int) := by rw [← hb1, BitVec.toNat_ofNat, IntKind.wrap_u8']; omega
  have e2 : IntKind.u8.wrap ((n : Int) / 65536) = (b2.toNat : Int) := by rw [← hb2, BitVec.toNat_ofNat, IntKind.wrap_u8']; omega
  have e3 : IntKind.u8.wrap ((n : Int) / 16777216) = (b3.toNat : Int) := by rw [← hb3, BitVec.toNat_ofNat, IntKind.wrap_u8']; omega
  have HLE : Hid (Go.Pz.le4 n = [b0, b1, b2, b3]) := by show _ = _; unfold Go.Pz.le4; rw [hb0, hb1, hb2, hb3]
  clear hR hlen s1 s2 s3 hbd hL hTN hB hK hX hY hall hKb h1 hb0 hb1 hb2 hb3 hT hM
  generalize hW : w = wn at hO HR ⊢
  clear hW w
  go_enter Try.func12, Try.ntmps12
  go_wp2_with (first
    | (go_at_call 23; refine (H1.out _ (hO.rd HR.out)).mono ?_; rintro e ww ⟨a1, c1, rfl, hb, hr⟩; replace hO := hO.addRow hb hr; clear hb hr)
    | (go_at_call 10; refine (H2.out _ _ _ (rd_clip (hO.rdAt 0 rfl))).mono ?_; rintro e ww ⟨a2, c2, rfl, hb, hr⟩; replace hO := hO.addRow hb hr; clear hb hr)
    | (go_at_call 24; refine (H3.out _ _ _ (hO.rdAt 0 rfl)).mono ?_; rintro e ww ⟨a3, c3, rfl, hb, hr⟩; replace hO := hO.addRow hb hr; clear hb hr)
    | ((with_reducible refine gMake ?_); refine own_makeC hO _ _ 34 eu8 4 (4 + Y) rfl rfl rfl (by go_num) (by omega) (by omega) (by simp [maxLen]; omega) ?_; clear hO; intro g ww hO))
  replace hO : Own wn ww [.sl 5 1 (.slice (some ⟨g, 0, none⟩) 4 (4 + Y)) 4 (u8s [0#8, 0#8, 0#8, 0#8]), .sl 5 1 (.slice a3 Y c3) Y (u8s X)] := by
    have h := hO.take2
    have e : (madeCells (Value.int .u8 0).cells (4 + Y)).toList.take 4 = u8s [0#8, 0#8, 0#8, 0#8] := by
      rw [show (Value.int .u8 0).cells = #[Value.int .u8 0] from rfl, toList_madeCells_one, List.take_replicate]
      rw [show min 4 (4 + Y) = 4 by omega]; rfl
    rw [e] at h
    exact h
  go_loopg [40] 4 (fun mm cc wr => ∃ (k : Nat) (x0 x1 x2 x3 : BitVec 8), mm = 4 - k ∧ k ≤ 4 ∧ cc = .int .i64 (k : Int) ∧ Hid (0 < k → x0 = b0) ∧ Hid (1 < k → x1 = b1) ∧ Hid (2 < k → x2 = b2) ∧ Hid (3 < k → x3 = b3) ∧
    Own wn wr [.sl 5 1 (.slice (some ⟨g, 0, none⟩) 4 (4 + Y)) 4 (u8s [x0, x1, x2, x3]), .sl 5 1 (.slice a3 Y c3) Y (u8s X)])
  case atStart => exact ⟨0, 0#8, 0#8, 0#8, 0#8, rfl, by omega, rfl, fun h => by omega, fun h => by omega, fun h => by omega, fun h => by omega, hO⟩
  case round =>
    obtain ⟨k, x0, x1, x2, x3, rfl, hk, rfl, h0, h1, h2, h3, hO1⟩ := hrel
    clear hO
    have hO := hO1
    clear hO1
    obtain rfl | rfl | rfl | rfl | rfl : k = 0 ∨ k = 1 ∨ k = 2 ∨ k = 3 ∨ k = 4 := by omega
    · clear h0 h1 h2 h3
      go_wp2_with (first
        | ((with_reducible refine gStore (T := 5) ?_); refine own_setElem hO 0 5 _ _ _ rfl rfl rfl (by omega) iu8z rfl ?_; clear hO; intro ww hO))
      go_roundg 3
      case measure => omega
      case rel => exact ⟨1, b0, x1, x2, x3, rfl, by omega, rfl, fun _ => rfl, fun h => by omega, fun h => by omega, fun h => by omega, hO⟩
    · have HH := Lib.hid (h0.out (by omega))
      clear h0 h1 h2 h3
      go_wp2_with (first
        | ((with_reducible refine gStore (T := 5) ?_); refine own_setElem hO 0 5 _ _ _ rfl rfl rfl (by omega) iu8z rfl ?_; clear hO; intro ww hO))
      go_roundg 2
      case measure => omega
      case rel => exact ⟨2, x0, b1, x2, x3, rfl, by omega, rfl, fun _ => HH.out, fun _ => rfl, fun h => by omega, fun h => by omega, hO⟩
    · have HH := Lib.hid (h0.out (by omega))
      have HH1 := Lib.hid (h1.out (by omega))
      clear h0 h1 h2 h3
      go_wp2_with (first
        | ((with_reducible refine gStore (T := 5) ?_); refine own_setElem hO 0 5 _ _ _ rfl rfl rfl (by omega) iu8z rfl ?_; clear hO; intro ww hO))
      go_roundg 1
      case measure => omega
      case rel => exact ⟨3, x0, x1, b2, x3, rfl, by omega, rfl, fun _ => HH.out, fun _ => HH1.out, fun _ => rfl, fun h => by omega, hO⟩
    · have HH := Lib.hid (h0.out (by omega))
      have HH1 := Lib.hid (h1.out (by omega))
      have HH2 := Lib.hid (h2.out (by omega))
      clear h0 h1 h2 h3
      go_wp2_with (first
        | ((with_reducible refine gStore (T := 5) ?_); refine own_setElem hO 0 5 _ _ _ rfl rfl rfl (by omega) iu8z rfl ?_; clear hO; intro ww hO))
      go_roundg 0
      case measure => omega
      case rel => exact ⟨4, x0, x1, x2, b3, rfl, by omega, rfl, fun _ => HH.out, fun _ => HH1.out, fun _ => HH2.out, fun _ => rfl, hO⟩
    · obtain rfl := h0.out (by omega)
      obtain rfl := h1.out (by omega)
      obtain rfl := h2.out (by omega)
      obtain rfl := h3.out (by omega)
      have HF : Hid (u8s [x0, x1, x2, x3] ++ u8s X = u8s T) := by
        show _ = _
        rw [HT.out, HLE.out]; unfold u8s; rw [List.map_append]
      obtain rfl : M = 4 + Y := HM.out
      clear h0 h1 h2 h3 H1 H2 H3
      go_wp2_with (first
        | ((with_reducible refine gAppend ?_); refine own_append hO 0 _ _ 34 eu8 rfl rfl rfl (hO.rdAt 1 rfl) (u8s_one _) (4 + Y) rfl (by simp [maxLen]; omega) (by omega) ?_; clear hO; intro a5 c5 ww hO))
      go_ret2
      rw [HF.out] at hO
      exact ⟨a5, c5, rfl, hO.below, hO.row 0 rfl⟩

set_option maxHeartbeats 4000000 in
set_option maxRecDepth 100000 in
theorem plong_calls (a : Option Addr) (n cap : Nat) (b : List (BitVec 8)) (w : World) (hR : Rd w 1 a n cap (u8s b)) (V : Nat) (E : Int) (hV : Go.Pz.longV b = V) (hE : Go.Pz.longE b = E) :
    Calls Try.prog 15 #[.slice a n cap] w fun e w' => e = .returned (.tuple #[.int .i64 (V : Int), .int .i64 E]) ∧ w = w' := by
  have hlen : b.length = n := by have := hR.len; rw [u8s_length] at this; omega
  by_cases h9 : n < 9
  · have d1 : decide ((n : Int) < 9) = true := decide_eq_true (by omega)
    have e1 : V = 0 := by rw [← hV]; unfold Go.Pz.longV; rw [if_pos (by omega)]
    have e2 : E = 2 := by rw [← hE]; unfold Go.Pz.longE; rw [if_pos (by omega)]
    subst e1 e2
    clear hR hV hE hlen h9
    go_enter Try.func15, Try.ntmps15
    go_wp2
    go_ret2
    exact ⟨rfl, rfl⟩
  · have d1 : decide ((n : Int) < 9) = false := decide_eq_false (by omega)
    obtain ⟨ba, off, rfl⟩ := hR.place (by omega)
    have hG : ∀ j (hj : j < 4), (u8s b)[j]? = some (.int .u8 ((b.getD j 0).toNat : Int)) := fun j hj => by
      have : j < b.length := by omega
      rw [u8s_get b j this]; simp [this]
    have hg0 := hG 0 (by omega)
    have hg1 := hG 1 (by omega)
    have hg2 := hG 2 (by omega)
    have hg3 := hG 3 (by omega)
    have hV' : V = if 65536 < Go.Pz.lg4 b then 0 else Go.Pz.lg4 b := by rw [← hV]; unfold Go.Pz.longV; rw [if_neg (by omega)]
    have hE' : E = if 65536 < Go.Pz.lg4 b then 2 else 0 := by rw [← hE]; unfold Go.Pz.longE; rw [if_neg (by omega)]
    unfold Go.Pz.lg4 at hV' hE'
    have x0l := (b.getD 0 0).isLt
    have x1l := (b.getD 1 0).isLt
    have x2l := (b.getD 2 0).isLt
    have x3l := (b.getD 3 0).isLt
    generalize b.getD 0 0 = x0 at *
    generalize b.getD 1 0 = x1 at *
    generalize b.getD 2 0 = x2 at *
    generalize b.getD 3 0 = x3 at *
    have f0 := Go.Pz.or_i64 0 x0.toNat 0 (by decide) (by omega) x0l
    have f1 := Go.Pz.or_i64 x0.toNat x1.toNat 8 (by omega) (by omega) x1l
    have f2 := Go.Pz.or_i64 (x0.toNat + x1.toNat * 2 ^ 8) x2.toNat 16 (by omega) (by omega) x2l
    have f3 := Go.Pz.or_i64 (x0.toNat + x1.toNat * 2 ^ 8 + x2.toNat * 2 ^ 16) x3.toNat 24 (by omega) (by omega) x3l
    obtain ⟨v1, hv1⟩ : ∃ v, x0.toNat + x1.toNat * 2 ^ 8 = v := ⟨_, rfl⟩
    rw [hv1] at f1 f2 f3
    obtain ⟨v2, hv2⟩ : ∃ v, v1 + x2.toNat * 2 ^ 16 = v := ⟨_, rfl⟩
    rw [hv2] at f2 f3
    obtain ⟨v3, hv3⟩ : ∃ v, v2 + x3.toNat * 2 ^ 24 = v := ⟨_, rfl⟩
    rw [hv3] at f3
    have g0 : bits .or .i64 0 (x0.toNat : Int) = (x0.toNat : Int) := by simpa using f0
    have g1 : bits .or .i64 (x0.toNat : Int) ((x1.toNat : Int) * 256) = (v1 : Int) := by rw [← f1, Int.natCast_mul]; rfl
    have g2 : bits .or .i64 (v1 : Int) ((x2.toNat : Int) * 65536) = (v2 : Int) := by rw [← f2, Int.natCast_mul]; rfl
    have g3 : bits .or .i64 (v2 : Int) ((x3.toNat : Int) * 16777216) = (v3 : Int) := by rw [← f3, Int.natCast_mul]; rfl
    have hv : x0.toNat + 256 * x1.toNat + 65536 * x2.toNat + 16777216 * x3.toNat = v3 := by omega
    rw [hv] at hV' hE'
    have HV := Lib.hid hV'
    have HE := Lib.hid hE'
    have HG0 := Lib.hid hg0
    have HG1 := Lib.hid hg1
    have HG2 := Lib.hid hg2
    have HG3 := Lib.hid hg3
    have HR := Lib.hid hR
    have hmc : n ≤ cap := hR.le
    have hn4 : 4 ≤ n := by omega
    have hmm := Nat.le_trans hR.le hR.max
    unfold maxLen at hmm
    have HO := Own.start w
    clear hR hV hE hlen h9 hG hg0 hg1 hg2 hg3 hV' hE' f0 f1 f2 f3 hv1 hv2 hv3 hv
    go_enter Try.func15, Try.ntmps15
    go_wp2
    clear d1
    go_loopg [2, 12] 4 (fun mm s2 cc wr => ∃ (k v : Nat), mm = 4 - k ∧ k ≤ 4 ∧ cc = .int .i64 (k : Int) ∧ s2 = .int .i64 (v : Int) ∧ Hid (k = 0 → v = 0) ∧ Hid (k = 1 → v = x0.toNat) ∧ Hid (k = 2 → v = v1) ∧ Hid (k = 3 → v = v2) ∧ Hid (k = 4 → v = v3) ∧ w = wr)
    case atStart => exact ⟨0, 0, rfl, by omega, rfl, rfl, fun _ => rfl, fun h => by omega, fun h => by omega, fun h => by omega, fun h => by omega, rfl⟩
    case round =>
      obtain ⟨k, v, rfl, hk, rfl, rfl, h0, h1, h2, h3, h4, rfl⟩ := hrel
      obtain rfl | rfl | rfl | rfl | rfl : k = 0 ∨ k = 1 ∨ k = 2 ∨ k = 3 ∨ k = 4 := by omega
      · obtain rfl := h0.out rfl
        clear h0 h1 h2 h3 h4
        go_wp2_with (first
          | ((with_reducible refine gLoad (T := 5) ?_); refine ld_rd HR.out rfl HG0.out (tA rfl) ?_))
        go_roundg 3
        case measure => omega
        case rel => exact ⟨1, x0.toNat, rfl, by omega, rfl, rfl, fun h => by omega, fun _ => rfl, fun h => by omega, fun h => by omega, fun h => by omega, rfl⟩
      · obtain rfl := h1.out rfl
        clear h0 h1 h2 h3 h4
        go_wp2_with (first
          | ((with_reducible refine gLoad (T := 5) ?_); refine ld_rd HR.out rfl HG1.out (tA rfl) ?_))
        go_roundg 2
        case measure => omega
        case rel => exact ⟨2, v1, rfl, by omega, rfl, rfl, fun h => by omega, fun h => by omega, fun _ => rfl, fun h => by omega, fun h => by omega, rfl⟩
      · obtain rfl := h2.out rfl
        clear h0 h1 h2 h3 h4
        go_wp2_with (first
          | ((with_reducible refine gLoad (T := 5) ?_); refine ld_rd HR.out rfl HG2.out (tA rfl) ?_))
        go_roundg 1
        case measure => omega
        case rel => exact ⟨3, v2, rfl, by omega, rfl, rfl, fun h => by omega, fun h => by omega, fun h => by omega, fun _ => rfl, fun h => by omega, rfl⟩
      · obtain rfl := h3.out rfl
        clear h0 h1 h2 h3 h4
        go_wp2_with (first
          | ((with_reducible refine gLoad (T := 5) ?_); refine ld_rd HR.out rfl HG3.out (tA rfl) ?_))
        go_roundg 0
        case measure => omega
        case rel => exact ⟨4, v3, rfl, by omega, rfl, rfl, fun h => by omega, fun h => by omega, fun h => by omega, fun h => by omega, fun _ => rfl, rfl⟩
      · obtain rfl := h4.out rfl
        clear h0 h1 h2 h3 h4
        by_cases hb : 65536 < v
        · have d5 : decide ((65536 : Int) < (v : Int)) = true := decide_eq_true (by omega)
          have e1 : V = 0 := by rw [HV.out, if_pos hb]
          have e2 : E = 2 := by rw [HE.out, if_pos hb]
          subst e1 e2
          clear hb HV HE
          go_wp2
          go_ret2
          exact ⟨rfl, rfl⟩
        · have d5 : decide ((65536 : Int) < (v : Int)) = false := decide_eq_false (by omega)
          have e1 : V = v := by rw [HV.out, if_neg hb]
          have e2 : E = 0 := by rw [HE.out, if_neg hb]
          subst e1 e2
          clear hb HV HE
          go_wp2
          go_ret2
          exact ⟨rfl, rfl⟩

theorem pack_nil : Go.Pz.packT [] = [0, 0, 0, 0, 0, 0, 0, 0, 0] := by decide +kernel
set_option maxHeartbeats 1000000 in
theorem live7_calls (w : World) :
    Calls Try.prog 9 #[] w fun e w' => e = .returned (.bool true) ∧ Below w.heap.size w w' := by
  have hO := Own.start w
  have HN : Hid (∀ w : World, Rd w 1 none 0 0 (u8s [])) := fun w => ⟨rfl, Nat.le_refl _, by simp [maxLen], fun _ => ⟨rfl, rfl⟩, fun h => absurd rfl h⟩
  have HP := Lib.hid (fun w h => pack_ok none 0 0 [] w h (by omega) [0, 0, 0, 0, 0, 0, 0, 0, 0] pack_nil 9 rfl)
  generalize hW : w = wn at hO ⊢
  clear hW w
  go_enter Try.func9, Try.ntmps9
  go_wp2_with (first
    | ((with_reducible refine gG ?_); refine wpList_want rfl ?_)
    | (go_at_call 12; refine (HP.out _ (HN.out _)).mono ?_; rintro e ww ⟨a3, c3, rfl, hb, hr⟩; replace hO := hO.addRow hb hr; clear hb hr))
  go_ret
  exact ⟨rfl, hO.below⟩
end Go.Proofs.Ytnkpjmcgecdkfaa
