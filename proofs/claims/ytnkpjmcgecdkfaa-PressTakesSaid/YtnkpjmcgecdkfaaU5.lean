/- Of several texts of this claim, one behind the other: Zp Kr Ks Ku Ki Zu. -/
import Derived.Test.YtnkpjmcgecdkfaaU4
import Derived.Lib.AppendZeros
import Derived.Lib.LazyBuf

/- Walks: press.Pack, Long; live. -/
namespace Go.Proofs.Ytnkpjmcgecdkfaa
open Go.RowKit Go.Own Go.Bv Go.Ord Go.Eq Go.Opn Go.Pb Go.Mt

theorem iu8z : (Try.prog.info? 5).map (·.size) = some 1 := by kernel_rfl
theorem bits_all {b : List (BitVec 8)} {m : Nat} {l : List Tok} (h : okFrom m l) : (Go.Pz.bitsAll l).all (okI (528 : Nat)) = true := by
  rw [List.all_eq_true]
  intro x hx
  have := Go.Pz.bits_within h x hx
  simp only [okI, Bool.and_eq_true, decide_eq_true_eq]
  omega

set_option maxHeartbeats 1000000 in
theorem tokens_long (a : Option Addr) (n cap : Nat) (w : World) (hn : 65536 < n) :
    Calls Try.prog 23 #[.slice a n cap] w fun e w' => e = .returned (.tuple #[.slice none 0 0, .int .i64 3]) ∧ w = w' := by
  have d1 : decide ((65536 : Int) < (n : Int)) = true := by simp; omega
  go_enter Try.func23, Try.ntmps23
  go_wp2
  refine wp_scope_ghost 0 (fun _ _ _ => False) rfl ?_ ?_
  · intro K hX
    clear hX
    go_wp2
    simp only [Exit.jump]
    go_ret2
    exact ⟨rfl, rfl⟩
  · intro m a' w' h
    exact h.elim

set_option maxHeartbeats 1000000 in
theorem pack_long (a : Option Addr) (n cap : Nat) (w : World) (hn : 65536 < n) :
    Calls Try.prog 12 #[.slice a n cap] w fun e w' => e = .returned (.tuple #[.slice none 0 0, .int .i64 3]) ∧ Below w.heap.size w w' := by
  have hO := Own.start w
  have HT := Lib.hid (fun w => tokens_long a n cap w hn)
  clear hn
  generalize hW : w = wn at hO ⊢
  clear hW w
  go_enter Try.func12, Try.ntmps12
  go_wp2_with (first
    | (go_at_call 23; refine (HT.out _).mono ?_; rintro e ww ⟨rfl, rfl⟩))
  go_ret2
  exact ⟨rfl, hO.below⟩

set_option maxHeartbeats 4000000 in
set_option maxRecDepth 100000 in
theorem pack_ok (a : Option Addr) (n cap : Nat) (bs : List (BitVec 8)) (w : World) (hR : Rd w 1 a n cap (u8s bs)) (hn : n ≤ 65536) (T : List (BitVec 8)) (hT : Go.Pz.packT bs = T) (M : Nat) (hM : T.length = M) :
    Calls Try.prog 12 #[.slice a n cap] w fun e w' => ∃ a' c', e = .returned (.tuple #[.slice a' M c', .int .i64 0]) ∧ Below w.heap.size w w' ∧ w'.ownsRow w.heap.size 5 1 (.slice a' M c') M (u8s T) := by
  have hO := Own.start w
  have hlen : bs.length = n := by have := hR.len; rw [u8s_length] at this; omega
  obtain ⟨s1, s2, s3⟩ := tokens_spec bs
  have hbd := told_bounds 0 _ s1
  rw [hlen] at s2
  rw [s2] at hbd
  obtain ⟨L, hL⟩ : ∃ L, tokens bs = L := ⟨_, rfl⟩
  obtain ⟨TN, hTN⟩ : ∃ T, L.length = T := ⟨_, rfl⟩
  obtain ⟨B, hB⟩ : ∃ B, Go.Pz.bitsAll L = B := ⟨_, rfl⟩
  obtain ⟨K, hK⟩ : ∃ K, B.length = K := ⟨_, rfl⟩
  obtain ⟨X, hX⟩ : ∃ X, Go.Kc.encT 528 (Go.Kc.prs B) = X := ⟨_, rfl⟩
  obtain ⟨Y, hY⟩ : ∃ Y, X.length = Y := ⟨_, rfl⟩
  rw [hL] at s1 hbd
  rw [hTN] at hbd
  have hall := bits_all (b := bs) s1
  have hKb : K ≤ 1048576 := by
    have := Go.Pz.bitsAll_length_le L
    rw [hB, hK, hTN] at this
    omega
  have hYb : Y ≤ 10000000 := by
    rw [hB] at hall
    obtain ⟨_, _, _, h4⟩ := Go.Kc.enc_facts (within_ok hall)
    rw [Go.Kc.prs_length, hK] at h4
    rw [← hY, ← hX, Go.Kc.encT_length]
    omega
  have h1 := fun w h => tokens_callsN a n cap bs TN (by rw [hL, hTN]) w h hn
  rw [hL] at h1
  have H1 := Lib.hid h1
  have H2 := Lib.hid (fun (a : Option Addr) (c : Nat) w h => bits_ok a TN c L w h (by omega) s1 B hB K hK)
  have H3 := Lib.hid (fun (a : Option Addr) (c : Nat) w h => encode_ok 528 (by omega) a K c B w h hKb (by rw [← hB]; exact hall) Y X hX hY)
  have HT : Hid (T = Go.Pz.le4 n ++ X) := by
    show _ = _
    rw [← hT]; unfold Go.Pz.packT
    rw [hL, hB, hX, hlen]
  have HM : Hid (M = 4 + Y) := by show _ = _; rw [← hM, HT.out, List.length_append, hY]; rfl
  have HR := Lib.hid hR
  obtain ⟨b0, hb0⟩ : ∃ x, BitVec.ofNat 8 n = x := ⟨_, rfl⟩
  obtain ⟨b1, hb1⟩ : ∃ x, BitVec.ofNat 8 (n / 256) = x := ⟨_, rfl⟩
  obtain ⟨b2, hb2⟩ : ∃ x, BitVec.ofNat 8 (n / 65536) = x := ⟨_, rfl⟩
  obtain ⟨b3, hb3⟩ : ∃ x, BitVec.ofNat 8 (n / 16777216) = x := ⟨_, rfl⟩
  have e0 : IntKind.u8.wrap (n : Int) = (b0.toNat : Int) := by rw [← hb0, BitVec.toNat_ofNat, IntKind.wrap_u8']; omega
  have e1 : IntKind.u8.wrap ((n : Int) / 256) = (b1.toNat : Int) := by rw [← hb1, BitVec.toNat_ofNat, IntKind.wrap_u8']; omega
  have e2 : IntKind.u8.wrap ((n : Int) / 65536) = (b2.toNat : Int) := by rw [← hb2, BitVec.toNat_ofNat, IntKind.wrap_u8']; omega
  have e3 : IntKind.u8.wrap ((n : Int) / 16777216) = (b3.toNat : Int) := by rw [← hb3, BitVec.toNat_ofNat, IntKind.wrap_u8']; omega
  have HLE : Hid (Go.Pz.le4 n = [b0, b1, b2, b3]) := by show _ = _; unfold Go.Pz.le4; rw [hb0, hb1, hb2, hb3]
  clear hR hlen s1 s2 s3 hbd hL hTN hB hK hX hY hall hKb h1 hb0 hb1 hb2 hb3 hT hM
  generalize hW : w = wn at hO HR ⊢
  clear hW w
  go_enter Try.func12, Try.ntmps12
  go_wp2_with (first
    | (go_at_call 23; refine (H1.out _ (hO.rd HR.out)).mono ?_; rintro e ww ⟨a1, c1, rfl, hb, hr⟩; replace hO := hO.addRow hb hr; clear hb hr)
    | (go_at_call 10; refine (H2.out _ _ _ (rd_clip (hO.rdAt 0 rfl))).mono ?_; rintro e ww ⟨a2, c2, rfl, hb, hr⟩; replace hO := hO.addRow hb hr; clear hb hr)
    | (go_at_call 24; refine (H3.out _ _ _ (hO.rdAt 0 rfl)).mono ?_; rintro e ww ⟨a3, c3, rfl, hb, hr⟩; replace hO := hO.addRow hb hr; clear hb hr)
    | ((with_reducible refine gMake ?_); refine own_makeC hO _ _ 34 eu8 4 (4 + Y) rfl rfl rfl (by go_num) (by omega) (by omega) (by simp [maxLen]; omega) ?_; clear hO; intro g ww hO))
  replace hO : Own wn ww [.sl 5 1 (.slice (some ⟨g, 0, none⟩) 4 (4 + Y)) 4 (u8s [0#8, 0#8, 0#8, 0#8]), .sl 5 1 (.slice a3 Y c3) Y (u8s X)] := by
    have h := hO.take2
    have e : (madeCells (Value.int .u8 0).cells (4 + Y)).toList.take 4 = u8s [0#8, 0#8, 0#8, 0#8] := by
      rw [show (Value.int .u8 0).cells = #[Value.int .u8 0] from rfl, toList_madeCells_one, List.take_replicate]
      rw [show min 4 (4 + Y) = 4 by omega]; rfl
    rw [e] at h
    exact h
  go_loopg [40] 4 (fun mm cc wr => ∃ (k : Nat) (x0 x1 x2 x3 : BitVec 8), mm = 4 - k ∧ k ≤ 4 ∧ cc = .int .i64 (k : Int) ∧ Hid (0 < k → x0 = b0) ∧ Hid (1 < k → x1 = b1) ∧ Hid (2 < k → x2 = b2) ∧ Hid (3 < k → x3 = b3) ∧
    Own wn wr [.sl 5 1 (.slice (some ⟨g, 0, none⟩) 4 (4 + Y)) 4 (u8s [x0, x1, x2, x3]), .sl 5 1 (.slice a3 Y c3) Y (u8s X)])
  case atStart => exact ⟨0, 0#8, 0#8, 0#8, 0#8, rfl, by omega, rfl, fun h => by omega, fun h => by omega, fun h => by omega, fun h => by omega, hO⟩
  case round =>
    obtain ⟨k, x0, x1, x2, x3, rfl, hk, rfl, h0, h1, h2, h3, hO1⟩ := hrel
    clear hO
    have hO := hO1
    clear hO1
    obtain rfl | rfl | rfl | rfl | rfl : k = 0 ∨ k = 1 ∨ k = 2 ∨ k = 3 ∨ k = 4 := by omega
    · clear h0 h1 h2 h3
      go_wp2_with (first
        | ((with_reducible refine gStore (T := 5) ?_); refine own_setElem hO 0 5 _ _ _ rfl rfl rfl (by omega) iu8z rfl ?_; clear hO; intro ww hO))
      go_roundg 3
      case measure => omega
      case rel => exact ⟨1, b0, x1, x2, x3, rfl, by omega, rfl, fun _ => rfl, fun h => by omega, fun h => by omega, fun h => by omega, hO⟩
    · have HH := Lib.hid (h0.out (by omega))
      clear h0 h1 h2 h3
      go_wp2_with (first
        | ((with_reducible refine gStore (T := 5) ?_); refine own_setElem hO 0 5 _ _ _ rfl rfl rfl (by omega) iu8z rfl ?_; clear hO; intro ww hO))
      go_roundg 2
      case measure => omega
      case rel => exact ⟨2, x0, b1, x2, x3, rfl, by omega, rfl, fun _ => HH.out, fun _ => rfl, fun h => by omega, fun h => by omega, hO⟩
    · have HH := Lib.hid (h0.out (by omega))
      have HH1 := Lib.hid (h1.out (by omega))
      clear h0 h1 h2 h3
      go_wp2_with (first
        | ((with_reducible refine gStore (T := 5) ?_); refine own_setElem hO 0 5 _ _ _ rfl rfl rfl (by omega) iu8z rfl ?_; clear hO; intro ww hO))
      go_roundg 1
      case measure => omega
      case rel => exact ⟨3, x0, x1, b2, x3, rfl, by omega, rfl, fun _ => HH.out, fun _ => HH1.out, fun _ => rfl, fun h => by omega, hO⟩
    · have HH := Lib.hid (h0.out (by omega))
      have HH1 := Lib.hid (h1.out (by omega))
      have HH2 := Lib.hid (h2.out (by omega))
      clear h0 h1 h2 h3
      go_wp2_with (first
        | ((with_reducible refine gStore (T := 5) ?_); refine own_setElem hO 0 5 _ _ _ rfl rfl rfl (by omega) iu8z rfl ?_; clear hO; intro ww hO))
      go_roundg 0
      case measure => omega
      case rel => exact ⟨4, x0, x1, x2, b3, rfl, by omega, rfl, fun _ => HH.out, fun _ => HH1.out, fun _ => HH2.out, fun _ => rfl, hO⟩
    · obtain rfl := h0.out (by omega)
      obtain rfl := h1.out (by omega)
      obtain rfl := h2.out (by omega)
      obtain rfl := h3.out (by omega)
      have HF : Hid (u8s [x0, x1, x2, x3] ++ u8s X = u8s T) := by
        show _ = _
        rw [HT.out, HLE.out]; unfold u8s; rw [List.map_append]
      obtain rfl : M = 4 + Y := HM.out
      clear h0 h1 h2 h3 H1 H2 H3
      go_wp2_with (first
        | ((with_reducible refine gAppend ?_); refine own_append hO 0 _ _ 34 eu8 rfl rfl rfl (hO.rdAt 1 rfl) (u8s_one _) (4 + Y) rfl (by simp [maxLen]; omega) (by omega) ?_; clear hO; intro a5 c5 ww hO))
      go_ret2
      rw [HF.out] at hO
      exact ⟨a5, c5, rfl, hO.below, hO.row 0 rfl⟩

set_option maxHeartbeats 4000000 in
set_option maxRecDepth 100000 in
theorem plong_calls (a : Option Addr) (n cap : Nat) (b : List (BitVec 8)) (w : World) (hR : Rd w 1 a n cap (u8s b)) (V : Nat) (E : Int) (hV : Go.Pz.longV b = V) (hE : Go.Pz.longE b = E) :
    Calls Try.prog 15 #[.slice a n cap] w fun e w' => e = .returned (.tuple #[.int .i64 (V : Int), .int .i64 E]) ∧ w = w' := by
  have hlen : b.length = n := by have := hR.len; rw [u8s_length] at this; omega
  by_cases h9 : n < 9
  · have d1 : decide ((n : Int) < 9) = true := decide_eq_true (by omega)
    have e1 : V = 0 := by rw [← hV]; unfold Go.Pz.longV; rw [if_pos (by omega)]
    have e2 : E = 2 := by rw [← hE]; unfold Go.Pz.longE; rw [if_pos (by omega)]
    subst e1 e2
    clear hR hV hE hlen h9
    go_enter Try.func15, Try.ntmps15
    go_wp2
    go_ret2
    exact ⟨rfl, rfl⟩
  · have d1 : decide ((n : Int) < 9) = false := decide_eq_false (by omega)
    obtain ⟨ba, off, rfl⟩ := hR.place (by omega)
    have hG : ∀ j (hj : j < 4), (u8s b)[j]? = some (.int .u8 ((b.getD j 0).toNat : Int)) := fun j hj => by
      have : j < b.length := by omega
      rw [u8s_get b j this]; simp [this]
    have hg0 := hG 0 (by omega)
    have hg1 := hG 1 (by omega)
    have hg2 := hG 2 (by omega)
    have hg3 := hG 3 (by omega)
    have hV' : V = if 65536 < Go.Pz.lg4 b then 0 else Go.Pz.lg4 b := by rw [← hV]; unfold Go.Pz.longV; rw [if_neg (by omega)]
    have hE' : E = if 65536 < Go.Pz.lg4 b then 2 else 0 := by rw [← hE]; unfold Go.Pz.longE; rw [if_neg (by omega)]
    unfold Go.Pz.lg4 at hV' hE'
    have x0l := (b.getD 0 0).isLt
    have x1l := (b.getD 1 0).isLt
    have x2l := (b.getD 2 0).isLt
    have x3l := (b.getD 3 0).isLt
    generalize b.getD 0 0 = x0 at *
    generalize b.getD 1 0 = x1 at *
    generalize b.getD 2 0 = x2 at *
    generalize b.getD 3 0 = x3 at *
    have f0 := Go.Pz.or_i64 0 x0.toNat 0 (by decide) (by omega) x0l
    have f1 := Go.Pz.or_i64 x0.toNat x1.toNat 8 (by omega) (by omega) x1l
    have f2 := Go.Pz.or_i64 (x0.toNat + x1.toNat * 2 ^ 8) x2.toNat 16 (by omega) (by omega) x2l
    have f3 := Go.Pz.or_i64 (x0.toNat + x1.toNat * 2 ^ 8 + x2.toNat * 2 ^ 16) x3.toNat 24 (by omega) (by omega) x3l
    obtain ⟨v1, hv1⟩ : ∃ v, x0.toNat + x1.toNat * 2 ^ 8 = v := ⟨_, rfl⟩
    rw [hv1] at f1 f2 f3
    obtain ⟨v2, hv2⟩ : ∃ v, v1 + x2.toNat * 2 ^ 16 = v := ⟨_, rfl⟩
    rw [hv2] at f2 f3
    obtain ⟨v3, hv3⟩ : ∃ v, v2 + x3.toNat * 2 ^ 24 = v := ⟨_, rfl⟩
    rw [hv3] at f3
    have g0 : bits .or .i64 0 (x0.toNat : Int) = (x0.toNat : Int) := by simpa using f0
    have g1 : bits .or .i64 (x0.toNat : Int) ((x1.toNat : Int) * 256) = (v1 : Int) := by rw [← f1, Int.natCast_mul]; rfl
    have g2 : bits .or .i64 (v1 : Int) ((x2.toNat : Int) * 65536) = (v2 : Int) := by rw [← f2, Int.natCast_mul]; rfl
    have g3 : bits .or .i64 (v2 : Int) ((x3.toNat : Int) * 16777216) = (v3 : Int) := by rw [← f3, Int.natCast_mul]; rfl
    have hv : x0.toNat + 256 * x1.toNat + 65536 * x2.toNat + 16777216 * x3.toNat = v3 := by omega
    rw [hv] at hV' hE'
    have HV := Lib.hid hV'
    have HE := Lib.hid hE'
    have HG0 := Lib.hid hg0
    have HG1 := Lib.hid hg1
    have HG2 := Lib.hid hg2
    have HG3 := Lib.hid hg3
    have HR := Lib.hid hR
    have hmc : n ≤ cap := hR.le
    have hn4 : 4 ≤ n := by omega
    have hmm := Nat.le_trans hR.le hR.max
    unfold maxLen at hmm
    have HO := Own.start w
    clear hR hV hE hlen h9 hG hg0 hg1 hg2 hg3 hV' hE' f0 f1 f2 f3 hv1 hv2 hv3 hv
    go_enter Try.func15, Try.ntmps15
    go_wp2
    clear d1
    go_loopg [2, 12] 4 (fun mm s2 cc wr => ∃ (k v : Nat), mm = 4 - k ∧ k ≤ 4 ∧ cc = .int .i64 (k : Int) ∧ s2 = .int .i64 (v : Int) ∧ Hid (k = 0 → v = 0) ∧ Hid (k = 1 → v = x0.toNat) ∧ Hid (k = 2 → v = v1) ∧ Hid (k = 3 → v = v2) ∧ Hid (k = 4 → v = v3) ∧ w = wr)
    case atStart => exact ⟨0, 0, rfl, by omega, rfl, rfl, fun _ => rfl, fun h => by omega, fun h => by omega, fun h => by omega, fun h => by omega, rfl⟩
    case round =>
      obtain ⟨k, v, rfl, hk, rfl, rfl, h0, h1, h2, h3, h4, rfl⟩ := hrel
      obtain rfl | rfl | rfl | rfl | rfl : k = 0 ∨ k = 1 ∨ k = 2 ∨ k = 3 ∨ k = 4 := by omega
      · obtain rfl := h0.out rfl
        clear h0 h1 h2 h3 h4
        go_wp2_with (first
          | ((with_reducible refine gLoad (T := 5) ?_); refine ld_rd HR.out rfl HG0.out (tA rfl) ?_))
        go_roundg 3
        case measure => omega
        case rel => exact ⟨1, x0.toNat, rfl, by omega, rfl, rfl, fun h => by omega, fun _ => rfl, fun h => by omega, fun h => by omega, fun h => by omega, rfl⟩
      · obtain rfl := h1.out rfl
        clear h0 h1 h2 h3 h4
        go_wp2_with (first
          | ((with_reducible refine gLoad (T := 5) ?_); refine ld_rd HR.out rfl HG1.out (tA rfl) ?_))
        go_roundg 2
        case measure => omega
        case rel => exact ⟨2, v1, rfl, by omega, rfl, rfl, fun h => by omega, fun h => by omega, fun _ => rfl, fun h => by omega, fun h => by omega, rfl⟩
      · obtain rfl := h2.out rfl
        clear h0 h1 h2 h3 h4
        go_wp2_with (first
          | ((with_reducible refine gLoad (T := 5) ?_); refine ld_rd HR.out rfl HG2.out (tA rfl) ?_))
        go_roundg 1
        case measure => omega
        case rel => exact ⟨3, v2, rfl, by omega, rfl, rfl, fun h => by omega, fun h => by omega, fun h => by omega, fun _ => rfl, fun h => by omega, rfl⟩
      · obtain rfl := h3.out rfl
        clear h0 h1 h2 h3 h4
        go_wp2_with (first
          | ((with_reducible refine gLoad (T := 5) ?_); refine ld_rd HR.out rfl HG3.out (tA rfl) ?_))
        go_roundg 0
        case measure => omega
        case rel => exact ⟨4, v3, rfl, by omega, rfl, rfl, fun h => by omega, fun h => by omega, fun h => by omega, fun h => by omega, fun _ => rfl, rfl⟩
      · obtain rfl := h4.out rfl
        clear h0 h1 h2 h3 h4
        by_cases hb : 65536 < v
        · have d5 : decide ((65536 : Int) < (v : Int)) = true := decide_eq_true (by omega)
          have e1 : V = 0 := by rw [HV.out, if_pos hb]
          have e2 : E = 2 := by rw [HE.out, if_pos hb]
          subst e1 e2
          clear hb HV HE
          go_wp2
          go_ret2
          exact ⟨rfl, rfl⟩
        · have d5 : decide ((65536 : Int) < (v : Int)) = false := decide_eq_false (by omega)
          have e1 : V = v := by rw [HV.out, if_neg hb]
          have e2 : E = 0 := by rw [HE.out, if_neg hb]
          subst e1 e2
          clear hb HV HE
          go_wp2
          go_ret2
          exact ⟨rfl, rfl⟩

theorem pack_nil : Go.Pz.packT [] = [0, 0, 0, 0, 0, 0, 0, 0, 0] := by decide +kernel
set_option maxHeartbeats 1000000 in
theorem live7_calls (w : World) :
    Calls Try.prog 9 #[] w fun e w' => e = .returned (.bool true) ∧ Below w.heap.size w w' := by
  have hO := Own.start w
  have HN : Hid (∀ w : World, Rd w 1 none 0 0 (u8s [])) := fun w => ⟨rfl, Nat.le_refl _, by simp [maxLen], fun _ => ⟨rfl, rfl⟩, fun h => absurd rfl h⟩
  have HP := Lib.hid (fun w h => pack_ok none 0 0 [] w h (by omega) [0, 0, 0, 0, 0, 0, 0, 0, 0] pack_nil 9 rfl)
  generalize hW : w = wn at hO ⊢
  clear hW w
  go_enter Try.func9, Try.ntmps9
  go_wp2_with (first
    | ((with_reducible refine gG ?_); refine wpList_want rfl ?_)
    | (go_at_call 12; refine (HP.out _ (HN.out _)).mono ?_; rintro e ww ⟨a3, c3, rfl, hb, hr⟩; replace hO := hO.addRow hb hr; clear hb hr))
  go_ret
  exact ⟨rfl, hO.below⟩
end Go.Proofs.Ytnkpjmcgecdkfaa

/- Walks: the reader's octet, slices.Clone of octets, NewReader. -/
namespace Go.Kc
open Go.Bv
theorem or_byte (c x : Nat) (hc : c < 16777216) (hx : x < 256) : Go.bits .or .u32 ((c : Int) * 256) (x : Int) = ((c * 256 + x : Nat) : Int) := by
  have h := or32 (BitVec.ofNat 32 (c * 256)) (BitVec.ofNat 32 x)
  rw [BitVec.toNat_or, BitVec.toNat_ofNat, BitVec.toNat_ofNat, Nat.mod_eq_of_lt (by omega), Nat.mod_eq_of_lt (by omega)] at h
  rw [show ((c : Int) * 256) = ((c * 256 : Nat) : Int) by omega, h, show c * 256 = c <<< 8 by rw [Nat.shiftLeft_eq], Nat.shiftLeft_add_eq_or_of_lt (by omega)]
end Go.Kc
namespace Go.Own
open Go.RowKit
/-- the first three -/
theorem Own.take3 {w0 w : World} {L : List Res} {x y z : Res} (h : Own w0 w (x :: y :: z :: L)) : Own w0 w [x, y, z] :=
  h.sub (List.Sublist.cons_cons _ (List.Sublist.cons_cons _ (List.Sublist.cons_cons _ (List.nil_sublist _))))
end Go.Own
namespace Go.Proofs.Ytnkpjmcgecdkfaa
open Go.RowKit Go.Own Go.Bv Go.Ord Go.Eq Go.Opn Go.Pb

def rC (pS bS : Value) (used span code : Nat) : Array Value := #[pS, bS, .int .i64 (used : Int), .int .u32 (span : Int), .int .u32 (code : Int)]

set_option maxHeartbeats 2000000 in
set_option maxRecDepth 100000 in
theorem octet_calls {w0 w : World} {L : List Res} {rb : Nat} {pS : Value} {aB : Option Addr} {m cB used span code : Nat} (b : List (BitVec 8)) (c : BitVec 8) (hc : b[used]? = some c) (hu : used < m) (hm : m ≤ 10000000) (hcd : code < 16777216) (C : Nat) (hC : code * 256 + c.toNat = C)
    (hO : Own w0 w (.blk rb (.cells (rC pS (.slice aB m cB) used span code) 91 (0,0)) :: .sl 5 1 (.slice aB m cB) m (u8s b) :: L)) :
    Calls Try.prog 51 #[.pointer (some ⟨rb, 0, none⟩)] w fun e w' => e = .returned (.tuple #[]) ∧
      Own w0 w' (.blk rb (.cells (rC pS (.slice aB m cB) (used + 1) span C) 91 (0,0)) :: .sl 5 1 (.slice aB m cB) m (u8s b) :: L) := by
  obtain ⟨gB, rfl⟩ := hO.slPlace 1 rfl (by omega)
  have hg : (u8s b)[used]? = some (.int .u8 (c.toNat : Int)) := by
    obtain ⟨h1, h2⟩ := List.getElem?_eq_some_iff.1 hc
    rw [u8s_get b used h1, h2]
  have HG := Lib.hid hg
  have hcl := c.isLt
  have e2 : bits .or .u32 ((code : Int) * 256) (c.toNat : Int) = (C : Int) := by rw [Go.Kc.or_byte code c.toNat hcd hcl, hC]
  have e1 : IntKind.u32.wrap ((code : Int) * 256) = (code : Int) * 256 := by simp [IntKind.wrap, IntKind.bits, IntKind.signed]; omega
  have e3 : IntKind.u32.wrap (c.toNat : Int) = (c.toNat : Int) := by simp [IntKind.wrap, IntKind.bits, IntKind.signed]; omega
  have e4 : IntKind.i64.wrap ((used : Int) + 1) = (used : Int) + 1 := by rw [IntKind.wrap_i64]; omega
  clear hc hC hg
  go_enter Try.func51, Try.ntmps51
  go_wp2
  refine wp_region_textS (fun w' => Own w0 w' (.blk rb (.cells (rC pS (.slice (some ⟨gB, 0, none⟩) m cB) used span code) 91 (0,0)) :: .sl 5 1 (.slice (some ⟨gB, 0, none⟩) m cB) m (u8s b) :: L)) (fun op => match op with | .load _ _ => true | _ => false) (by kernel_rfl) (by kernel_rfl) hO.drew ?_
  replace hO := hO.drew
  generalize World.drew _ = wd at hO ⊢
  go_wp2_with (first
    | (((with_reducible refine gIL ?_); first | refine wpI_ldcS (fun w' hS => hS.blk 0 rfl) rfl rfl (tA rfl) rfl ?_); first | (refine wpI_act (by simp only [Act.put, List.setIfInBounds_toArray, List.set_cons_succ, List.set_cons_zero]; rfl) ?_) | skip)
    | ((with_reducible refine gIL ?_); refine wpI_ld1S (fun w' hS => (hS.slCell 1 rfl (by omega)).trans HG.out) rfl rfl (tA rfl) ?_; first | (refine wpI_act (by simp only [Act.put, List.setIfInBounds_toArray, List.set_cons_succ, List.set_cons_zero]; rfl) ?_) | skip)
    | ((with_reducible refine gIS1 ?_); refine wpI_last (by kernel_rfl) rfl rfl (by kernel_rfl) ?_; intro K hK; have HK := Lib.hid hK; clear hK) | ((with_reducible refine gOnlyK0 HK.out ?_); clear HK K)
    | ((with_reducible refine gStore ?_); first | (refine stX hO 0 rfl rfl rfl rfl rfl (tS rfl) ?_; clear hO; intro ww hO) | (refine stC hO 0 rfl rfl rfl (ltb rfl) rfl (tS rfl) ?_; clear hO; intro ww hO))
    | ((with_reducible refine gLoad ?_); first | refine ldX hO 0 rfl rfl (tA rfl) (tS rfl) ?_ | refine ldC hO 0 rfl rfl (tA rfl) rfl ?_)
    | ((with_reducible refine gI ?_); refine wpI_step rfl rfl (by kernel_rfl) ?_; intro K hK; have HK := Lib.hid hK; clear hK) | ((with_reducible refine gI ?_); first | refine wpI_skip rfl ?_ | refine wpI_want rfl ?_) | ((with_reducible refine gOnlyK HK.out ?_ ?_); exact hO; clear HK K; first | (refine wpI_act (by simp only [Act.put, List.setIfInBounds_toArray, List.set_cons_succ, List.set_cons_zero]; rfl) ?_) | skip) | (with_reducible refine wpI_nil ?_))
  refine bodyPost_end (results_none rfl _ _ _) rfl ?_
  exact ⟨rfl, hO⟩
end Go.Proofs.Ytnkpjmcgecdkfaa

/- Walk: the reader's Next. -/
namespace Go.Proofs.Ytnkpjmcgecdkfaa
open Go.RowKit Go.Own Go.Bv Go.Ord Go.Eq Go.Opn Go.Pb

set_option maxHeartbeats 8000000 in
set_option maxRecDepth 100000 in
theorem next_ok {w0 w : World} {L : List Res} {rb : Nat} {aP : Option Addr} {n cP : Nat} {aB : Option Addr} {m cB : Nat} (r : Go.Kc.Rr) (b : List (BitVec 8)) (hr : Go.Kc.Rok n b r) (hb : b.length = m) (hm : m ≤ 10000000) (a : Nat) (ha : a < n) (hs : r.may b a) (t : Go.Kc.Rr) (ht : r.next b a = t)
    (hO : Own w0 w (.blk rb (.cells (rC (.slice aP n cP) (.slice aB m cB) r.used r.span r.code) 91 (0,0)) :: .sl 5 1 (.slice aB m cB) m (u8s b) :: .sl 3 1 (.slice aP n cP) n (i64s r.p) :: L)) :
    Calls Try.prog 64 #[.pointer (some ⟨rb, 0, none⟩), .int .i64 (a : Int)] w fun e w' => e = .returned (.tuple #[.bool (r.set a), .int .i64 0]) ∧ Own w0 w' (.blk rb (.cells (rC (.slice aP n cP) (.slice aB m cB) t.used t.span t.code) 91 (0,0)) :: .sl 5 1 (.slice aB m cB) m (u8s b) :: .sl 3 1 (.slice aP n cP) n (i64s t.p) :: L) := by
  obtain ⟨q1, q2⟩ := Go.Kc.rok_part hr ha
  obtain ⟨q3, q4, q5, q6, q7⟩ := Go.Kc.rok_mid hr ha
  obtain ⟨gP, rfl⟩ := hO.slPlace 2 rfl (by omega)
  obtain ⟨k1, k2, k3, k4, k5, k6⟩ := hr
  have hmv := Go.Kc.all_get k2 (by rw [k1]; exact ha)
  rw [kc_may] at hmv
  obtain ⟨pv, hpv⟩ : ∃ pv, r.p.getD a 0 = pv := ⟨_, rfl⟩
  obtain ⟨P, hP⟩ : ∃ P, r.part a = P := ⟨_, rfl⟩
  rw [hpv] at hmv
  rw [hP] at q1 q2
  have hg : (i64s r.p)[a]? = some (.int .i64 pv) := by
    rw [i64s_get r.p a (by omega), ← hpv, List.getD_eq_getElem?_getD, List.getElem?_eq_getElem (by omega)]; rfl
  have hset : (i64s r.p).set a (.int .i64 (learnI pv (r.set a))) = i64s (r.mid a).p := by
    unfold Go.Kc.Rr.mid i64s
    dsimp only
    rw [List.map_set, hpv]; rfl
  have hsp : ∀ w, Calls Try.prog 61 #[.int .u32 (r.span : Int), .int .i64 pv] w fun e w' => e = .returned (.tuple #[.int .u32 (P : Int), .int .i64 0]) ∧ w = w' := fun w => by
    have h := split_calls (r.span : Int) pv w (by omega) (by omega)
    have e : splitOk (r.span : Int) pv = true := by unfold splitOk; rw [hmv, decide_eq_true (by omega)]; rfl
    have e2 : splitI (r.span : Int) pv = (P : Int) := by
      have hp0 := ((mayB_iff pv).1 hmv).1
      rw [← hP]
      unfold splitI Go.Kc.Rr.part
      rw [hpv, Int.natCast_mul, Int.natCast_ediv, Int.toNat_of_nonneg (by omega)]; rfl
    rw [e, if_pos rfl, if_pos rfl, e2] at h
    exact h
  have hln : ∀ bt w, Calls Try.prog 62 #[.int .i64 pv, .bool bt] w fun e w' => e = .returned (.tuple #[.int .i64 (learnI pv bt), .int .i64 0]) ∧ w = w' := fun bt w => by
    have h := Learn_calls pv bt w
    rw [hmv, if_pos rfl, if_pos rfl] at h
    exact h
  have hbit : r.set a = decide (P ≤ r.code) := by rw [← hP]; rfl
  have hm1 : (r.mid a).code = if r.set a then r.code - P else r.code := by rw [← hP]; rfl
  have hm2 : (r.mid a).span = if r.set a then r.span - P else P := by rw [← hP]; rfl
  have hm3 : (r.mid a).used = r.used := rfl
  have HSP := Lib.hid hsp
  have HG := Lib.hid hg
  have hs2 : (r.mid a).span < 16777216 → r.used < m := by rw [← hb]; exact hs
  have htn : (r.mid a).norm b = t := ht
  obtain ⟨u, hu⟩ : ∃ u, r.mid a = u := ⟨_, rfl⟩
  rw [hu] at hset hm1 hm2 hm3 hs2 q3 q4 q5
  rw [hu] at htn
  have HTN := Lib.hid htn
  obtain ⟨used, hus⟩ : ∃ x, r.used = x := ⟨_, rfl⟩
  obtain ⟨span, hsp2⟩ : ∃ x, r.span = x := ⟨_, rfl⟩
  obtain ⟨code, hco⟩ : ∃ x, r.code = x := ⟨_, rfl⟩
  obtain ⟨C1, hC1⟩ : ∃ x, u.code = x := ⟨_, rfl⟩
  obtain ⟨Z, hZ⟩ : ∃ x, u.span = x := ⟨_, rfl⟩
  rw [hus] at hs2 hm3 hO k6
  rw [hsp2] at HSP hm2 hO q2 k3 k4
  rw [hco] at hbit hm1 hO
  rw [hZ] at hm2 hs2 q3 q4 q5
  rw [hC1] at hm1 q3
  rw [hb] at k6
  have HUS := Lib.hid hus
  have HSS := Lib.hid hsp2
  have HCO := Lib.hid hco
  have HB := Lib.hid hb
  have HBIT0 := Lib.hid hbit
  have HM := Lib.hid hm
  have HSET0 := Lib.hid hset
  have HU3 := Lib.hid hm3
  have HC1 := Lib.hid hC1
  have HZZ := Lib.hid hZ
  rw [hbit] at hm1 hm2
  have i1 : IntKind.i64.wrap ((m : Int) - (used : Int)) = (m : Int) - (used : Int) := by rw [IntKind.wrap_i64]; omega
  have i2 : decide ((a : Int) < 0) = false := decide_eq_false (by omega)
  have i3 : decide ((n : Int) ≤ (a : Int)) = false := decide_eq_false (by omega)
  have i4 : decide (n ≤ a) = false := decide_eq_false (by omega)
  clear hb hm k1 k2 hs hmv hpv hP hg hsp hus hsp2 hco hC1 hZ hu q6 q7 hm3 ht htn
  by_cases hc : P ≤ code
  · have hbt : decide (P ≤ code) = true := decide_eq_true hc
    rw [hbit, hbt] at hset
    rw [hbt] at hm1 hm2
    simp only [Bool.false_eq_true, if_true, if_false] at hm1 hm2
    have HBIT : Hid (r.set a = true) := by show _ = _; rw [HBIT0.out, hbt]
    have HSET := Lib.hid hset
    have HLN := Lib.hid (hln true)
    clear hbit hbt hset hln HSET0 HBIT0
    have dP2 : decide (P ≤ code) = true := decide_eq_true (by omega)
    have dP : decide ((P : Int) ≤ (code : Int)) = true := decide_eq_true (by omega)
    have a3 : IntKind.u32.wrap ((span : Int) - (P : Int)) = (Z : Int) := by simp [IntKind.wrap, IntKind.bits, IntKind.signed]; omega
    have a4 : IntKind.u32.wrap ((code : Int) - (P : Int)) = (C1 : Int) := by simp [IntKind.wrap, IntKind.bits, IntKind.signed]; omega
    clear hm1 hm2
    by_cases hz : Z < 16777216
    · obtain ⟨Y, hY⟩ : ∃ x, Z * 256 = x := ⟨_, rfl⟩
      have y1 : IntKind.u32.wrap ((Z : Int) * 256) = (Y : Int) := by simp [IntKind.wrap, IntKind.bits, IntKind.signed]; omega
      have hlt : used < m := hs2 hz
      have y4 : decide ((m : Int) - (used : Int) < 1) = false := decide_eq_false (by omega)
      have hltb : used < b.length := by rw [HB.out]; exact hlt
      obtain ⟨c, hcv⟩ : ∃ c, b.getD used 0 = c := ⟨_, rfl⟩
      have hx : b[used]? = some c := by rw [← hcv]; simp [hltb]
      obtain ⟨C2, hC2⟩ : ∃ x, C1 * 256 + c.toNat = x := ⟨_, rfl⟩
      have HTT : Hid (t = ⟨u.p, C2, Y, used + 1⟩) := by show _ = _; rw [← HTN.out]; unfold Go.Kc.Rr.norm; rw [if_pos (by rw [HZZ.out]; exact hz), HC1.out, HU3.out, hcv, hC2, HZZ.out, hY]
      have HC : Hid (b[used]? = some c) := hx
      have HU : Hid (used < m) := hlt
      have HCD : Hid (C1 < 16777216) := by show _ < _; omega
      have HC2 : Hid (C1 * 256 + c.toNat = C2) := hC2
      clear hltb hx hC2 hcv hlt
      have YB : Hid (Z * 256 = Y) := hY
      have Y2 : Hid (Z < 16777216) := hz
      have Y3 : Hid (16777216 ≤ Y) := by show _ ≤ _; omega
      clear hY hz hs2 q1 q2 q3 q4 q5 k3 k4 k5 k6 hc
      go_enter Try.func64, Try.ntmps64
      go_wp2_with (first
        | ((with_reducible refine gG ?_); refine wpList_want rfl ?_)
        | ((with_reducible refine gLoad ?_); first | refine ldX hO 0 rfl rfl (tA rfl) (tS rfl) ?_ | refine ldC hO 0 rfl rfl (tA rfl) rfl ?_))
      refine wp_region_textS (fun w' => Own w0 w' (.blk rb (.cells (rC (.slice (some ⟨gP, 0, none⟩) n cP) (.slice aB m cB) used span code) 91 (0,0)) :: .sl 5 1 (.slice aB m cB) m (u8s b) :: .sl 3 1 (.slice (some ⟨gP, 0, none⟩) n cP) n (i64s r.p) :: L)) (fun op => match op with | .load _ _ => true | _ => false) (by kernel_rfl) (by kernel_rfl) hO.drew ?_
      replace hO := hO.drew
      generalize World.drew _ = wd at hO ⊢
      go_wp2_with (first
        | (((with_reducible refine gIL ?_); first | refine wpI_ldcS (fun w' hS => hS.blk 0 rfl) rfl rfl (tA rfl) rfl ?_); first | (refine wpI_act (by simp only [Act.put, List.setIfInBounds_toArray, List.set_cons_succ, List.set_cons_zero]; rfl) ?_) | skip)
        | ((with_reducible refine gIL ?_); refine wpI_ld1S (fun w' hS => (hS.slCell 2 rfl (by omega)).trans HG.out) rfl rfl (tA rfl) ?_; first | (refine wpI_act (by simp only [Act.put, List.setIfInBounds_toArray, List.set_cons_succ, List.set_cons_zero]; rfl) ?_) | skip)
        | (go_at_call 61; refine (HSP.out _).mono ?_; rintro e ww ⟨rfl, rfl⟩)
        | ((with_reducible refine gLoad ?_); first | refine ldX hO 0 rfl rfl (tA rfl) (tS rfl) ?_ | refine ldC hO 0 rfl rfl (tA rfl) rfl ?_)
        | ((with_reducible refine gStore ?_); first | (refine stX hO 0 rfl rfl rfl rfl rfl (tS rfl) ?_; clear hO; intro ww hO) | (refine stC hO 0 rfl rfl rfl (ltb rfl) rfl (tS rfl) ?_; clear hO; intro ww hO))
        | ((with_reducible refine gI ?_); refine wpI_step rfl rfl (by kernel_rfl) ?_; intro K hK; have HK := Lib.hid hK; clear hK) | ((with_reducible refine gI ?_); first | refine wpI_skip rfl ?_ | refine wpI_want rfl ?_) | ((with_reducible refine gOnlyK HK.out ?_ ?_); exact hO; clear HK K; first | (refine wpI_act (by simp only [Act.put, List.setIfInBounds_toArray, List.set_cons_succ, List.set_cons_zero]; rfl) ?_) | skip) | (with_reducible refine wpI_nil ?_))
      go_loopg [9, 10] 1 (fun q s9 s10 wr => Own w0 wr (.blk rb (.cells (rC (.slice (some ⟨gP, 0, none⟩) n cP) (.slice aB m cB) used span code) 91 (0,0)) :: .sl 5 1 (.slice aB m cB) m (u8s b) :: .sl 3 1 (.slice (some ⟨gP, 0, none⟩) n cP) n (i64s r.p) :: L) ∧ ((q = 1 ∧ s9 = .int .i64 0 ∧ s10 = .int .u32 (Z : Int)) ∨ (q = 0 ∧ s9 = .int .i64 1 ∧ s10 = .int .u32 (Y : Int))))
      case atStart => exact ⟨hO, .inl ⟨rfl, rfl, rfl⟩⟩
      case round =>
        obtain ⟨hO1, hrel⟩ := hrel
        clear hO
        have hO := hO1
        clear hO1
        rcases hrel with ⟨rfl, rfl, rfl⟩ | ⟨rfl, rfl, rfl⟩
        · have y2 : decide ((Z : Int) < 16777216) = true := decide_eq_true (by have h := Y2.out; omega)
          go_wp2
          go_roundg 0
          case measure => omega
          case rel => exact ⟨hO, .inr ⟨rfl, rfl, rfl⟩⟩
        · have y3 : decide ((Y : Int) < 16777216) = false := decide_eq_false (by have h := Y3.out; omega)
          go_wp2
          clear y3
          refine wp_region_textS (fun w' => Own w0 w' (.blk rb (.cells (rC (.slice (some ⟨gP, 0, none⟩) n cP) (.slice aB m cB) used span code) 91 (0,0)) :: .sl 5 1 (.slice aB m cB) m (u8s b) :: .sl 3 1 (.slice (some ⟨gP, 0, none⟩) n cP) n (i64s r.p) :: L)) (fun op => match op with | .load _ _ => true | _ => false) (by kernel_rfl) (by kernel_rfl) hO.drew ?_
          replace hO := hO.drew
          generalize World.drew _ = wd at hO ⊢
          go_wp2_with (first
            | (((with_reducible refine gIL ?_); first | refine wpI_ldcS (fun w' hS => hS.blk 0 rfl) rfl rfl (tA rfl) rfl ?_); first | (refine wpI_act (by simp only [Act.put, List.setIfInBounds_toArray, List.set_cons_succ, List.set_cons_zero]; rfl) ?_) | skip)
            | ((with_reducible refine gLoad ?_); first | refine ldX hO 0 rfl rfl (tA rfl) (tS rfl) ?_ | refine ldC hO 0 rfl rfl (tA rfl) rfl ?_)
            | ((with_reducible refine gStore ?_); first | (refine stX hO 0 rfl rfl rfl rfl rfl (tS rfl) ?_; clear hO; intro ww hO) | (refine stC hO 0 rfl rfl rfl (ltb rfl) rfl (tS rfl) ?_; clear hO; intro ww hO))
            | ((with_reducible refine gI ?_); refine wpI_step rfl rfl (by kernel_rfl) ?_; intro K hK; have HK := Lib.hid hK; clear hK) | ((with_reducible refine gI ?_); first | refine wpI_skip rfl ?_ | refine wpI_want rfl ?_) | ((with_reducible refine gOnlyK HK.out ?_ ?_); exact hO; clear HK K; first | (refine wpI_act (by simp only [Act.put, List.setIfInBounds_toArray, List.set_cons_succ, List.set_cons_zero]; rfl) ?_) | skip) | (with_reducible refine wpI_nil ?_))
          replace hO : Own w0 _ (.blk rb (.cells (rC (.slice (some ⟨gP, 0, none⟩) n cP) (.slice aB m cB) used span C1) 91 (0,0)) :: .sl 5 1 (.slice aB m cB) m (u8s b) :: .sl 3 1 (.slice (some ⟨gP, 0, none⟩) n cP) n (i64s r.p) :: L) := hO
          refine wp_region_textS (fun w' => Own w0 w' [.blk rb (.cells (rC (.slice (some ⟨gP, 0, none⟩) n cP) (.slice aB m cB) used span C1) 91 (0,0)), .sl 5 1 (.slice aB m cB) m (u8s b)]) (fun op => match op with | .load _ (.tmp 97) => false | .load _ _ => true | _ => false) (by kernel_rfl) (by kernel_rfl) hO.drew.take2 ?_
          replace hO := hO.drew
          generalize World.drew _ = wd2 at hO ⊢
          go_wp2_with (first
            | (((with_reducible refine gIL ?_); first | refine wpI_ldcS (fun w' hS => hS.blk 0 rfl) rfl rfl (tA rfl) rfl ?_); first | (refine wpI_act (by simp only [Act.put, List.setIfInBounds_toArray, List.set_cons_succ, List.set_cons_zero]; rfl) ?_) | skip)
            | ((with_reducible refine gLoad (T := 3) ?_); refine ld_sl hO 2 rfl rfl HG.out (tA rfl) ?_)
            | (go_at_call 62; refine (HLN.out _).mono ?_; rintro e ww ⟨rfl, rfl⟩)
            | ((with_reducible refine gStore (T := 3) ?_); refine own_setElem hO 2 3 _ _ _ rfl rfl rfl (by omega) ii64s rfl ?_; clear hO; intro ww hO)
            | ((with_reducible refine gI ?_); refine wpI_step rfl rfl (by kernel_rfl) ?_; intro K hK; have HK := Lib.hid hK; clear hK) | ((with_reducible refine gI ?_); first | refine wpI_skip rfl ?_ | refine wpI_want rfl ?_) | ((with_reducible refine gOnlyK HK.out ?_ ?_); exact hO.take2; clear HK K; first | (refine wpI_act (by simp only [Act.put, List.setIfInBounds_toArray, List.set_cons_succ, List.set_cons_zero]; rfl) ?_) | skip) | (with_reducible refine wpI_nil ?_))
          replace hO : Own w0 _ (.blk rb (.cells (rC (.slice (some ⟨gP, 0, none⟩) n cP) (.slice aB m cB) used span C1) 91 (0,0)) :: .sl 5 1 (.slice aB m cB) m (u8s b) :: .sl 3 1 (.slice (some ⟨gP, 0, none⟩) n cP) n ((i64s r.p).set a (.int .i64 (learnI pv true))) :: L) := hO
          rw [HSET.out] at hO
          go_loopg [105] 1 (fun q c wr => (q = 1 ∧ c = .int .i64 0 ∧ Own w0 wr (.blk rb (.cells (rC (.slice (some ⟨gP, 0, none⟩) n cP) (.slice aB m cB) used span C1) 91 (0,0)) :: .sl 5 1 (.slice aB m cB) m (u8s b) :: .sl 3 1 (.slice (some ⟨gP, 0, none⟩) n cP) n (i64s u.p) :: L)) ∨ (q = 0 ∧ c = .int .i64 1 ∧ Own w0 wr (.blk rb (.cells (rC (.slice (some ⟨gP, 0, none⟩) n cP) (.slice aB m cB) (used + 1) span C2) 91 (0,0)) :: .sl 5 1 (.slice aB m cB) m (u8s b) :: .sl 3 1 (.slice (some ⟨gP, 0, none⟩) n cP) n (i64s u.p) :: L)))
          case atStart => exact .inl ⟨rfl, rfl, hO⟩
          case round =>
            rcases hrel with ⟨rfl, rfl, hO1⟩ | ⟨rfl, rfl, hO1⟩
            · clear hO
              have hO := hO1
              clear hO1
              go_wp2_with (first
                | (go_at_call 51; refine (octet_calls b c HC.out HU.out HM.out HCD.out C2 HC2.out hO).mono ?_; rintro e ww ⟨rfl, hO2⟩; clear hO; have hO := hO2; clear hO2))
              go_roundg 0
              case measure => omega
              case rel => exact .inr ⟨rfl, rfl, hO⟩
            · clear hO
              have hO := hO1
              clear hO1
              go_wp2_with (first
                | ((with_reducible refine gLoad ?_); first | refine ldX hO 0 rfl rfl (tA rfl) (tS rfl) ?_ | refine ldC hO 0 rfl rfl (tA rfl) rfl ?_)
                | ((with_reducible refine gStore ?_); first | (refine stX hO 0 rfl rfl rfl rfl rfl (tS rfl) ?_; clear hO; intro ww hO) | (refine stC hO 0 rfl rfl rfl (ltb rfl) rfl (tS rfl) ?_; clear hO; intro ww hO)))
              go_ret2
              exact ⟨by rw [HBIT.out]; rfl, by rw [HTT.out]; exact hO⟩
    · have y4 : decide ((m : Int) - (used : Int) < 0) = false := decide_eq_false (by omega)
      have y5 : IntKind.u32.wrap (Z : Int) = (Z : Int) := by simp [IntKind.wrap, IntKind.bits, IntKind.signed]; omega
      have HTT : Hid (t = ⟨u.p, C1, Z, used⟩) := by show _ = _; rw [← HTN.out]; unfold Go.Kc.Rr.norm; rw [if_neg (by rw [HZZ.out]; exact hz), ← HC1.out, ← HZZ.out, ← HU3.out]
      have Y2 : Hid (¬ Z < 16777216) := hz
      clear hz hs2 q1 q2 q3 q4 q5 k3 k4 k5 k6 hc
      go_enter Try.func64, Try.ntmps64
      go_wp2_with (first
        | ((with_reducible refine gG ?_); refine wpList_want rfl ?_)
        | ((with_reducible refine gLoad ?_); first | refine ldX hO 0 rfl rfl (tA rfl) (tS rfl) ?_ | refine ldC hO 0 rfl rfl (tA rfl) rfl ?_))
      refine wp_region_textS (fun w' => Own w0 w' (.blk rb (.cells (rC (.slice (some ⟨gP, 0, none⟩) n cP) (.slice aB m cB) used span code) 91 (0,0)) :: .sl 5 1 (.slice aB m cB) m (u8s b) :: .sl 3 1 (.slice (some ⟨gP, 0, none⟩) n cP) n (i64s r.p) :: L)) (fun op => match op with | .load _ _ => true | _ => false) (by kernel_rfl) (by kernel_rfl) hO.drew ?_
      replace hO := hO.drew
      generalize World.drew _ = wd at hO ⊢
      go_wp2_with (first
        | (((with_reducible refine gIL ?_); first | refine wpI_ldcS (fun w' hS => hS.blk 0 rfl) rfl rfl (tA rfl) rfl ?_); first | (refine wpI_act (by simp only [Act.put, List.setIfInBounds_toArray, List.set_cons_succ, List.set_cons_zero]; rfl) ?_) | skip)
        | ((with_reducible refine gIL ?_); refine wpI_ld1S (fun w' hS => (hS.slCell 2 rfl (by omega)).trans HG.out) rfl rfl (tA rfl) ?_; first | (refine wpI_act (by simp only [Act.put, List.setIfInBounds_toArray, List.set_cons_succ, List.set_cons_zero]; rfl) ?_) | skip)
        | (go_at_call 61; refine (HSP.out _).mono ?_; rintro e ww ⟨rfl, rfl⟩)
        | ((with_reducible refine gLoad ?_); first | refine ldX hO 0 rfl rfl (tA rfl) (tS rfl) ?_ | refine ldC hO 0 rfl rfl (tA rfl) rfl ?_)
        | ((with_reducible refine gStore ?_); first | (refine stX hO 0 rfl rfl rfl rfl rfl (tS rfl) ?_; clear hO; intro ww hO) | (refine stC hO 0 rfl rfl rfl (ltb rfl) rfl (tS rfl) ?_; clear hO; intro ww hO))
        | ((with_reducible refine gI ?_); refine wpI_step rfl rfl (by kernel_rfl) ?_; intro K hK; have HK := Lib.hid hK; clear hK) | ((with_reducible refine gI ?_); first | refine wpI_skip rfl ?_ | refine wpI_want rfl ?_) | ((with_reducible refine gOnlyK HK.out ?_ ?_); exact hO; clear HK K; first | (refine wpI_act (by simp only [Act.put, List.setIfInBounds_toArray, List.set_cons_succ, List.set_cons_zero]; rfl) ?_) | skip) | (with_reducible refine wpI_nil ?_))
      go_loopg [9, 10] 1 (fun q s9 s10 wr => q ≤ 1 ∧ s9 = .int .i64 0 ∧ s10 = .int .u32 (Z : Int) ∧ Own w0 wr (.blk rb (.cells (rC (.slice (some ⟨gP, 0, none⟩) n cP) (.slice aB m cB) used span code) 91 (0,0)) :: .sl 5 1 (.slice aB m cB) m (u8s b) :: .sl 3 1 (.slice (some ⟨gP, 0, none⟩) n cP) n (i64s r.p) :: L))
      case atStart => exact ⟨by omega, rfl, rfl, hO⟩
      case round =>
        obtain ⟨hq, rfl, rfl, hO1⟩ := hrel
        clear hO hq
        have hO := hO1
        clear hO1
        have y2 : decide ((Z : Int) < 16777216) = false := decide_eq_false (by have h := Y2.out; omega)
        go_wp2
        clear y2
        refine wp_region_textS (fun w' => Own w0 w' (.blk rb (.cells (rC (.slice (some ⟨gP, 0, none⟩) n cP) (.slice aB m cB) used span code) 91 (0,0)) :: .sl 5 1 (.slice aB m cB) m (u8s b) :: .sl 3 1 (.slice (some ⟨gP, 0, none⟩) n cP) n (i64s r.p) :: L)) (fun op => match op with | .load _ _ => true | _ => false) (by kernel_rfl) (by kernel_rfl) hO.drew ?_
        replace hO := hO.drew
        generalize World.drew _ = wd at hO ⊢
        go_wp2_with (first
          | (((with_reducible refine gIL ?_); first | refine wpI_ldcS (fun w' hS => hS.blk 0 rfl) rfl rfl (tA rfl) rfl ?_); first | (refine wpI_act (by simp only [Act.put, List.setIfInBounds_toArray, List.set_cons_succ, List.set_cons_zero]; rfl) ?_) | skip)
          | ((with_reducible refine gLoad ?_); first | refine ldX hO 0 rfl rfl (tA rfl) (tS rfl) ?_ | refine ldC hO 0 rfl rfl (tA rfl) rfl ?_)
          | ((with_reducible refine gStore ?_); first | (refine stX hO 0 rfl rfl rfl rfl rfl (tS rfl) ?_; clear hO; intro ww hO) | (refine stC hO 0 rfl rfl rfl (ltb rfl) rfl (tS rfl) ?_; clear hO; intro ww hO))
          | ((with_reducible refine gI ?_); refine wpI_step rfl rfl (by kernel_rfl) ?_; intro K hK; have HK := Lib.hid hK; clear hK) | ((with_reducible refine gI ?_); first | refine wpI_skip rfl ?_ | refine wpI_want rfl ?_) | ((with_reducible refine gOnlyK HK.out ?_ ?_); exact hO; clear HK K; first | (refine wpI_act (by simp only [Act.put, List.setIfInBounds_toArray, List.set_cons_succ, List.set_cons_zero]; rfl) ?_) | skip) | (with_reducible refine wpI_nil ?_))
        replace hO : Own w0 _ (.blk rb (.cells (rC (.slice (some ⟨gP, 0, none⟩) n cP) (.slice aB m cB) used span C1) 91 (0,0)) :: .sl 5 1 (.slice aB m cB) m (u8s b) :: .sl 3 1 (.slice (some ⟨gP, 0, none⟩) n cP) n (i64s r.p) :: L) := hO
        refine wp_region_textS (fun w' => Own w0 w' [.blk rb (.cells (rC (.slice (some ⟨gP, 0, none⟩) n cP) (.slice aB m cB) used span C1) 91 (0,0)), .sl 5 1 (.slice aB m cB) m (u8s b)]) (fun op => match op with | .load _ (.tmp 97) => false | .load _ _ => true | _ => false) (by kernel_rfl) (by kernel_rfl) hO.drew.take2 ?_
        replace hO := hO.drew
        generalize World.drew _ = wd2 at hO ⊢
        go_wp2_with (first
          | (((with_reducible refine gIL ?_); first | refine wpI_ldcS (fun w' hS => hS.blk 0 rfl) rfl rfl (tA rfl) rfl ?_); first | (refine wpI_act (by simp only [Act.put, List.setIfInBounds_toArray, List.set_cons_succ, List.set_cons_zero]; rfl) ?_) | skip)
          | ((with_reducible refine gLoad (T := 3) ?_); refine ld_sl hO 2 rfl rfl HG.out (tA rfl) ?_)
          | (go_at_call 62; refine (HLN.out _).mono ?_; rintro e ww ⟨rfl, rfl⟩)
          | ((with_reducible refine gStore (T := 3) ?_); refine own_setElem hO 2 3 _ _ _ rfl rfl rfl (by omega) ii64s rfl ?_; clear hO; intro ww hO)
          | ((with_reducible refine gI ?_); refine wpI_step rfl rfl (by kernel_rfl) ?_; intro K hK; have HK := Lib.hid hK; clear hK) | ((with_reducible refine gI ?_); first | refine wpI_skip rfl ?_ | refine wpI_want rfl ?_) | ((with_reducible refine gOnlyK HK.out ?_ ?_); exact hO.take2; clear HK K; first | (refine wpI_act (by simp only [Act.put, List.setIfInBounds_toArray, List.set_cons_succ, List.set_cons_zero]; rfl) ?_) | skip) | (with_reducible refine wpI_nil ?_))
        replace hO : Own w0 _ (.blk rb (.cells (rC (.slice (some ⟨gP, 0, none⟩) n cP) (.slice aB m cB) used span C1) 91 (0,0)) :: .sl 5 1 (.slice aB m cB) m (u8s b) :: .sl 3 1 (.slice (some ⟨gP, 0, none⟩) n cP) n ((i64s r.p).set a (.int .i64 (learnI pv true))) :: L) := hO
        rw [HSET.out] at hO
        go_loopg [105] 1 (fun q c wr => q ≤ 1 ∧ c = .int .i64 0 ∧ Own w0 wr (.blk rb (.cells (rC (.slice (some ⟨gP, 0, none⟩) n cP) (.slice aB m cB) used span C1) 91 (0,0)) :: .sl 5 1 (.slice aB m cB) m (u8s b) :: .sl 3 1 (.slice (some ⟨gP, 0, none⟩) n cP) n (i64s u.p) :: L))
        case atStart => exact ⟨by omega, rfl, hO⟩
        case round =>
          obtain ⟨hq, rfl, hO1⟩ := hrel
          clear hO hq
          have hO := hO1
          clear hO1
          go_wp2_with (first
            | ((with_reducible refine gLoad ?_); first | refine ldX hO 0 rfl rfl (tA rfl) (tS rfl) ?_ | refine ldC hO 0 rfl rfl (tA rfl) rfl ?_)
            | ((with_reducible refine gStore ?_); first | (refine stX hO 0 rfl rfl rfl rfl rfl (tS rfl) ?_; clear hO; intro ww hO) | (refine stC hO 0 rfl rfl rfl (ltb rfl) rfl (tS rfl) ?_; clear hO; intro ww hO)))
          go_ret2
          exact ⟨by rw [HBIT.out]; rfl, by rw [HTT.out]; exact hO⟩
  · have hbt : decide (P ≤ code) = false := decide_eq_false hc
    rw [hbit, hbt] at hset
    rw [hbt] at hm1 hm2
    simp only [Bool.false_eq_true, if_true, if_false] at hm1 hm2
    have HBIT : Hid (r.set a = false) := by show _ = _; rw [HBIT0.out, hbt]
    have HSET := Lib.hid hset
    have HLN := Lib.hid (hln false)
    clear hbit hbt hset hln HSET0 HBIT0
    have dP2 : decide (P ≤ code) = false := decide_eq_false (by omega)
    have dP : decide ((P : Int) ≤ (code : Int)) = false := decide_eq_false (by omega)
    subst hm1
    subst hm2
    by_cases hz : Z < 16777216
    · obtain ⟨Y, hY⟩ : ∃ x, Z * 256 = x := ⟨_, rfl⟩
      have y1 : IntKind.u32.wrap ((Z : Int) * 256) = (Y : Int) := by simp [IntKind.wrap, IntKind.bits, IntKind.signed]; omega
      have hlt : used < m := hs2 hz
      have y4 : decide ((m : Int) - (used : Int) < 1) = false := decide_eq_false (by omega)
      have hltb : used < b.length := by rw [HB.out]; exact hlt
      obtain ⟨c, hcv⟩ : ∃ c, b.getD used 0 = c := ⟨_, rfl⟩
      have hx : b[used]? = some c := by rw [← hcv]; simp [hltb]
      obtain ⟨C2, hC2⟩ : ∃ x, C1 * 256 + c.toNat = x := ⟨_, rfl⟩
      have HTT : Hid (t = ⟨u.p, C2, Y, used + 1⟩) := by show _ = _; rw [← HTN.out]; unfold Go.Kc.Rr.norm; rw [if_pos (by rw [HZZ.out]; exact hz), HC1.out, HU3.out, hcv, hC2, HZZ.out, hY]
      have HC : Hid (b[used]? = some c) := hx
      have HU : Hid (used < m) := hlt
      have HCD : Hid (C1 < 16777216) := by show _ < _; omega
      have HC2 : Hid (C1 * 256 + c.toNat = C2) := hC2
      clear hltb hx hC2 hcv hlt
      have YB : Hid (Z * 256 = Y) := hY
      have Y2 : Hid (Z < 16777216) := hz
      have Y3 : Hid (16777216 ≤ Y) := by show _ ≤ _; omega
      clear hY hz hs2 q1 q2 q3 q4 q5 k3 k4 k5 k6 hc
      go_enter Try.func64, Try.ntmps64
      go_wp2_with (first
        | ((with_reducible refine gG ?_); refine wpList_want rfl ?_)
        | ((with_reducible refine gLoad ?_); first | refine ldX hO 0 rfl rfl (tA rfl) (tS rfl) ?_ | refine ldC hO 0 rfl rfl (tA rfl) rfl ?_))
      refine wp_region_textS (fun w' => Own w0 w' (.blk rb (.cells (rC (.slice (some ⟨gP, 0, none⟩) n cP) (.slice aB m cB) used span C1) 91 (0,0)) :: .sl 5 1 (.slice aB m cB) m (u8s b) :: .sl 3 1 (.slice (some ⟨gP, 0, none⟩) n cP) n (i64s r.p) :: L)) (fun op => match op with | .load _ _ => true | _ => false) (by kernel_rfl) (by kernel_rfl) hO.drew ?_
      replace hO := hO.drew
      generalize World.drew _ = wd at hO ⊢
      go_wp2_with (first
        | (((with_reducible refine gIL ?_); first | refine wpI_ldcS (fun w' hS => hS.blk 0 rfl) rfl rfl (tA rfl) rfl ?_); first | (refine wpI_act (by simp only [Act.put, List.setIfInBounds_toArray, List.set_cons_succ, List.set_cons_zero]; rfl) ?_) | skip)
        | ((with_reducible refine gIL ?_); refine wpI_ld1S (fun w' hS => (hS.slCell 2 rfl (by omega)).trans HG.out) rfl rfl (tA rfl) ?_; first | (refine wpI_act (by simp only [Act.put, List.setIfInBounds_toArray, List.set_cons_succ, List.set_cons_zero]; rfl) ?_) | skip)
        | (go_at_call 61; refine (HSP.out _).mono ?_; rintro e ww ⟨rfl, rfl⟩)
        | ((with_reducible refine gLoad ?_); first | refine ldX hO 0 rfl rfl (tA rfl) (tS rfl) ?_ | refine ldC hO 0 rfl rfl (tA rfl) rfl ?_)
        | ((with_reducible refine gStore ?_); first | (refine stX hO 0 rfl rfl rfl rfl rfl (tS rfl) ?_; clear hO; intro ww hO) | (refine stC hO 0 rfl rfl rfl (ltb rfl) rfl (tS rfl) ?_; clear hO; intro ww hO))
        | ((with_reducible refine gI ?_); refine wpI_step rfl rfl (by kernel_rfl) ?_; intro K hK; have HK := Lib.hid hK; clear hK) | ((with_reducible refine gI ?_); first | refine wpI_skip rfl ?_ | refine wpI_want rfl ?_) | ((with_reducible refine gOnlyK HK.out ?_ ?_); exact hO; clear HK K; first | (refine wpI_act (by simp only [Act.put, List.setIfInBounds_toArray, List.set_cons_succ, List.set_cons_zero]; rfl) ?_) | skip) | (with_reducible refine wpI_nil ?_))
      go_loopg [9, 10] 1 (fun q s9 s10 wr => Own w0 wr (.blk rb (.cells (rC (.slice (some ⟨gP, 0, none⟩) n cP) (.slice aB m cB) used span C1) 91 (0,0)) :: .sl 5 1 (.slice aB m cB) m (u8s b) :: .sl 3 1 (.slice (some ⟨gP, 0, none⟩) n cP) n (i64s r.p) :: L) ∧ ((q = 1 ∧ s9 = .int .i64 0 ∧ s10 = .int .u32 (Z : Int)) ∨ (q = 0 ∧ s9 = .int .i64 1 ∧ s10 = .int .u32 (Y : Int))))
      case atStart => exact ⟨hO, .inl ⟨rfl, rfl, rfl⟩⟩
      case round =>
        obtain ⟨hO1, hrel⟩ := hrel
        clear hO
        have hO := hO1
        clear hO1
        rcases hrel with ⟨rfl, rfl, rfl⟩ | ⟨rfl, rfl, rfl⟩
        · have y2 : decide ((Z : Int) < 16777216) = true := decide_eq_true (by have h := Y2.out; omega)
          go_wp2
          go_roundg 0
          case measure => omega
          case rel => exact ⟨hO, .inr ⟨rfl, rfl, rfl⟩⟩
        · have y3 : decide ((Y : Int) < 16777216) = false := decide_eq_false (by have h := Y3.out; omega)
          go_wp2
          clear y3
          refine wp_region_textS (fun w' => Own w0 w' (.blk rb (.cells (rC (.slice (some ⟨gP, 0, none⟩) n cP) (.slice aB m cB) used span C1) 91 (0,0)) :: .sl 5 1 (.slice aB m cB) m (u8s b) :: .sl 3 1 (.slice (some ⟨gP, 0, none⟩) n cP) n (i64s r.p) :: L)) (fun op => match op with | .load _ _ => true | _ => false) (by kernel_rfl) (by kernel_rfl) hO.drew ?_
          replace hO := hO.drew
          generalize World.drew _ = wd at hO ⊢
          go_wp2_with (first
            | (((with_reducible refine gIL ?_); first | refine wpI_ldcS (fun w' hS => hS.blk 0 rfl) rfl rfl (tA rfl) rfl ?_); first | (refine wpI_act (by simp only [Act.put, List.setIfInBounds_toArray, List.set_cons_succ, List.set_cons_zero]; rfl) ?_) | skip)
            | ((with_reducible refine gLoad ?_); first | refine ldX hO 0 rfl rfl (tA rfl) (tS rfl) ?_ | refine ldC hO 0 rfl rfl (tA rfl) rfl ?_)
            | ((with_reducible refine gStore ?_); first | (refine stX hO 0 rfl rfl rfl rfl rfl (tS rfl) ?_; clear hO; intro ww hO) | (refine stC hO 0 rfl rfl rfl (ltb rfl) rfl (tS rfl) ?_; clear hO; intro ww hO))
            | ((with_reducible refine gI ?_); refine wpI_step rfl rfl (by kernel_rfl) ?_; intro K hK; have HK := Lib.hid hK; clear hK) | ((with_reducible refine gI ?_); first | refine wpI_skip rfl ?_ | refine wpI_want rfl ?_) | ((with_reducible refine gOnlyK HK.out ?_ ?_); exact hO; clear HK K; first | (refine wpI_act (by simp only [Act.put, List.setIfInBounds_toArray, List.set_cons_succ, List.set_cons_zero]; rfl) ?_) | skip) | (with_reducible refine wpI_nil ?_))
          replace hO : Own w0 _ (.blk rb (.cells (rC (.slice (some ⟨gP, 0, none⟩) n cP) (.slice aB m cB) used span C1) 91 (0,0)) :: .sl 5 1 (.slice aB m cB) m (u8s b) :: .sl 3 1 (.slice (some ⟨gP, 0, none⟩) n cP) n (i64s r.p) :: L) := hO
          refine wp_region_textS (fun w' => Own w0 w' [.blk rb (.cells (rC (.slice (some ⟨gP, 0, none⟩) n cP) (.slice aB m cB) used span C1) 91 (0,0)), .sl 5 1 (.slice aB m cB) m (u8s b)]) (fun op => match op with | .load _ (.tmp 97) => false | .load _ _ => true | _ => false) (by kernel_rfl) (by kernel_rfl) hO.drew.take2 ?_
          replace hO := hO.drew
          generalize World.drew _ = wd2 at hO ⊢
          go_wp2_with (first
            | (((with_reducible refine gIL ?_); first | refine wpI_ldcS (fun w' hS => hS.blk 0 rfl) rfl rfl (tA rfl) rfl ?_); first | (refine wpI_act (by simp only [Act.put, List.setIfInBounds_toArray, List.set_cons_succ, List.set_cons_zero]; rfl) ?_) | skip)
            | ((with_reducible refine gLoad (T := 3) ?_); refine ld_sl hO 2 rfl rfl HG.out (tA rfl) ?_)
            | (go_at_call 62; refine (HLN.out _).mono ?_; rintro e ww ⟨rfl, rfl⟩)
            | ((with_reducible refine gStore (T := 3) ?_); refine own_setElem hO 2 3 _ _ _ rfl rfl rfl (by omega) ii64s rfl ?_; clear hO; intro ww hO)
            | ((with_reducible refine gI ?_); refine wpI_step rfl rfl (by kernel_rfl) ?_; intro K hK; have HK := Lib.hid hK; clear hK) | ((with_reducible refine gI ?_); first | refine wpI_skip rfl ?_ | refine wpI_want rfl ?_) | ((with_reducible refine gOnlyK HK.out ?_ ?_); exact hO.take2; clear HK K; first | (refine wpI_act (by simp only [Act.put, List.setIfInBounds_toArray, List.set_cons_succ, List.set_cons_zero]; rfl) ?_) | skip) | (with_reducible refine wpI_nil ?_))
          replace hO : Own w0 _ (.blk rb (.cells (rC (.slice (some ⟨gP, 0, none⟩) n cP) (.slice aB m cB) used span C1) 91 (0,0)) :: .sl 5 1 (.slice aB m cB) m (u8s b) :: .sl 3 1 (.slice (some ⟨gP, 0, none⟩) n cP) n ((i64s r.p).set a (.int .i64 (learnI pv false))) :: L) := hO
          rw [HSET.out] at hO
          go_loopg [105] 1 (fun q c wr => (q = 1 ∧ c = .int .i64 0 ∧ Own w0 wr (.blk rb (.cells (rC (.slice (some ⟨gP, 0, none⟩) n cP) (.slice aB m cB) used span C1) 91 (0,0)) :: .sl 5 1 (.slice aB m cB) m (u8s b) :: .sl 3 1 (.slice (some ⟨gP, 0, none⟩) n cP) n (i64s u.p) :: L)) ∨ (q = 0 ∧ c = .int .i64 1 ∧ Own w0 wr (.blk rb (.cells (rC (.slice (some ⟨gP, 0, none⟩) n cP) (.slice aB m cB) (used + 1) span C2) 91 (0,0)) :: .sl 5 1 (.slice aB m cB) m (u8s b) :: .sl 3 1 (.slice (some ⟨gP, 0, none⟩) n cP) n (i64s u.p) :: L)))
          case atStart => exact .inl ⟨rfl, rfl, hO⟩
          case round =>
            rcases hrel with ⟨rfl, rfl, hO1⟩ | ⟨rfl, rfl, hO1⟩
            · clear hO
              have hO := hO1
              clear hO1
              go_wp2_with (first
                | (go_at_call 51; refine (octet_calls b c HC.out HU.out HM.out HCD.out C2 HC2.out hO).mono ?_; rintro e ww ⟨rfl, hO2⟩; clear hO; have hO := hO2; clear hO2))
              go_roundg 0
              case measure => omega
              case rel => exact .inr ⟨rfl, rfl, hO⟩
            · clear hO
              have hO := hO1
              clear hO1
              go_wp2_with (first
                | ((with_reducible refine gLoad ?_); first | refine ldX hO 0 rfl rfl (tA rfl) (tS rfl) ?_ | refine ldC hO 0 rfl rfl (tA rfl) rfl ?_)
                | ((with_reducible refine gStore ?_); first | (refine stX hO 0 rfl rfl rfl rfl rfl (tS rfl) ?_; clear hO; intro ww hO) | (refine stC hO 0 rfl rfl rfl (ltb rfl) rfl (tS rfl) ?_; clear hO; intro ww hO)))
              go_ret2
              exact ⟨by rw [HBIT.out]; rfl, by rw [HTT.out]; exact hO⟩
    · have y4 : decide ((m : Int) - (used : Int) < 0) = false := decide_eq_false (by omega)
      have y5 : IntKind.u32.wrap (Z : Int) = (Z : Int) := by simp [IntKind.wrap, IntKind.bits, IntKind.signed]; omega
      have HTT : Hid (t = ⟨u.p, C1, Z, used⟩) := by show _ = _; rw [← HTN.out]; unfold Go.Kc.Rr.norm; rw [if_neg (by rw [HZZ.out]; exact hz), ← HC1.out, ← HZZ.out, ← HU3.out]
      have Y2 : Hid (¬ Z < 16777216) := hz
      clear hz hs2 q1 q2 q3 q4 q5 k3 k4 k5 k6 hc
      go_enter Try.func64, Try.ntmps64
      go_wp2_with (first
        | ((with_reducible refine gG ?_); refine wpList_want rfl ?_)
        | ((with_reducible refine gLoad ?_); first | refine ldX hO 0 rfl rfl (tA rfl) (tS rfl) ?_ | refine ldC hO 0 rfl rfl (tA rfl) rfl ?_))
      refine wp_region_textS (fun w' => Own w0 w' (.blk rb (.cells (rC (.slice (some ⟨gP, 0, none⟩) n cP) (.slice aB m cB) used span C1) 91 (0,0)) :: .sl 5 1 (.slice aB m cB) m (u8s b) :: .sl 3 1 (.slice (some ⟨gP, 0, none⟩) n cP) n (i64s r.p) :: L)) (fun op => match op with | .load _ _ => true | _ => false) (by kernel_rfl) (by kernel_rfl) hO.drew ?_
      replace hO := hO.drew
      generalize World.drew _ = wd at hO ⊢
      go_wp2_with (first
        | (((with_reducible refine gIL ?_); first | refine wpI_ldcS (fun w' hS => hS.blk 0 rfl) rfl rfl (tA rfl) rfl ?_); first | (refine wpI_act (by simp only [Act.put, List.setIfInBounds_toArray, List.set_cons_succ, List.set_cons_zero]; rfl) ?_) | skip)
        | ((with_reducible refine gIL ?_); refine wpI_ld1S (fun w' hS => (hS.slCell 2 rfl (by omega)).trans HG.out) rfl rfl (tA rfl) ?_; first | (refine wpI_act (by simp only [Act.put, List.setIfInBounds_toArray, List.set_cons_succ, List.set_cons_zero]; rfl) ?_) | skip)
        | (go_at_call 61; refine (HSP.out _).mono ?_; rintro e ww ⟨rfl, rfl⟩)
        | ((with_reducible refine gLoad ?_); first | refine ldX hO 0 rfl rfl (tA rfl) (tS rfl) ?_ | refine ldC hO 0 rfl rfl (tA rfl) rfl ?_)
        | ((with_reducible refine gStore ?_); first | (refine stX hO 0 rfl rfl rfl rfl rfl (tS rfl) ?_; clear hO; intro ww hO) | (refine stC hO 0 rfl rfl rfl (ltb rfl) rfl (tS rfl) ?_; clear hO; intro ww hO))
        | ((with_reducible refine gI ?_); refine wpI_step rfl rfl (by kernel_rfl) ?_; intro K hK; have HK := Lib.hid hK; clear hK) | ((with_reducible refine gI ?_); first | refine wpI_skip rfl ?_ | refine wpI_want rfl ?_) | ((with_reducible refine gOnlyK HK.out ?_ ?_); exact hO; clear HK K; first | (refine wpI_act (by simp only [Act.put, List.setIfInBounds_toArray, List.set_cons_succ, List.set_cons_zero]; rfl) ?_) | skip) | (with_reducible refine wpI_nil ?_))
      go_loopg [9, 10] 1 (fun q s9 s10 wr => q ≤ 1 ∧ s9 = .int .i64 0 ∧ s10 = .int .u32 (Z : Int) ∧ Own w0 wr (.blk rb (.cells (rC (.slice (some ⟨gP, 0, none⟩) n cP) (.slice aB m cB) used span C1) 91 (0,0)) :: .sl 5 1 (.slice aB m cB) m (u8s b) :: .sl 3 1 (.slice (some ⟨gP, 0, none⟩) n cP) n (i64s r.p) :: L))
      case atStart => exact ⟨by omega, rfl, rfl, hO⟩
      case round =>
        obtain ⟨hq, rfl, rfl, hO1⟩ := hrel
        clear hO hq
        have hO := hO1
        clear hO1
        have y2 : decide ((Z : Int) < 16777216) = false := decide_eq_false (by have h := Y2.out; omega)
        go_wp2
        clear y2
        refine wp_region_textS (fun w' => Own w0 w' (.blk rb (.cells (rC (.slice (some ⟨gP, 0, none⟩) n cP) (.slice aB m cB) used span C1) 91 (0,0)) :: .sl 5 1 (.slice aB m cB) m (u8s b) :: .sl 3 1 (.slice (some ⟨gP, 0, none⟩) n cP) n (i64s r.p) :: L)) (fun op => match op with | .load _ _ => true | _ => false) (by kernel_rfl) (by kernel_rfl) hO.drew ?_
        replace hO := hO.drew
        generalize World.drew _ = wd at hO ⊢
        go_wp2_with (first
          | (((with_reducible refine gIL ?_); first | refine wpI_ldcS (fun w' hS => hS.blk 0 rfl) rfl rfl (tA rfl) rfl ?_); first | (refine wpI_act (by simp only [Act.put, List.setIfInBounds_toArray, List.set_cons_succ, List.set_cons_zero]; rfl) ?_) | skip)
          | ((with_reducible refine gLoad ?_); first | refine ldX hO 0 rfl rfl (tA rfl) (tS rfl) ?_ | refine ldC hO 0 rfl rfl (tA rfl) rfl ?_)
          | ((with_reducible refine gStore ?_); first | (refine stX hO 0 rfl rfl rfl rfl rfl (tS rfl) ?_; clear hO; intro ww hO) | (refine stC hO 0 rfl rfl rfl (ltb rfl) rfl (tS rfl) ?_; clear hO; intro ww hO))
          | ((with_reducible refine gI ?_); refine wpI_step rfl rfl (by kernel_rfl) ?_; intro K hK; have HK := Lib.hid hK; clear hK) | ((with_reducible refine gI ?_); first | refine wpI_skip rfl ?_ | refine wpI_want rfl ?_) | ((with_reducible refine gOnlyK HK.out ?_ ?_); exact hO; clear HK K; first | (refine wpI_act (by simp only [Act.put, List.setIfInBounds_toArray, List.set_cons_succ, List.set_cons_zero]; rfl) ?_) | skip) | (with_reducible refine wpI_nil ?_))
        replace hO : Own w0 _ (.blk rb (.cells (rC (.slice (some ⟨gP, 0, none⟩) n cP) (.slice aB m cB) used span C1) 91 (0,0)) :: .sl 5 1 (.slice aB m cB) m (u8s b) :: .sl 3 1 (.slice (some ⟨gP, 0, none⟩) n cP) n (i64s r.p) :: L) := hO
        refine wp_region_textS (fun w' => Own w0 w' [.blk rb (.cells (rC (.slice (some ⟨gP, 0, none⟩) n cP) (.slice aB m cB) used span C1) 91 (0,0)), .sl 5 1 (.slice aB m cB) m (u8s b)]) (fun op => match op with | .load _ (.tmp 97) => false | .load _ _ => true | _ => false) (by kernel_rfl) (by kernel_rfl) hO.drew.take2 ?_
        replace hO := hO.drew
        generalize World.drew _ = wd2 at hO ⊢
        go_wp2_with (first
          | (((with_reducible refine gIL ?_); first | refine wpI_ldcS (fun w' hS => hS.blk 0 rfl) rfl rfl (tA rfl) rfl ?_); first | (refine wpI_act (by simp only [Act.put, List.setIfInBounds_toArray, List.set_cons_succ, List.set_cons_zero]; rfl) ?_) | skip)
          | ((with_reducible refine gLoad (T := 3) ?_); refine ld_sl hO 2 rfl rfl HG.out (tA rfl) ?_)
          | (go_at_call 62; refine (HLN.out _).mono ?_; rintro e ww ⟨rfl, rfl⟩)
          | ((with_reducible refine gStore (T := 3) ?_); refine own_setElem hO 2 3 _ _ _ rfl rfl rfl (by omega) ii64s rfl ?_; clear hO; intro ww hO)
          | ((with_reducible refine gI ?_); refine wpI_step rfl rfl (by kernel_rfl) ?_; intro K hK; have HK := Lib.hid hK; clear hK) | ((with_reducible refine gI ?_); first | refine wpI_skip rfl ?_ | refine wpI_want rfl ?_) | ((with_reducible refine gOnlyK HK.out ?_ ?_); exact hO.take2; clear HK K; first | (refine wpI_act (by simp only [Act.put, List.setIfInBounds_toArray, List.set_cons_succ, List.set_cons_zero]; rfl) ?_) | skip) | (with_reducible refine wpI_nil ?_))
        replace hO : Own w0 _ (.blk rb (.cells (rC (.slice (some ⟨gP, 0, none⟩) n cP) (.slice aB m cB) used span C1) 91 (0,0)) :: .sl 5 1 (.slice aB m cB) m (u8s b) :: .sl 3 1 (.slice (some ⟨gP, 0, none⟩) n cP) n ((i64s r.p).set a (.int .i64 (learnI pv false))) :: L) := hO
        rw [HSET.out] at hO
        go_loopg [105] 1 (fun q c wr => q ≤ 1 ∧ c = .int .i64 0 ∧ Own w0 wr (.blk rb (.cells (rC (.slice (some ⟨gP, 0, none⟩) n cP) (.slice aB m cB) used span C1) 91 (0,0)) :: .sl 5 1 (.slice aB m cB) m (u8s b) :: .sl 3 1 (.slice (some ⟨gP, 0, none⟩) n cP) n (i64s u.p) :: L))
        case atStart => exact ⟨by omega, rfl, hO⟩
        case round =>
          obtain ⟨hq, rfl, hO1⟩ := hrel
          clear hO hq
          have hO := hO1
          clear hO1
          go_wp2_with (first
            | ((with_reducible refine gLoad ?_); first | refine ldX hO 0 rfl rfl (tA rfl) (tS rfl) ?_ | refine ldC hO 0 rfl rfl (tA rfl) rfl ?_)
            | ((with_reducible refine gStore ?_); first | (refine stX hO 0 rfl rfl rfl rfl rfl (tS rfl) ?_; clear hO; intro ww hO) | (refine stC hO 0 rfl rfl rfl (ltb rfl) rfl (tS rfl) ?_; clear hO; intro ww hO)))
          go_ret2
          exact ⟨by rw [HBIT.out]; rfl, by rw [HTT.out]; exact hO⟩

set_option maxHeartbeats 8000000 in
set_option maxRecDepth 100000 in
theorem next_short {w0 w : World} {L : List Res} {rb : Nat} {aP : Option Addr} {n cP : Nat} {aB : Option Addr} {m cB : Nat} (r : Go.Kc.Rr) (b : List (BitVec 8)) (hr : Go.Kc.Rok n b r) (hb : b.length = m) (hm : m ≤ 10000000) (a : Nat) (ha : a < n) (hs : ¬ r.may b a)
    (hO : Own w0 w (.blk rb (.cells (rC (.slice aP n cP) (.slice aB m cB) r.used r.span r.code) 91 (0,0)) :: .sl 5 1 (.slice aB m cB) m (u8s b) :: .sl 3 1 (.slice aP n cP) n (i64s r.p) :: L)) :
    Calls Try.prog 64 #[.pointer (some ⟨rb, 0, none⟩), .int .i64 (a : Int)] w fun e w' => e = .returned (.tuple #[.bool false, .int .i64 2]) ∧ Own w0 w' (.blk rb (.cells (rC (.slice aP n cP) (.slice aB m cB) r.used r.span r.code) 91 (0,0)) :: .sl 5 1 (.slice aB m cB) m (u8s b) :: .sl 3 1 (.slice aP n cP) n (i64s r.p) :: L) := by
  obtain ⟨q1, q2⟩ := Go.Kc.rok_part hr ha
  obtain ⟨q3, q4, q5, q6, q7⟩ := Go.Kc.rok_mid hr ha
  obtain ⟨gP, rfl⟩ := hO.slPlace 2 rfl (by omega)
  obtain ⟨k1, k2, k3, k4, k5, k6⟩ := hr
  have hmv := Go.Kc.all_get k2 (by rw [k1]; exact ha)
  rw [kc_may] at hmv
  obtain ⟨pv, hpv⟩ : ∃ pv, r.p.getD a 0 = pv := ⟨_, rfl⟩
  obtain ⟨P, hP⟩ : ∃ P, r.part a = P := ⟨_, rfl⟩
  rw [hpv] at hmv
  rw [hP] at q1 q2
  have hg : (i64s r.p)[a]? = some (.int .i64 pv) := by
    rw [i64s_get r.p a (by omega), ← hpv, List.getD_eq_getElem?_getD, List.getElem?_eq_getElem (by omega)]; rfl
  have hset : (i64s r.p).set a (.int .i64 (learnI pv (r.set a))) = i64s (r.mid a).p := by
    unfold Go.Kc.Rr.mid i64s
    dsimp only
    rw [List.map_set, hpv]; rfl
  have hsp : ∀ w, Calls Try.prog 61 #[.int .u32 (r.span : Int), .int .i64 pv] w fun e w' => e = .returned (.tuple #[.int .u32 (P : Int), .int .i64 0]) ∧ w = w' := fun w => by
    have h := split_calls (r.span : Int) pv w (by omega) (by omega)
    have e : splitOk (r.span : Int) pv = true := by unfold splitOk; rw [hmv, decide_eq_true (by omega)]; rfl
    have e2 : splitI (r.span : Int) pv = (P : Int) := by
      have hp0 := ((mayB_iff pv).1 hmv).1
      rw [← hP]
      unfold splitI Go.Kc.Rr.part
      rw [hpv, Int.natCast_mul, Int.natCast_ediv, Int.toNat_of_nonneg (by omega)]; rfl
    rw [e, if_pos rfl, if_pos rfl, e2] at h
    exact h
  have hln : ∀ bt w, Calls Try.prog 62 #[.int .i64 pv, .bool bt] w fun e w' => e = .returned (.tuple #[.int .i64 (learnI pv bt), .int .i64 0]) ∧ w = w' := fun bt w => by
    have h := Learn_calls pv bt w
    rw [hmv, if_pos rfl, if_pos rfl] at h
    exact h
  have hbit : r.set a = decide (P ≤ r.code) := by rw [← hP]; rfl
  have hm1 : (r.mid a).code = if r.set a then r.code - P else r.code := by rw [← hP]; rfl
  have hm2 : (r.mid a).span = if r.set a then r.span - P else P := by rw [← hP]; rfl
  have hm3 : (r.mid a).used = r.used := rfl
  have HSP := Lib.hid hsp
  have HG := Lib.hid hg
  have hs2 : (r.mid a).span < 16777216 ∧ m ≤ r.used := by
    have h := hs
    rw [Go.Kc.may_iff, hb] at h
    exact Classical.not_not.1 h
  obtain ⟨u, hu⟩ : ∃ u, r.mid a = u := ⟨_, rfl⟩
  rw [hu] at hset hm1 hm2 hm3 hs2 q3 q4 q5
  obtain ⟨used, hus⟩ : ∃ x, r.used = x := ⟨_, rfl⟩
  obtain ⟨span, hsp2⟩ : ∃ x, r.span = x := ⟨_, rfl⟩
  obtain ⟨code, hco⟩ : ∃ x, r.code = x := ⟨_, rfl⟩
  obtain ⟨C1, hC1⟩ : ∃ x, u.code = x := ⟨_, rfl⟩
  obtain ⟨Z, hZ⟩ : ∃ x, u.span = x := ⟨_, rfl⟩
  rw [hus] at hs2 hm3 hO k6
  rw [hsp2] at HSP hm2 hO q2 k3 k4
  rw [hco] at hbit hm1 hO
  rw [hZ] at hm2 hs2 q3 q4 q5
  rw [hC1] at hm1 q3
  rw [hb] at k6
  have HUS := Lib.hid hus
  have HSS := Lib.hid hsp2
  have HCO := Lib.hid hco
  have HB := Lib.hid hb
  have HBIT0 := Lib.hid hbit
  have HM := Lib.hid hm
  have HSET0 := Lib.hid hset
  have HU3 := Lib.hid hm3
  have HC1 := Lib.hid hC1
  have HZZ := Lib.hid hZ
  rw [hbit] at hm1 hm2
  have i1 : IntKind.i64.wrap ((m : Int) - (used : Int)) = (m : Int) - (used : Int) := by rw [IntKind.wrap_i64]; omega
  have i2 : decide ((a : Int) < 0) = false := decide_eq_false (by omega)
  have i3 : decide ((n : Int) ≤ (a : Int)) = false := decide_eq_false (by omega)
  have i4 : decide (n ≤ a) = false := decide_eq_false (by omega)
  clear hb hm k1 k2 hs hmv hpv hP hg hsp hus hsp2 hco hC1 hZ hu q6 q7 hm3
  by_cases hc : P ≤ code
  · have hbt : decide (P ≤ code) = true := decide_eq_true hc
    rw [hbit, hbt] at hset
    rw [hbt] at hm1 hm2
    simp only [Bool.false_eq_true, if_true, if_false] at hm1 hm2
    have HBIT : Hid (r.set a = true) := by show _ = _; rw [HBIT0.out, hbt]
    have HSET := Lib.hid hset
    have HLN := Lib.hid (hln true)
    clear hbit hbt hset hln HSET0 HBIT0
    have dP2 : decide (P ≤ code) = true := decide_eq_true (by omega)
    have dP : decide ((P : Int) ≤ (code : Int)) = true := decide_eq_true (by omega)
    have a3 : IntKind.u32.wrap ((span : Int) - (P : Int)) = (Z : Int) := by simp [IntKind.wrap, IntKind.bits, IntKind.signed]; omega
    clear hm1 hm2
    obtain ⟨Y, hY⟩ : ∃ x, Z * 256 = x := ⟨_, rfl⟩
    have y1 : IntKind.u32.wrap ((Z : Int) * 256) = (Y : Int) := by simp [IntKind.wrap, IntKind.bits, IntKind.signed]; omega
    have y4 : decide ((m : Int) - (used : Int) < 1) = true := decide_eq_true (by omega)
    have YB : Hid (Z * 256 = Y) := hY
    have Y2 : Hid (Z < 16777216) := hs2.1
    have Y3 : Hid (16777216 ≤ Y) := by show _ ≤ _; omega
    clear hY hs2 q1 q2 q3 q4 q5 k3 k4 k5 k6 hc
    go_enter Try.func64, Try.ntmps64
    go_wp2_with (first
      | ((with_reducible refine gG ?_); refine wpList_want rfl ?_)
      | ((with_reducible refine gLoad ?_); first | refine ldX hO 0 rfl rfl (tA rfl) (tS rfl) ?_ | refine ldC hO 0 rfl rfl (tA rfl) rfl ?_))
    refine wp_region_textS (fun w' => Own w0 w' (.blk rb (.cells (rC (.slice (some ⟨gP, 0, none⟩) n cP) (.slice aB m cB) used span code) 91 (0,0)) :: .sl 5 1 (.slice aB m cB) m (u8s b) :: .sl 3 1 (.slice (some ⟨gP, 0, none⟩) n cP) n (i64s r.p) :: L)) (fun op => match op with | .load _ _ => true | _ => false) (by kernel_rfl) (by kernel_rfl) hO.drew ?_
    replace hO := hO.drew
    generalize World.drew _ = wd at hO ⊢
    go_wp2_with (first
      | (((with_reducible refine gIL ?_); first | refine wpI_ldcS (fun w' hS => hS.blk 0 rfl) rfl rfl (tA rfl) rfl ?_); first | (refine wpI_act (by simp only [Act.put, List.setIfInBounds_toArray, List.set_cons_succ, List.set_cons_zero]; rfl) ?_) | skip)
      | ((with_reducible refine gIL ?_); refine wpI_ld1S (fun w' hS => (hS.slCell 2 rfl (by omega)).trans HG.out) rfl rfl (tA rfl) ?_; first | (refine wpI_act (by simp only [Act.put, List.setIfInBounds_toArray, List.set_cons_succ, List.set_cons_zero]; rfl) ?_) | skip)
      | (go_at_call 61; refine (HSP.out _).mono ?_; rintro e ww ⟨rfl, rfl⟩)
      | ((with_reducible refine gLoad ?_); first | refine ldX hO 0 rfl rfl (tA rfl) (tS rfl) ?_ | refine ldC hO 0 rfl rfl (tA rfl) rfl ?_)
      | ((with_reducible refine gStore ?_); first | (refine stX hO 0 rfl rfl rfl rfl rfl (tS rfl) ?_; clear hO; intro ww hO) | (refine stC hO 0 rfl rfl rfl (ltb rfl) rfl (tS rfl) ?_; clear hO; intro ww hO))
      | ((with_reducible refine gI ?_); refine wpI_step rfl rfl (by kernel_rfl) ?_; intro K hK; have HK := Lib.hid hK; clear hK) | ((with_reducible refine gI ?_); first | refine wpI_skip rfl ?_ | refine wpI_want rfl ?_) | ((with_reducible refine gOnlyK HK.out ?_ ?_); exact hO; clear HK K; first | (refine wpI_act (by simp only [Act.put, List.setIfInBounds_toArray, List.set_cons_succ, List.set_cons_zero]; rfl) ?_) | skip) | (with_reducible refine wpI_nil ?_))
    go_loopg [9, 10] 1 (fun q s9 s10 wr => Own w0 wr (.blk rb (.cells (rC (.slice (some ⟨gP, 0, none⟩) n cP) (.slice aB m cB) used span code) 91 (0,0)) :: .sl 5 1 (.slice aB m cB) m (u8s b) :: .sl 3 1 (.slice (some ⟨gP, 0, none⟩) n cP) n (i64s r.p) :: L) ∧ ((q = 1 ∧ s9 = .int .i64 0 ∧ s10 = .int .u32 (Z : Int)) ∨ (q = 0 ∧ s9 = .int .i64 1 ∧ s10 = .int .u32 (Y : Int))))
    case atStart => exact ⟨hO, .inl ⟨rfl, rfl, rfl⟩⟩
    case round =>
      obtain ⟨hO1, hrel⟩ := hrel
      clear hO
      have hO := hO1
      clear hO1
      rcases hrel with ⟨rfl, rfl, rfl⟩ | ⟨rfl, rfl, rfl⟩
      · have y2 : decide ((Z : Int) < 16777216) = true := decide_eq_true (by have h := Y2.out; omega)
        go_wp2
        go_roundg 0
        case measure => omega
        case rel => exact ⟨hO, .inr ⟨rfl, rfl, rfl⟩⟩
      · have y3 : decide ((Y : Int) < 16777216) = false := decide_eq_false (by have h := Y3.out; omega)
        go_wp2
        clear y3
        refine wp_region_textS (fun w' => Own w0 w' (.blk rb (.cells (rC (.slice (some ⟨gP, 0, none⟩) n cP) (.slice aB m cB) used span code) 91 (0,0)) :: .sl 5 1 (.slice aB m cB) m (u8s b) :: .sl 3 1 (.slice (some ⟨gP, 0, none⟩) n cP) n (i64s r.p) :: L)) (fun op => match op with | .load _ _ => true | _ => false) (by kernel_rfl) (by kernel_rfl) hO.drew ?_
        replace hO := hO.drew
        generalize World.drew _ = wd at hO ⊢
        go_wp2_with (first
          | (((with_reducible refine gIL ?_); first | refine wpI_ldcS (fun w' hS => hS.blk 0 rfl) rfl rfl (tA rfl) rfl ?_); first | (refine wpI_act (by simp only [Act.put, List.setIfInBounds_toArray, List.set_cons_succ, List.set_cons_zero]; rfl) ?_) | skip)
          | ((with_reducible refine gLoad ?_); first | refine ldX hO 0 rfl rfl (tA rfl) (tS rfl) ?_ | refine ldC hO 0 rfl rfl (tA rfl) rfl ?_)
          | ((with_reducible refine gStore ?_); first | (refine stX hO 0 rfl rfl rfl rfl rfl (tS rfl) ?_; clear hO; intro ww hO) | (refine stC hO 0 rfl rfl rfl (ltb rfl) rfl (tS rfl) ?_; clear hO; intro ww hO))
          | ((with_reducible refine gI ?_); refine wpI_step rfl rfl (by kernel_rfl) ?_; intro K hK; have HK := Lib.hid hK; clear hK) | ((with_reducible refine gI ?_); first | refine wpI_skip rfl ?_ | refine wpI_want rfl ?_) | ((with_reducible refine gOnlyK HK.out ?_ ?_); exact hO; clear HK K; first | (refine wpI_act (by simp only [Act.put, List.setIfInBounds_toArray, List.set_cons_succ, List.set_cons_zero]; rfl) ?_) | skip) | (with_reducible refine wpI_nil ?_))
        go_ret2
        exact ⟨rfl, by rw [HUS.out, HSS.out, HCO.out]; exact hO⟩
  · have hbt : decide (P ≤ code) = false := decide_eq_false hc
    rw [hbit, hbt] at hset
    rw [hbt] at hm1 hm2
    simp only [Bool.false_eq_true, if_true, if_false] at hm1 hm2
    have HBIT : Hid (r.set a = false) := by show _ = _; rw [HBIT0.out, hbt]
    have HSET := Lib.hid hset
    have HLN := Lib.hid (hln false)
    clear hbit hbt hset hln HSET0 HBIT0
    have dP2 : decide (P ≤ code) = false := decide_eq_false (by omega)
    have dP : decide ((P : Int) ≤ (code : Int)) = false := decide_eq_false (by omega)
    subst hm1
    subst hm2
    obtain ⟨Y, hY⟩ : ∃ x, Z * 256 = x := ⟨_, rfl⟩
    have y1 : IntKind.u32.wrap ((Z : Int) * 256) = (Y : Int) := by simp [IntKind.wrap, IntKind.bits, IntKind.signed]; omega
    have y4 : decide ((m : Int) - (used : Int) < 1) = true := decide_eq_true (by omega)
    have YB : Hid (Z * 256 = Y) := hY
    have Y2 : Hid (Z < 16777216) := hs2.1
    have Y3 : Hid (16777216 ≤ Y) := by show _ ≤ _; omega
    clear hY hs2 q1 q2 q3 q4 q5 k3 k4 k5 k6 hc
    go_enter Try.func64, Try.ntmps64
    go_wp2_with (first
      | ((with_reducible refine gG ?_); refine wpList_want rfl ?_)
      | ((with_reducible refine gLoad ?_); first | refine ldX hO 0 rfl rfl (tA rfl) (tS rfl) ?_ | refine ldC hO 0 rfl rfl (tA rfl) rfl ?_))
    refine wp_region_textS (fun w' => Own w0 w' (.blk rb (.cells (rC (.slice (some ⟨gP, 0, none⟩) n cP) (.slice aB m cB) used span C1) 91 (0,0)) :: .sl 5 1 (.slice aB m cB) m (u8s b) :: .sl 3 1 (.slice (some ⟨gP, 0, none⟩) n cP) n (i64s r.p) :: L)) (fun op => match op with | .load _ _ => true | _ => false) (by kernel_rfl) (by kernel_rfl) hO.drew ?_
    replace hO := hO.drew
    generalize World.drew _ = wd at hO ⊢
    go_wp2_with (first
      | (((with_reducible refine gIL ?_); first | refine wpI_ldcS (fun w' hS => hS.blk 0 rfl) rfl rfl (tA rfl) rfl ?_); first | (refine wpI_act (by simp only [Act.put, List.setIfInBounds_toArray, List.set_cons_succ, List.set_cons_zero]; rfl) ?_) | skip)
      | ((with_reducible refine gIL ?_); refine wpI_ld1S (fun w' hS => (hS.slCell 2 rfl (by omega)).trans HG.out) rfl rfl (tA rfl) ?_; first | (refine wpI_act (by simp only [Act.put, List.setIfInBounds_toArray, List.set_cons_succ, List.set_cons_zero]; rfl) ?_) | skip)
      | (go_at_call 61; refine (HSP.out _).mono ?_; rintro e ww ⟨rfl, rfl⟩)
      | ((with_reducible refine gLoad ?_); first | refine ldX hO 0 rfl rfl (tA rfl) (tS rfl) ?_ | refine ldC hO 0 rfl rfl (tA rfl) rfl ?_)
      | ((with_reducible refine gStore ?_); first | (refine stX hO 0 rfl rfl rfl rfl rfl (tS rfl) ?_; clear hO; intro ww hO) | (refine stC hO 0 rfl rfl rfl (ltb rfl) rfl (tS rfl) ?_; clear hO; intro ww hO))
      | ((with_reducible refine gI ?_); refine wpI_step rfl rfl (by kernel_rfl) ?_; intro K hK; have HK := Lib.hid hK; clear hK) | ((with_reducible refine gI ?_); first | refine wpI_skip rfl ?_ | refine wpI_want rfl ?_) | ((with_reducible refine gOnlyK HK.out ?_ ?_); exact hO; clear HK K; first | (refine wpI_act (by simp only [Act.put, List.setIfInBounds_toArray, List.set_cons_succ, List.set_cons_zero]; rfl) ?_) | skip) | (with_reducible refine wpI_nil ?_))
    go_loopg [9, 10] 1 (fun q s9 s10 wr => Own w0 wr (.blk rb (.cells (rC (.slice (some ⟨gP, 0, none⟩) n cP) (.slice aB m cB) used span C1) 91 (0,0)) :: .sl 5 1 (.slice aB m cB) m (u8s b) :: .sl 3 1 (.slice (some ⟨gP, 0, none⟩) n cP) n (i64s r.p) :: L) ∧ ((q = 1 ∧ s9 = .int .i64 0 ∧ s10 = .int .u32 (Z : Int)) ∨ (q = 0 ∧ s9 = .int .i64 1 ∧ s10 = .int .u32 (Y : Int))))
    case atStart => exact ⟨hO, .inl ⟨rfl, rfl, rfl⟩⟩
    case round =>
      obtain ⟨hO1, hrel⟩ := hrel
      clear hO
      have hO := hO1
      clear hO1
      rcases hrel with ⟨rfl, rfl, rfl⟩ | ⟨rfl, rfl, rfl⟩
      · have y2 : decide ((Z : Int) < 16777216) = true := decide_eq_true (by have h := Y2.out; omega)
        go_wp2
        go_roundg 0
        case measure => omega
        case rel => exact ⟨hO, .inr ⟨rfl, rfl, rfl⟩⟩
      · have y3 : decide ((Y : Int) < 16777216) = false := decide_eq_false (by have h := Y3.out; omega)
        go_wp2
        clear y3
        refine wp_region_textS (fun w' => Own w0 w' (.blk rb (.cells (rC (.slice (some ⟨gP, 0, none⟩) n cP) (.slice aB m cB) used span C1) 91 (0,0)) :: .sl 5 1 (.slice aB m cB) m (u8s b) :: .sl 3 1 (.slice (some ⟨gP, 0, none⟩) n cP) n (i64s r.p) :: L)) (fun op => match op with | .load _ _ => true | _ => false) (by kernel_rfl) (by kernel_rfl) hO.drew ?_
        replace hO := hO.drew
        generalize World.drew _ = wd at hO ⊢
        go_wp2_with (first
          | (((with_reducible refine gIL ?_); first | refine wpI_ldcS (fun w' hS => hS.blk 0 rfl) rfl rfl (tA rfl) rfl ?_); first | (refine wpI_act (by simp only [Act.put, List.setIfInBounds_toArray, List.set_cons_succ, List.set_cons_zero]; rfl) ?_) | skip)
          | ((with_reducible refine gLoad ?_); first | refine ldX hO 0 rfl rfl (tA rfl) (tS rfl) ?_ | refine ldC hO 0 rfl rfl (tA rfl) rfl ?_)
          | ((with_reducible refine gStore ?_); first | (refine stX hO 0 rfl rfl rfl rfl rfl (tS rfl) ?_; clear hO; intro ww hO) | (refine stC hO 0 rfl rfl rfl (ltb rfl) rfl (tS rfl) ?_; clear hO; intro ww hO))
          | ((with_reducible refine gI ?_); refine wpI_step rfl rfl (by kernel_rfl) ?_; intro K hK; have HK := Lib.hid hK; clear hK) | ((with_reducible refine gI ?_); first | refine wpI_skip rfl ?_ | refine wpI_want rfl ?_) | ((with_reducible refine gOnlyK HK.out ?_ ?_); exact hO; clear HK K; first | (refine wpI_act (by simp only [Act.put, List.setIfInBounds_toArray, List.set_cons_succ, List.set_cons_zero]; rfl) ?_) | skip) | (with_reducible refine wpI_nil ?_))
        go_ret2
        exact ⟨rfl, by rw [HUS.out, HSS.out, HCO.out]; exact hO⟩

end Go.Proofs.Ytnkpjmcgecdkfaa

/- Walk: NewReader. -/
namespace Go.Own
open Go.RowKit
/-- what a callee has made, ahead of what was there -/
theorem Own.join {w0 w w' : World} {L K : List Res} (h : Own w0 w L) (g : Own w w' K) : Own w0 w' (K ++ L) :=
  ⟨(h.call g.below).below, fun r hr => (List.mem_append.1 hr).elim (fun hk => (g.mem r hk).mono h.below.size) ((h.call g.below).mem r), List.pairwise_append.2 ⟨g.apart, h.apart, fun r hr s hs k hk hs' => by
    have h1 := ((g.mem r hr).foot hk).1
    have h2 := ((h.mem s hs).foot hs').2
    omega⟩⟩
end Go.Own
namespace Go.Kc
theorem be4 {b : List (BitVec 8)} (j : Nat) (hj : 1 + j < b.length) : val ((b.drop 1).take (j + 1)) = val ((b.drop 1).take j) * 256 + (b.getD (1 + j) 0).toNat := by
  have hl : j < (b.drop 1).length := by simp; omega
  rw [List.take_succ_eq_append_getElem hl, val_snoc, Nat.mul_comm]
  congr 2
  have e : b.getD (1 + j) 0 = b[1 + j] := by simp [hj]
  rw [e, List.getElem_drop]
theorem lt4 (b : List (BitVec 8)) (j : Nat) (hj : j ≤ 3) : val ((b.drop 1).take j) < 16777216 := by
  refine Nat.lt_of_lt_of_le (val_lt _) ?_
  refine Nat.le_trans (Nat.pow_le_pow_right (by decide) (show _ ≤ 3 by rw [List.length_take]; omega)) (by decide)
end Go.Kc
namespace Go.Proofs.Ytnkpjmcgecdkfaa
open Go.RowKit Go.Own Go.Bv Go.Ord Go.Eq Go.Opn Go.Pb

set_option maxHeartbeats 2000000 in
set_option maxRecDepth 100000 in
theorem cloneb_calls (a : Option Addr) (n c : Nat) (bs : List (BitVec 8)) (w : World) (hR : Rd w 1 a n c (u8s bs)) (hn : n ≤ 10000000) :
    Calls Try.prog 50 #[.slice a n c] w fun e w' => ∃ a' c', e = .returned (.slice a' n c') ∧ Below w.heap.size w w' ∧ w'.ownsRow w.heap.size 5 1 (.slice a' n c') n (u8s bs) := by
  have hO := Own.start w
  cases a with
  | none =>
    obtain ⟨rfl, rfl⟩ := hR.nil rfl
    have hb : u8s bs = [] := List.eq_nil_of_length_eq_zero (by rw [hR.len])
    rw [hb]
    have hnil : ∀ W, (binOp .eql 34 (.slice none 0 0) (.slice none 0 0)).run Try.prog W = .ok (.bool true) W := fun W => Go.run_eql_slice_nil W _ _ none 0 0 Try.underlying34
    clear hR hb
    generalize hW : w = wn at hO ⊢
    clear hW w
    go_enter Try.func50, Try.ntmps50
    go_wp2
    go_ret
    exact ⟨_, _, rfl, hO.below, World.ownsRow_nil _ _ _ _⟩
  | some ad =>
    have HR := Lib.hid hR
    have hnil : ∀ W, (binOp .eql 34 (.slice (some ad) n c) (.slice none 0 0)).run Try.prog W = .ok (.bool false) W := fun W => Go.run_eql_slice_nil W _ _ (some ad) n c Try.underlying34
    clear hR
    generalize hW : w = wn at hO HR ⊢
    clear hW w
    go_enter Try.func50, Try.ntmps50
    go_wp2_with (first
      | ((with_reducible refine gBuild ?_); refine own_build0 hO 34 eu8 ?_; clear hO; intro g ww hO)
      | ((with_reducible refine gAppend ?_); refine own_append hO 0 _ _ 34 eu8 rfl rfl rfl (hO.rd HR.out) (u8s_one _) n (by omega) (by simp [maxLen]; omega) (by omega) ?_; clear hO; intro a2 c2 ww hO))
    go_ret
    exact ⟨_, _, rfl, hO.below, hO.row 0 rfl⟩

/-- what NewReader hands back of a text that may be one -/
def newPost (w w' : World) (e : Ending) (n m V : Nat) (b : List (BitVec 8)) : Prop :=
      if V = 4294967295 then e = .returned (.tuple #[.pointer none, .int .i64 2]) ∧ Below w.heap.size w w' else
      ∃ rb aP cP aB cB, e = .returned (.tuple #[.pointer (some ⟨rb, 0, none⟩), .int .i64 0]) ∧
      Own w w' [.blk rb (.cells (rC (.slice aP n cP) (.slice aB m cB) 5 4294967295 V) 91 (0,0)), .sl 5 1 (.slice aB m cB) m (u8s b), .sl 3 1 (.slice aP n cP) n (i64s (List.replicate n 1024))]

set_option maxHeartbeats 4000000 in
set_option maxRecDepth 100000 in
theorem newR_ok (n : Nat) (hn : n ≤ 1024) (a : Option Addr) (m cap : Nat) (b : List (BitVec 8)) (w : World) (hR : Rd w 1 a m cap (u8s b)) (hm : m ≤ 10000000) (hb : b.length = m) (h5 : 5 ≤ m) (h0 : b.getD 0 0 = 0#8) (V : Nat) (hV : Go.Kc.val ((b.drop 1).take 4) = V) :
    Calls Try.prog 29 #[.int .i64 (n : Int), .slice a m cap] w fun e w' =>
      newPost w w' e n m V b := by
  have hO := Own.start w
  have hnT : newT (n : Int) = List.replicate n 1024 := by unfold newT; rw [if_pos (by omega), Int.toNat_natCast]
  have hnE : newE (n : Int) = 0 := by unfold newE; rw [if_pos (by omega)]
  have HNEW := Lib.hid (fun w => new_calls (n : Int) w n (List.replicate n 1024) 0 (by rw [hnT, List.length_replicate]) hnT hnE)
  have HCL := Lib.hid (fun w h => cloneb_calls a m cap b w h hm)
  have HB := Lib.hid hb
  have hg0 : (u8s b)[0]? = some (.int .u8 0) := by
    have h : 0 < b.length := by omega
    rw [u8s_get b 0 h]
    have h0' : b[0] = 0#8 := by rw [← h0]; simp [h]
    rw [h0']; rfl
  have HG0 := Lib.hid hg0
  have HM := Lib.hid hm
  have HR := Lib.hid hR
  have HV := Lib.hid hV
  obtain ⟨ba, off, rfl⟩ := hR.place (by omega)
  have d1 : decide ((m : Int) < 5) = false := decide_eq_false (by omega)
  have hm5 : 0 < m := by omega
  have H5 := Lib.hid h5
  clear hR hb h0 hg0 hnT hnE hm hV h5
  generalize hWW : w = wn at hO HR ⊢
  clear hWW w
  go_enter Try.func29, Try.ntmps29
  go_wp2_with (first
    | ((with_reducible refine gG ?_); refine wpList_want rfl ?_)
    | (go_at_call 38; refine (HNEW.out _).mono ?_; rintro e ww ⟨a1, c1, rfl, hb, hr⟩; replace hO := hO.addRow hb hr; clear hb hr)
    | ((with_reducible refine gLoad (T := 5) ?_); refine ld_rd (hO.rd HR.out) rfl HG0.out (tA rfl) ?_)
    | (go_at_call 50; refine (HCL.out _ (hO.rd HR.out)).mono ?_; rintro e ww ⟨a2, c2, rfl, hb, hr⟩; replace hO := hO.addRow hb hr; clear hb hr)
    | ((with_reducible refine gBld (T := 91) ?_); refine own_bld (rC (.slice a1 n c1) (.slice a2 m c2) 1 4294967295 0) (by kernel_rfl) ?_)
    | ((with_reducible refine gBox ?_); first | (refine bxA hO rfl ?_; clear hO; intro rb ww hO) | (refine bx1 hO rfl rfl ?_; clear hO; intro rb ww hO)))
  go_loopg [] 4 (fun q wr => ∃ (j us code : Nat), q = 4 - j ∧ j ≤ 4 ∧ Hid (us = 1 + j) ∧ Hid (Go.Kc.val ((b.drop 1).take j) = code) ∧
    Own wn wr [.blk rb (.cells (rC (.slice a1 n c1) (.slice a2 m c2) us 4294967295 code) 91 (0,0)), .sl 5 1 (.slice a2 m c2) m (u8s b), .sl 3 1 (.slice a1 n c1) n (i64s (List.replicate n 1024))])
  case atStart => exact ⟨0, 1, 0, rfl, by omega, rfl, rfl, hO⟩
  case round =>
    obtain ⟨j, us, code, rfl, hj, HU, HC, hO1⟩ := hrel
    clear hO
    have hO := hO1
    clear hO1
    by_cases hj4 : j < 4
    · have d2 : decide ((us : Int) < 5) = true := decide_eq_true (by have := HU.out; omega)
      have hlt : us < b.length := by have h1 := HU.out; have h2 := HB.out; have h3 := H5.out; omega
      have hx : b[us]? = some (b.getD us 0) := by simp [hlt]
      obtain ⟨C, hC⟩ : ∃ C, code * 256 + (b.getD us 0).toNat = C := ⟨_, rfl⟩
      have HN : Hid (Go.Kc.val ((b.drop 1).take (j + 1)) = C) := by
        show _ = _
        rw [Go.Kc.be4 j (by rw [← HU.out]; exact hlt), HC.out, ← HU.out, hC]
      have hcl : code < 16777216 := by rw [← HC.out]; exact Go.Kc.lt4 b j (by omega)
      have HX := Lib.hid hx
      have HCC := Lib.hid hC
      have HCL2 := Lib.hid hcl
      have HLT : Hid (us < m) := by show us < m; rw [← HB.out]; exact hlt
      clear hx hC hcl hlt
      go_wp2_with (first
        | ((with_reducible refine gLoad ?_); first | refine ldX hO 0 rfl rfl (tA rfl) (tS rfl) ?_ | refine ldC hO 0 rfl rfl (tA rfl) rfl ?_)
        | (go_at_call 51; refine (octet_calls b _ HX.out HLT.out HM.out HCL2.out C HCC.out hO).mono ?_; rintro e ww ⟨rfl, hO2⟩; clear hO; have hO := hO2; clear hO2))
      go_roundg (4 - (j + 1))
      case measure => omega
      case rel => exact ⟨j + 1, us + 1, C, rfl, by omega, (by have h := HU.out; show us + 1 = 1 + (j + 1); omega), HN, hO⟩
    · obtain rfl : j = 4 := by omega
      obtain rfl : us = 5 := HU.out
      obtain rfl : code = V := by rw [← HC.out, HV.out]
      clear HC HV HU
      by_cases hv : code = 4294967295
      · subst hv
        go_wp2_with (first
          | ((with_reducible refine gLoad ?_); first | refine ldX hO 0 rfl rfl (tA rfl) (tS rfl) ?_ | refine ldC hO 0 rfl rfl (tA rfl) rfl ?_))
        go_ret2
        unfold newPost
        rw [if_pos rfl]
        exact ⟨rfl, hO.below⟩
      · have d3 : ((code : Int) == 4294967295) = false := by simp; omega
        have HNV : Hid (¬ code = 4294967295) := hv
        clear hv
        go_wp2_with (first
          | ((with_reducible refine gLoad ?_); first | refine ldX hO 0 rfl rfl (tA rfl) (tS rfl) ?_ | refine ldC hO 0 rfl rfl (tA rfl) rfl ?_))
        go_ret2
        unfold newPost
        rw [if_neg HNV.out]
        exact ⟨rb, a1, c1, a2, c2, rfl, hO⟩
end Go.Proofs.Ytnkpjmcgecdkfaa

/- Walk: NewReader, whatever it is given; Next of what may not be; Used. -/
namespace Go.Proofs.Ytnkpjmcgecdkfaa
open Go.RowKit Go.Own Go.Bv Go.Ord Go.Eq Go.Opn Go.Pb

set_option maxHeartbeats 4000000 in
set_option maxRecDepth 100000 in
theorem newR_bad (x : Int) (a : Option Addr) (m cap : Nat) (b : List (BitVec 8)) (w : World) (hR : Rd w 1 a m cap (u8s b)) (hm : m ≤ 10000000) (E : Int) (hE : Go.Kc.opE x b = E) (h0 : E ≠ 0) :
    Calls Try.prog 29 #[.int .i64 x, .slice a m cap] w fun e w' => e = .returned (.tuple #[.pointer none, .int .i64 E]) ∧ Below w.heap.size w w' := by
  have hb : b.length = m := by have := hR.len; rw [u8s_length] at this; omega
  have hO := Own.start w
  by_cases hx : 0 ≤ x ∧ x ≤ 1024
  · obtain ⟨n, rfl⟩ : ∃ n : Nat, x = (n : Int) := ⟨x.toNat, by omega⟩
    have hnT : newT (n : Int) = List.replicate n 1024 := by unfold newT; rw [if_pos (by omega), Int.toNat_natCast]
    have hnE : newE (n : Int) = 0 := by unfold newE; rw [if_pos (by omega)]
    have HNEW := Lib.hid (fun w => new_calls (n : Int) w n (List.replicate n 1024) 0 (by rw [hnT, List.length_replicate]) hnT hnE)
    have hmo : ¬ Go.Kc.mayOpen b := by
      intro h
      unfold Go.Kc.opE at hE
      rw [if_pos hx, if_pos h] at hE
      exact h0 hE.symm
    have e1 : E = 2 := by rw [← hE]; unfold Go.Kc.opE; rw [if_pos hx, if_neg hmo]
    subst e1
    by_cases h5 : m < 5
    · have d1 : decide ((m : Int) < 5) = true := decide_eq_true (by omega)
      clear hE hnT hnE hR hx hb hmo h0
      generalize hWW : w = wn at hO ⊢
      clear hWW w
      go_enter Try.func29, Try.ntmps29
      go_wp2_with (first
        | ((with_reducible refine gG ?_); refine wpList_want rfl ?_)
        | (go_at_call 38; refine (HNEW.out _).mono ?_; rintro e ww ⟨a1, c1, rfl, hb, hr⟩; replace hO := hO.addRow hb hr; clear hb hr))
      go_ret2
      exact ⟨rfl, hO.below⟩
    · by_cases hz : b.getD 0 0 = 0#8
      · have hV : Go.Kc.val ((b.drop 1).take 4) = 4294967295 := by
          apply Classical.byContradiction
          intro hne
          exact hmo ⟨by omega, hz, hne⟩
        refine (newR_ok n (by omega) a m cap b w hR hm hb (by omega) hz _ rfl).mono ?_
        rintro e w' h
        unfold newPost at h
        rw [if_pos hV] at h
        exact h
      · have d1 : decide ((m : Int) < 5) = false := decide_eq_false (by omega)
        have h0b : 0 < b.length := by omega
        have hg0 : (u8s b)[0]? = some (.int .u8 ((b.getD 0 0).toNat : Int)) := by
          rw [u8s_get b 0 h0b]; simp [h0b]
        have hzz : ((b.getD 0 0).toNat : Int) ≠ 0 := by
          intro h; exact hz (BitVec.eq_of_toNat_eq (by simpa using h))
        generalize b.getD 0 0 = c0 at hg0 hzz
        have dz : ((c0.toNat : Int) == 0) = false := by simpa using hzz
        have HG0 := Lib.hid hg0
        have HR := Lib.hid hR
        obtain ⟨ba, off, rfl⟩ := hR.place (by omega)
        have hm5 : 0 < m := by omega
        clear hE hnT hnE hR hx hb hmo h0 hz h0b hg0 hzz
        generalize hWW : w = wn at hO HR ⊢
        clear hWW w
        go_enter Try.func29, Try.ntmps29
        go_wp2_with (first
          | ((with_reducible refine gG ?_); refine wpList_want rfl ?_)
          | (go_at_call 38; refine (HNEW.out _).mono ?_; rintro e ww ⟨a1, c1, rfl, hb, hr⟩; replace hO := hO.addRow hb hr; clear hb hr)
          | ((with_reducible refine gLoad (T := 5) ?_); refine ld_rd (hO.rd HR.out) rfl HG0.out (tA rfl) ?_))
        go_ret2
        exact ⟨rfl, hO.below⟩
  · have e1 : E = 1 := by rw [← hE]; unfold Go.Kc.opE; rw [if_neg hx]
    subst e1
    have hnT : newT x = [] := by unfold newT; rw [if_neg hx]
    have hnE : newE x = 1 := by unfold newE; rw [if_neg hx]
    have HNEW := Lib.hid (fun w => new_calls x w 0 [] 1 (by rw [hnT]; rfl) hnT hnE)
    clear hE hnT hnE hR hx hb h0
    generalize hWW : w = wn at hO ⊢
    clear hWW w
    go_enter Try.func29, Try.ntmps29
    go_wp2_with (first
      | ((with_reducible refine gG ?_); refine wpList_want rfl ?_)
      | (go_at_call 38; refine (HNEW.out _).mono ?_; rintro e ww ⟨a1, c1, rfl, hb, hr⟩; replace hO := hO.addRow hb hr; clear hb hr))
    go_ret2
    exact ⟨rfl, hO.below⟩

set_option maxHeartbeats 1000000 in
theorem next_nil (x : Int) (w : World) :
    Calls Try.prog 64 #[.pointer none, .int .i64 x] w fun e w' => e = .returned (.tuple #[.bool false, .int .i64 1]) ∧ w = w' := by
  go_enter Try.func64, Try.ntmps64
  go_wp2_with (first
    | ((with_reducible refine gG ?_); refine wpList_want rfl ?_))
  go_ret2
  exact ⟨rfl, rfl⟩

set_option maxHeartbeats 2000000 in
set_option maxRecDepth 100000 in
theorem next_bad {w0 w : World} {L : List Res} {rb : Nat} {aP : Option Addr} {n cP : Nat} {bS : Value} {used span code : Nat} (x : Int) (hx : x < 0 ∨ (n : Int) ≤ x)
    (aB : Option Addr) (m cB : Nat) (hB : bS = .slice aB m cB)
    (hO : Own w0 w (.blk rb (.cells (rC (.slice aP n cP) bS used span code) 91 (0,0)) :: L)) :
    Calls Try.prog 64 #[.pointer (some ⟨rb, 0, none⟩), .int .i64 x] w fun e w' => e = .returned (.tuple #[.bool false, .int .i64 4]) ∧ Own w0 w' (.blk rb (.cells (rC (.slice aP n cP) bS used span code) 91 (0,0)) :: L) := by
  subst hB
  by_cases h1 : x < 0
  · have i1 : decide (x < 0) = true := decide_eq_true h1
    clear hx h1
    go_enter Try.func64, Try.ntmps64
    go_wp2_with (first
      | ((with_reducible refine gG ?_); refine wpList_want rfl ?_)
      | ((with_reducible refine gLoad ?_); first | refine ldX hO 0 rfl rfl (tA rfl) (tS rfl) ?_ | refine ldC hO 0 rfl rfl (tA rfl) rfl ?_))
    go_ret2
    exact ⟨rfl, hO⟩
  · have i1 : decide (x < 0) = false := decide_eq_false h1
    have i2 : decide ((n : Int) ≤ x) = true := decide_eq_true (by omega)
    clear hx h1
    go_enter Try.func64, Try.ntmps64
    go_wp2_with (first
      | ((with_reducible refine gG ?_); refine wpList_want rfl ?_)
      | ((with_reducible refine gLoad ?_); first | refine ldX hO 0 rfl rfl (tA rfl) (tS rfl) ?_ | refine ldC hO 0 rfl rfl (tA rfl) rfl ?_))
    go_ret2
    exact ⟨rfl, hO⟩

set_option maxHeartbeats 1000000 in
theorem used_nil (w : World) :
    Calls Try.prog 31 #[.pointer none] w fun e w' => e = .returned (.int .i64 0) ∧ w = w' := by
  go_enter Try.func31, Try.ntmps31
  go_wp2
  go_ret
  exact ⟨rfl, rfl⟩
set_option maxHeartbeats 1000000 in
theorem used_calls {w0 w : World} {L : List Res} {rb : Nat} {pS bS : Value} {used span code : Nat}
    (hO : Own w0 w (.blk rb (.cells (rC pS bS used span code) 91 (0,0)) :: L)) :
    Calls Try.prog 31 #[.pointer (some ⟨rb, 0, none⟩)] w fun e w' => e = .returned (.int .i64 (used : Int)) ∧ w = w' := by
  go_enter Try.func31, Try.ntmps31
  go_wp2_with (first
    | ((with_reducible refine gLoad ?_); first | refine ldX hO 0 rfl rfl (tA rfl) (tS rfl) ?_ | refine ldC hO 0 rfl rfl (tA rfl) rfl ?_))
  go_ret
  exact ⟨rfl, rfl⟩
end Go.Proofs.Ytnkpjmcgecdkfaa

/- Walks: the unpacker's bit, number, token; Unpack. -/
namespace Go.Proofs.Ytnkpjmcgecdkfaa
open Go.RowKit Go.Own Go.Bv Go.Ord Go.Eq Go.Opn Go.Pb Go.Mt

def uC (rb : Nat) (bad : Bool) : Array Value := #[.pointer (some ⟨rb, 0, none⟩), .int .i64 (if bad then 2 else 0)]
/-- what an unpacker stands on -/
def uL (rb ub : Nat) (aB : Option Addr) (m cB : Nat) (aP : Option Addr) (cP : Nat) (b : List (BitVec 8)) (s : Go.Pz.Us) (L : List Res) : List Res :=
  .blk rb (.cells (rC (.slice aP 528 cP) (.slice aB m cB) s.r.used s.r.span s.r.code) 91 (0,0)) :: .sl 5 1 (.slice aB m cB) m (u8s b) :: .sl 3 1 (.slice aP 528 cP) 528 (i64s s.r.p) :: .blk ub (.cells (uC rb s.bad) 56 (0,0)) :: L

set_option maxHeartbeats 4000000 in
set_option maxRecDepth 100000 in
theorem ubit_calls {w0 w : World} {L : List Res} {rb ub : Nat} {aB : Option Addr} {m cB : Nat} {aP : Option Addr} {cP : Nat} (b : List (BitVec 8)) (s : Go.Pz.Us) (hr : Go.Kc.Rok 528 b s.r) (hb : b.length = m) (hm : m ≤ 10000000) (a : Nat) (ha : a < 528) (x : Nat) (t : Go.Pz.Us) (hx : (Go.Pz.ub b s a).1.toNat = x) (ht : (Go.Pz.ub b s a).2 = t)
    (hO : Own w0 w (uL rb ub aB m cB aP cP b s L)) :
    Calls Try.prog 52 #[.pointer (some ⟨ub, 0, none⟩), .int .i64 (a : Int)] w fun e w' => e = .returned (.int .i64 (x : Int)) ∧ Own w0 w' (uL rb ub aB m cB aP cP b t L) := by
  obtain ⟨r, bad⟩ := s
  cases bad
  · have hux : Go.Pz.ub b ⟨r, false⟩ a = if Go.Kc.nxtE 528 b r (a : Int) = 0 then (r.set a, ⟨r.next b a, false⟩) else (false, ⟨r, true⟩) := rfl
    by_cases hn : Go.Kc.nxtE 528 b r (a : Int) = 0
    · rw [if_pos hn] at hux
      rw [hux] at hx ht
      dsimp only at hx ht hr
      subst ht
      obtain ⟨k, e, hk, hmay⟩ := Go.Kc.nxtE_ok hn
      obtain rfl : a = k := by omega
      obtain ⟨u, hu⟩ : ∃ u, r.next b a = u := ⟨_, rfl⟩
      obtain ⟨sb, hsb⟩ : ∃ u, r.set a = u := ⟨_, rfl⟩
      rw [hsb] at hx
      rw [hu]
      have HRK := Lib.hid hr
      have HB := Lib.hid hb
      have HM := Lib.hid hm
      have HA := Lib.hid ha
      have HMAY := Lib.hid hmay
      have HT := Lib.hid hu
      have HBT := Lib.hid hsb
      unfold uL at hO
      dsimp only at hO
      clear hux hn hr hb hm e hk hmay hu hsb ha
      cases sb
      · subst hx
        go_enter Try.func52, Try.ntmps52
        go_wp2_with (first
          | ((with_reducible refine gLoad ?_); first | refine ldX hO 0 rfl rfl (tA rfl) (tS rfl) ?_ | refine ldC hO 0 rfl rfl (tA rfl) rfl ?_ | refine ldX hO 1 rfl rfl (tA rfl) (tS rfl) ?_ | refine ldC hO 1 rfl rfl (tA rfl) rfl ?_ | refine ldX hO 2 rfl rfl (tA rfl) (tS rfl) ?_ | refine ldC hO 2 rfl rfl (tA rfl) rfl ?_ | refine ldX hO 3 rfl rfl (tA rfl) (tS rfl) ?_ | refine ldC hO 3 rfl rfl (tA rfl) rfl ?_)
          | (go_at_call 64; refine (next_ok r b HRK.out HB.out HM.out a HA.out HMAY.out u HT.out hO).mono ?_; rw [HBT.out]; rintro e ww ⟨rfl, hO2⟩; clear hO; have hO := hO2; clear hO2)
          | ((with_reducible refine gStore ?_); first | (refine stX hO 0 rfl rfl rfl rfl rfl (tS rfl) ?_; clear hO; intro ww hO) | (refine stC hO 0 rfl rfl rfl (ltb rfl) rfl (tS rfl) ?_; clear hO; intro ww hO) | (refine stX hO 1 rfl rfl rfl rfl rfl (tS rfl) ?_; clear hO; intro ww hO) | (refine stC hO 1 rfl rfl rfl (ltb rfl) rfl (tS rfl) ?_; clear hO; intro ww hO) | (refine stX hO 2 rfl rfl rfl rfl rfl (tS rfl) ?_; clear hO; intro ww hO) | (refine stC hO 2 rfl rfl rfl (ltb rfl) rfl (tS rfl) ?_; clear hO; intro ww hO) | (refine stX hO 3 rfl rfl rfl rfl rfl (tS rfl) ?_; clear hO; intro ww hO) | (refine stC hO 3 rfl rfl rfl (ltb rfl) rfl (tS rfl) ?_; clear hO; intro ww hO)))
        go_ret
        exact ⟨rfl, hO⟩
      · subst hx
        go_enter Try.func52, Try.ntmps52
        go_wp2_with (first
          | ((with_reducible refine gLoad ?_); first | refine ldX hO 0 rfl rfl (tA rfl) (tS rfl) ?_ | refine ldC hO 0 rfl rfl (tA rfl) rfl ?_ | refine ldX hO 1 rfl rfl (tA rfl) (tS rfl) ?_ | refine ldC hO 1 rfl rfl (tA rfl) rfl ?_ | refine ldX hO 2 rfl rfl (tA rfl) (tS rfl) ?_ | refine ldC hO 2 rfl rfl (tA rfl) rfl ?_ | refine ldX hO 3 rfl rfl (tA rfl) (tS rfl) ?_ | refine ldC hO 3 rfl rfl (tA rfl) rfl ?_)
          | (go_at_call 64; refine (next_ok r b HRK.out HB.out HM.out a HA.out HMAY.out u HT.out hO).mono ?_; rw [HBT.out]; rintro e ww ⟨rfl, hO2⟩; clear hO; have hO := hO2; clear hO2)
          | ((with_reducible refine gStore ?_); first | (refine stX hO 0 rfl rfl rfl rfl rfl (tS rfl) ?_; clear hO; intro ww hO) | (refine stC hO 0 rfl rfl rfl (ltb rfl) rfl (tS rfl) ?_; clear hO; intro ww hO) | (refine stX hO 1 rfl rfl rfl rfl rfl (tS rfl) ?_; clear hO; intro ww hO) | (refine stC hO 1 rfl rfl rfl (ltb rfl) rfl (tS rfl) ?_; clear hO; intro ww hO) | (refine stX hO 2 rfl rfl rfl rfl rfl (tS rfl) ?_; clear hO; intro ww hO) | (refine stC hO 2 rfl rfl rfl (ltb rfl) rfl (tS rfl) ?_; clear hO; intro ww hO) | (refine stX hO 3 rfl rfl rfl rfl rfl (tS rfl) ?_; clear hO; intro ww hO) | (refine stC hO 3 rfl rfl rfl (ltb rfl) rfl (tS rfl) ?_; clear hO; intro ww hO)))
        go_ret
        exact ⟨rfl, hO⟩
    · rw [if_neg hn] at hux
      rw [hux] at hx ht
      dsimp only at hx ht hr
      subst ht
      subst hx
      have hno : ¬ r.may b a := by
        rcases Go.Kc.nxtE_cases 528 b r (a : Int) with h | ⟨_, k, e, _, h⟩ | ⟨_, h⟩
        · exact absurd h hn
        · obtain rfl : a = k := by omega
          exact h
        · omega
      have HRK := Lib.hid hr
      have HB := Lib.hid hb
      have HM := Lib.hid hm
      have HA := Lib.hid ha
      have HMAY := Lib.hid hno
      unfold uL at hO
      dsimp only at hO
      clear hux hn hr hb hm hno ha
      go_enter Try.func52, Try.ntmps52
      go_wp2_with (first
        | ((with_reducible refine gLoad ?_); first | refine ldX hO 0 rfl rfl (tA rfl) (tS rfl) ?_ | refine ldC hO 0 rfl rfl (tA rfl) rfl ?_ | refine ldX hO 1 rfl rfl (tA rfl) (tS rfl) ?_ | refine ldC hO 1 rfl rfl (tA rfl) rfl ?_ | refine ldX hO 2 rfl rfl (tA rfl) (tS rfl) ?_ | refine ldC hO 2 rfl rfl (tA rfl) rfl ?_ | refine ldX hO 3 rfl rfl (tA rfl) (tS rfl) ?_ | refine ldC hO 3 rfl rfl (tA rfl) rfl ?_)
        | (go_at_call 64; refine (next_short r b HRK.out HB.out HM.out a HA.out HMAY.out hO).mono ?_; rintro e ww ⟨rfl, hO2⟩; clear hO; have hO := hO2; clear hO2)
        | ((with_reducible refine gStore ?_); first | (refine stX hO 0 rfl rfl rfl rfl rfl (tS rfl) ?_; clear hO; intro ww hO) | (refine stC hO 0 rfl rfl rfl (ltb rfl) rfl (tS rfl) ?_; clear hO; intro ww hO) | (refine stX hO 1 rfl rfl rfl rfl rfl (tS rfl) ?_; clear hO; intro ww hO) | (refine stC hO 1 rfl rfl rfl (ltb rfl) rfl (tS rfl) ?_; clear hO; intro ww hO) | (refine stX hO 2 rfl rfl rfl rfl rfl (tS rfl) ?_; clear hO; intro ww hO) | (refine stC hO 2 rfl rfl rfl (ltb rfl) rfl (tS rfl) ?_; clear hO; intro ww hO) | (refine stX hO 3 rfl rfl rfl rfl rfl (tS rfl) ?_; clear hO; intro ww hO) | (refine stC hO 3 rfl rfl rfl (ltb rfl) rfl (tS rfl) ?_; clear hO; intro ww hO)))
      go_ret
      exact ⟨rfl, hO⟩
  · have hux : Go.Pz.ub b ⟨r, true⟩ a = (false, ⟨r, true⟩) := rfl
    rw [hux] at hx ht
    dsimp only at hx ht
    subst ht
    subst hx
    unfold uL at hO
    dsimp only at hO
    clear hux hr hb hm ha
    go_enter Try.func52, Try.ntmps52
    go_wp2_with (first
      | ((with_reducible refine gLoad ?_); first | refine ldX hO 0 rfl rfl (tA rfl) (tS rfl) ?_ | refine ldC hO 0 rfl rfl (tA rfl) rfl ?_ | refine ldX hO 1 rfl rfl (tA rfl) (tS rfl) ?_ | refine ldC hO 1 rfl rfl (tA rfl) rfl ?_ | refine ldX hO 2 rfl rfl (tA rfl) (tS rfl) ?_ | refine ldC hO 2 rfl rfl (tA rfl) rfl ?_ | refine ldX hO 3 rfl rfl (tA rfl) (tS rfl) ?_ | refine ldC hO 3 rfl rfl (tA rfl) rfl ?_))
    go_ret
    exact ⟨rfl, hO⟩

set_option maxHeartbeats 4000000 in
set_option maxRecDepth 100000 in
theorem unum_calls {w0 w : World} {L : List Res} {rb ub : Nat} {aB : Option Addr} {m cB : Nat} {aP : Option Addr} {cP : Nat} (b : List (BitVec 8)) (s : Go.Pz.Us) (hr : Go.Kc.Rok 528 b s.r) (hb : b.length = m) (hm : m ≤ 10000000) (wide tree p : Nat) (hw : wide = 4 ∧ p = 16 ∨ wide = 8 ∧ p = 256) (htr : tree + p ≤ 528) (v : Nat) (t : Go.Pz.Us) (hv : (Go.Pz.un b tree wide 1 s).1 - p = v) (ht : (Go.Pz.un b tree wide 1 s).2 = t)
    (hO : Own w0 w (uL rb ub aB m cB aP cP b s L)) :
    Calls Try.prog 53 #[.pointer (some ⟨ub, 0, none⟩), .int .i64 (wide : Int), .int .i64 (tree : Int)] w fun e w' => e = .returned (.int .i64 (v : Int)) ∧ Own w0 w' (uL rb ub aB m cB aP cP b t L) := by
  have hl := Go.Pz.un_lt (b := b) (tree := tree) wide 1 s
  have hp2 : 2 ^ wide = p := by rcases hw with ⟨rfl, rfl⟩ | ⟨rfl, rfl⟩ <;> decide
  rw [hp2] at hl
  have hw8 : wide ≤ 8 := by omega
  have HB := Lib.hid hb
  have HM := Lib.hid hm
  have HV : Hid ((Go.Pz.un b tree wide 1 s).1 = v + p) := by show _ = _; omega
  have HT := Lib.hid ht
  have HP := Lib.hid hp2
  have HRK := Lib.hid hr
  have hvp : v < p := by omega
  clear hb hm hv ht hl hp2 hr
  have hw2 := Lib.hid hw
  go_enter Try.func53, Try.ntmps53
  clear hw
  go_wp2
  go_loopg [7, 9] wide (fun mm s7 cc wr => ∃ (i node : Nat) (u : Go.Pz.Us), mm = wide - i ∧ i ≤ wide ∧ cc = .int .i64 (i : Int) ∧ s7 = .int .i64 (node : Int) ∧ Hid (Go.Pz.un b tree (wide - i) node u = Go.Pz.un b tree wide 1 s) ∧ Hid (2 ^ i ≤ node ∧ node < 2 ^ (i + 1)) ∧ Hid (Go.Kc.Rok 528 b u.r) ∧ Own w0 wr (uL rb ub aB m cB aP cP b u L))
  case atStart => exact ⟨0, 1, s, rfl, by omega, rfl, rfl, rfl, ⟨by decide, by decide⟩, HRK.out, hO⟩
  case round =>
    obtain ⟨i, node, u, rfl, hi, rfl, rfl, HU, HN, HK, hO1⟩ := hrel
    clear hO
    have hO := hO1
    clear hO1
    by_cases hlt : i < wide
    · have d1 : decide ((i : Int) < (wide : Int)) = true := decide_eq_true (by omega)
      have hn := HN.out.2
      have hnp : node < p := by
        rw [← HP.out]
        exact Nat.lt_of_lt_of_le hn (Nat.pow_le_pow_right (by decide) (by omega))
      have hp8 : p ≤ 256 := by have := hw2.out; omega
      obtain ⟨x, hx⟩ : ∃ x, (Go.Pz.ub b u (tree + node)).1.toNat = x := ⟨_, rfl⟩
      obtain ⟨t2, ht2⟩ : ∃ x, (Go.Pz.ub b u (tree + node)).2 = x := ⟨_, rfl⟩
      have hx1 : x < 2 := by rw [← hx]; cases (Go.Pz.ub b u (tree + node)).1 <;> simp
      have hst : Go.Pz.un b tree (wide - (i + 1)) (node * 2 + x) t2 = Go.Pz.un b tree wide 1 s := by
        rw [← HU.out, show wide - i = (wide - (i + 1)) + 1 by omega]
        show _ = Go.Pz.un b tree _ (node * 2 + (Go.Pz.ub b u (tree + node)).1.toNat) (Go.Pz.ub b u (tree + node)).2
        rw [hx, ht2]
      have HK2 : Hid (Go.Kc.Rok 528 b t2.r) := by rw [← ht2]; exact Go.Pz.ub_rok HK.out _
      have HN2 : Hid (2 ^ (i + 1) ≤ node * 2 + x ∧ node * 2 + x < 2 ^ (i + 1 + 1)) := by
        obtain ⟨n1, n2⟩ := HN.out
        rw [Nat.pow_succ] at n2
        show _ ∧ _
        rw [Nat.pow_succ, Nat.pow_succ]
        generalize 2 ^ i = z at *
        omega
      have e4 : bits .or .i64 ((node : Int) * 2) (x : Int) = ((node * 2 + x : Nat) : Int) := Go.Pz.or1_i64 node x (by omega) hx1
      have HX := Lib.hid hx
      have HT2 := Lib.hid ht2
      have HST := Lib.hid hst
      have HTN : Hid (tree + node < 528) := by show _ < _; omega
      have HBC := Lib.hid (fun (w : World) hO => ubit_calls (w0 := w0) (w := w) (L := L) (rb := rb) (ub := ub) (aB := aB) (cB := cB) (aP := aP) (cP := cP) b u HK.out HB.out HM.out (tree + node) HTN.out x t2 HX.out HT2.out hO)
      have hca : ((tree : Int) + (node : Int)) = ((tree + node : Nat) : Int) := by omega
      rw [← hca] at HBC
      clear hx ht2 hst hca
      go_wp2_with (first
        | (go_at_call 52; refine (HBC.out _ hO).mono ?_; rintro e ww ⟨rfl, hO2⟩; clear hO; have hO := hO2; clear hO2))
      go_roundg (wide - (i + 1))
      case measure => omega
      case rel => exact ⟨i + 1, node * 2 + x, t2, rfl, by omega, by go_num, rfl, HST.out, HN2.out, HK2.out, hO⟩
    · obtain rfl : i = wide := by omega
      have hu : Go.Pz.un b tree i 1 s = (node, u) := by
        rw [← HU.out, Nat.sub_self]; rfl
      have hv2 := HV.out
      have ht2 := HT.out
      rw [hu] at hv2 ht2
      dsimp only at hv2 ht2
      subst ht2
      subst hv2
      have hh := hw2.out
      clear HU HN HK HV HT hu HP HRK
      rcases hh with ⟨rfl, rfl⟩ | ⟨rfl, rfl⟩
      · go_wp2
        go_ret
        exact ⟨by simp, hO⟩
      · go_wp2
        go_ret
        exact ⟨by simp, hO⟩
end Go.Proofs.Ytnkpjmcgecdkfaa
