/- What is handed back as a text, own block or own row, in one form; the document's Squeeze and Stream so; Stream of the program, at lengths below nothing. -/
import Derived.Test.YtekiloagckkneaaDoorVo
namespace Go.Proofs.YtekiloagckkneaaDoor
open Go.RowKit Go.Own Go.Bv Go.Ord Go.Eq

/-- a piece of memory that holds, wherever it is held, these octets at this place -/
def Gives (r : Res) (a : Option Addr) (m c : Nat) (X : List (BitVec 8)) : Prop := ∀ lo w', Res.holds lo w' r → Rd w' 1 a m c (u8s X)
theorem gives_sl {e : TypeId} {a : Option Addr} {N c n : Nat} {xs : List Value} {X : List (BitVec 8)} (hn : n ≤ N) (h : xs.take (n * 1) = u8s X) : Gives (.sl e 1 (.slice a N c) N xs) a n c X := fun lo w' hh => by
  obtain ⟨a', c', h1, h2⟩ := rd_of_row hh
  simp only [Value.slice.injEq, true_and] at h1
  obtain ⟨rfl, rfl⟩ := h1
  rw [← h]
  exact h2.take n hn
theorem gives_row {e : TypeId} {a : Option Addr} {n c : Nat} {X : List (BitVec 8)} (hl : X.length = n) : Gives (.sl e 1 (.slice a n c) n (u8s X)) a n c X :=
  gives_sl (Nat.le_refl _) (List.take_of_length_le (by rw [u8s_length]; omega))
theorem gives_blk {g : Nat} {C : Array Value} {t : TypeId} {fr : Nat × Nat} {n : Nat} {X : List (BitVec 8)} (hC : C.toList.take n = u8s X) (hl : X.length = n) (hm : n ≤ maxLen) : Gives (.blk g (.cells C t fr)) (some ⟨g, 0, none⟩) n n X := fun lo w' hh =>
  rd_blk_off hh.2 0 (by rw [List.drop_zero]; exact hC) (by rw [u8s_length]; exact hl) (Nat.le_refl _) hm
/-- a text handed back, and an Errno -/
def TxR (w : World) (X : List (BitVec 8)) (E : Int) (e : Ending) (w' : World) : Prop :=
  ∃ a m c r, e = .returned (.tuple #[.slice a m c, .int .i64 E]) ∧ Below w.heap.size w w' ∧ Res.holds w.heap.size w' r ∧ Gives r a m c X
theorem TxR.nil {w w' : World} {E : Int} {e : Ending} (h : e = .returned (.tuple #[.slice none 0 0, .int .i64 E]) ∧ Below w.heap.size w w') : TxR w [] E e w' :=
  ⟨none, 0, 0, .sl 5 1 (.slice none 0 0) 0 [], h.1, h.2, World.ownsRow_nil _ _ _ _, gives_row (X := []) rfl⟩
theorem TxR.row {w w' : World} {n : Nat} {X : List (BitVec 8)} {E : Int} {e : Ending} (hl : X.length = n) (h : ∃ a' c', e = .returned (.tuple #[.slice a' n c', .int .i64 E]) ∧ Below w.heap.size w w' ∧ w'.ownsRow w.heap.size 5 1 (.slice a' n c') n (u8s X)) : TxR w X E e w' := by
  obtain ⟨a', c', h1, h2, h3⟩ := h
  exact ⟨a', n, c', .sl 5 1 (.slice a' n c') n (u8s X), h1, h2, h3, gives_row hl⟩
theorem TxR.bk {w w' : World} {n : Nat} {X : List (BitVec 8)} {e : Ending} (hl : X.length = n) (hm : n ≤ 65536) (h : BkRet w X n e w') : TxR w X 0 e w' := by
  obtain ⟨g, C, h1, h2, h3, h4⟩ := h
  exact ⟨_, n, n, _, h1, h2, h3, gives_blk h4 hl (by simp [maxLen]; omega)⟩

set_option maxHeartbeats 2000000 in
set_option maxRecDepth 100000 in
theorem rsqueeze_own (s : St) (n : Nat) (hn : n ≤ 131072) (w : World) :
    Calls Tryd.prog 39 #[.agg s.C, .int .i64 (n : Int)] w fun e w' => TxR w (s.squeeze n) 0 e w' := by
  have hO := Own.start w
  generalize hW : w = wn at hO ⊢
  clear hW w
  have hb0 : decide ((n : Int) < 0) = false := by simp
  have hb1 : decide ((131072 : Int) < (n : Int)) = false := by simp; omega
  go_enter Tryd.func39, Tryd.ntmps39
  go_wp2_with (first | ((with_reducible refine gBox ?_); first | (refine bxA hO rfl ?_; clear hO; intro b ww hO) | (refine bx1 hO rfl rfl ?_; clear hO; intro b ww hO)))
  replace hO : Own wn ww [.sl 5 1 (.slice none 0 0) 0 [], .blk b (.cells s.C 24 (0,0))] := hO.add (Below.refl _ _) (World.ownsRow_nil _ _ _ _)
  go_loopg [6] (n + 1) (fun m v wr => ∃ (k : Nat) (a : Option Addr) (cp : Nat), m = (n + 1) - 8 * k ∧ 8 * k < n + 8 ∧ v = .slice a (8 * k) cp ∧ Own wn wr [.sl 5 1 (.slice a (8 * k) cp) (8 * k) (u8s (s.sqK k)), .blk b (.cells (St.permN k s).C 24 (0,0))])
  case atStart => exact ⟨0, none, 0, rfl, by omega, rfl, hO⟩
  case round =>
    obtain ⟨k, a, cp, rfl, hk, rfl, hO1⟩ := hrel
    clear hO
    have hO := hO1
    clear hO1
    by_cases hlt : 8 * k < n
    · have hb2 : decide (((8 * k : Nat) : Int) < (n : Int)) = true := by simp; omega
      have HS := Lib.hid (sq_next s k)
      have HP : Hid (St.permN (k + 1) s = (St.permN k s).perm) := rfl
      generalize St.permN k s = u at *
      obtain ⟨v, hv⟩ : ∃ v, u.perm = v := ⟨_, rfl⟩
      have HV := Lib.hid hv
      rw [hv] at HP
      obtain ⟨L, hL⟩ : ∃ L, u8s (s.sqK k) = L := ⟨_, rfl⟩
      rw [hL] at hO
      have HL := Lib.hid hL
      obtain ⟨N, hN⟩ : ∃ N, N = 8 * k := ⟨_, rfl⟩
      rw [← hN] at hO hb2 ⊢
      have hN2 : N ≤ 131072 := by omega
      have hb3 : decide (N < n) = true := by simp; omega
      have HN := Lib.hid hN
      clear hv hL hN
      go_wp2_with (first
        | ((with_reducible refine gLoad ?_); first | refine ldC hO 1 rfl rfl (tA rfl) rfl ?_ | refine ldC hO 2 rfl rfl (tA rfl) rfl ?_ | refine ldX hO 3 rfl rfl (tA rfl) (tS rfl) ?_)
        | ((with_reducible refine gStore ?_); refine stX hO 3 rfl rfl rfl rfl rfl (tS rfl) ?_; clear hO; intro ww hO)
        | (go_at_call 42; (with_reducible refine gCall #[.int .u32 (u.a.toNat : Int)] ?_); refine (oct4_calls u.a _).mono ?_; rintro e ww ⟨g, rfl, hb, hr⟩; replace hO := hO.addRow hb hr; clear hb hr)
        | (go_at_call 42; refine (oct4_calls u.b _).mono ?_; rintro e ww ⟨g, rfl, hb, hr⟩; replace hO := hO.addRow hb hr; clear hb hr)
        | ((with_reducible refine gAppend ?_); first
            | (refine own_append hO 1 _ _ 28 eu8 rfl rfl rfl (hO.rdAt 0 rfl) (u8s_one _) (N + 4) rfl (by simp [maxLen]; omega) (by omega) ?_; clear hO; intro a2 c2 ww hO)
            | (refine own_append hO 2 _ _ 28 eu8 rfl rfl rfl (hO.rdAt 0 rfl) (u8s_one _) (N + 8) rfl (by simp [maxLen]; omega) (by omega) ?_; clear hO; intro a3 c3 ww hO))
        | (go_at_call 44; refine (rperm_calls u _).mono ?_; rw [HV.out]; rintro e ww ⟨rfl, hb⟩; replace hO := hO.call hb; clear hb))
      go_roundg ((n + 1) - 8 * (k + 1))
      case measure => omega
      case rel =>
        refine ⟨k + 1, a3, c3, rfl, by omega, by rw [HN.out]; rfl, ?_⟩
        rw [HS.out, HP.out, u8s_append, u8s_append, HL.out, ← List.append_assoc, show 8 * (k + 1) = N + 8 by have := HN.out; omega]
        exact hO.sub (List.Sublist.cons _ (List.Sublist.cons _ (List.Sublist.refl _)))
    · have hb2 : decide (((8 * k : Nat) : Int) < (n : Int)) = false := by simp; omega
      have HF : Hid (u8s (s.squeeze n) = (u8s (s.sqK k)).take n) := by show _ = _; rw [St.squeeze_of s (by omega : n ≤ 8 * k), u8s_take]
      have hle := (hO.rdAt 0 rfl).le
      have hnc : n ≤ cp := by omega
      have hn8 : n ≤ 8 * k := by omega
      have hb3 : decide (8 * k < n) = false := by simp; omega
      go_wp2
      go_ret2
      exact ⟨_, _, _, _, rfl, hO.below, hO.at 0 rfl, gives_sl hn8 (by rw [Nat.mul_one]; exact HF.out.symm)⟩

set_option maxHeartbeats 4000000 in
set_option maxRecDepth 100000 in
theorem rstream_own (key : St) (n : BitVec 64) (m : Nat) (hm : m ≤ 65536) (w : World) :
    Calls Tryd.prog 22 #[.agg key.C, .int .u64 (n.toNat : Int), .int .i64 (m : Int)] w fun e w' => TxR w (key.stream n m) 0 e w' := by
  have hO := Own.start w
  obtain ⟨E8, hE8⟩ : ∃ L, eight n = L := ⟨_, rfl⟩
  obtain ⟨L9, hL9⟩ : ∃ L, E8 ++ [1#8] = L := ⟨_, rfl⟩
  obtain ⟨u, hu⟩ : ∃ u, key.absorb L9 = u := ⟨_, rfl⟩
  obtain ⟨X, hX⟩ : ∃ X, u.squeeze m = X := ⟨_, rfl⟩
  have hS : key.stream n m = X := by rw [← hX, ← hu, ← hL9, ← hE8]; rfl
  have g1 := fun w => reight_calls n w
  have g2 := fun w a c hR => rabsorb_ok key a 9 c L9 w hR (by omega)
  have g3 := fun w => rsqueeze_own u m (by omega) w
  unfold TxR at g3
  rw [hE8] at g1
  rw [hu] at g2
  rw [hX] at g3
  rw [hS]
  have HL9 : Hid (u8s L9 = u8s E8 ++ u8s [1#8]) := by show _ = _; rw [← hL9, u8s_append']
  have G1 := Lib.hid g1
  have G2 := Lib.hid g2
  have G3 := Lib.hid g3
  have d0 : decide ((m : Int) < 0) = false := by simp
  have d1 : decide ((65536 : Int) < (m : Int)) = false := by simp; omega
  clear g1 g2 g3 hL9 hu hX hS hE8
  generalize hW : w = wn at hO ⊢
  clear hW w
  go_enter Tryd.func22, Tryd.ntmps22
  go_wp2_with (first | ((with_reducible refine gBox ?_); first | (refine bxA hO rfl ?_; clear hO; intro b ww hO) | (refine bx1 hO rfl rfl ?_; clear hO; intro b ww hO)))
  replace hO : Own wn _ [.blk b (.cells key.C 24 (0,0))] := hO
  refine wp_region_plan (fun w' => Own wn w' [.blk b (.cells key.C 24 (0,0))]) (fun op => match op with | .load _ _ => true | _ => false) (.one 0 (.one 1 (.br 2 (.br 3 (.br 4 (.br 5 (.one 6 (.one 7 (.one 8 (.one 9 (.one 10 (.one 11 (.done))))))) (.one 9 (.one 5 (.one 6 (.one 7 (.one 8 (.one 10 (.one 11 (.done))))))))) (.one 9 (.one 4 (.one 5 (.one 6 (.one 7 (.one 8 (.one 10 (.one 11 (.done)))))))))) (.one 9 (.one 3 (.one 4 (.one 5 (.one 6 (.one 7 (.one 8 (.one 10 (.one 11 (.done))))))))))) (.br 3 (.br 2 (.br 4 (.br 5 (.one 6 (.one 7 (.one 8 (.one 9 (.one 10 (.one 11 (.done))))))) (.one 9 (.one 5 (.one 6 (.one 7 (.one 8 (.one 10 (.one 11 (.done))))))))) (.one 9 (.one 4 (.one 5 (.one 6 (.one 7 (.one 8 (.one 10 (.one 11 (.done)))))))))) (.one 9 (.one 2 (.one 4 (.one 5 (.one 6 (.one 7 (.one 8 (.one 10 (.one 11 (.done))))))))))) (.one 9 (.br 2 (.one 3 (.one 4 (.one 5 (.one 6 (.one 7 (.one 8 (.one 10 (.one 11 (.done))))))))) (.one 3 (.one 2 (.one 4 (.one 5 (.one 6 (.one 7 (.one 8 (.one 10 (.one 11 (.done)))))))))))))))) (by kernel_rfl) (by kernel_rfl) hO.drew ?_
  dsimp only [Plan.withOps, planAt]
  replace hO := hO.drew
  generalize World.drew _ = wd at hO ⊢
  go_wp2_with (first
    | (((with_reducible refine gIL ?_); first | refine wpI_ldS (fun w' hS => hS.blk 0 rfl) rfl rfl (tA rfl) (tS rfl) ?_); first | (refine wpI_act (by simp only [Act.put, List.setIfInBounds_toArray, List.set_cons_succ, List.set_cons_zero]; rfl) ?_) | skip)
    | ((with_reducible refine gLoad ?_); first | refine ldX hO 0 rfl rfl (tA rfl) (tS rfl) ?_ | refine ldC hO 0 rfl rfl (tA rfl) rfl ?_ | refine ldX hO 1 rfl rfl (tA rfl) (tS rfl) ?_ | refine ldC hO 1 rfl rfl (tA rfl) rfl ?_ | refine ldX hO 2 rfl rfl (tA rfl) (tS rfl) ?_ | refine ldC hO 2 rfl rfl (tA rfl) rfl ?_ | refine ldX hO 3 rfl rfl (tA rfl) (tS rfl) ?_ | refine ldC hO 3 rfl rfl (tA rfl) rfl ?_ | refine ldX hO 4 rfl rfl (tA rfl) (tS rfl) ?_ | refine ldC hO 4 rfl rfl (tA rfl) rfl ?_)
    | ((with_reducible refine gStore ?_); first | (refine stX hO 0 rfl rfl rfl rfl rfl (tS rfl) ?_; clear hO; intro ww hO) | (refine stC hO 0 rfl rfl rfl (ltb rfl) rfl (tS rfl) ?_; clear hO; intro ww hO) | (refine stX hO 1 rfl rfl rfl rfl rfl (tS rfl) ?_; clear hO; intro ww hO) | (refine stC hO 1 rfl rfl rfl (ltb rfl) rfl (tS rfl) ?_; clear hO; intro ww hO) | (refine stX hO 2 rfl rfl rfl rfl rfl (tS rfl) ?_; clear hO; intro ww hO) | (refine stC hO 2 rfl rfl rfl (ltb rfl) rfl (tS rfl) ?_; clear hO; intro ww hO) | (refine stX hO 3 rfl rfl rfl rfl rfl (tS rfl) ?_; clear hO; intro ww hO) | (refine stC hO 3 rfl rfl rfl (ltb rfl) rfl (tS rfl) ?_; clear hO; intro ww hO))
    | ((with_reducible refine gAlloc ?_); refine own_alloc hO _ _ iwz ?_; clear hO; intro bb ww hO)
    | ((with_reducible refine gBuild ?_); refine own_build hO 28 1 _ eu8 (u8s [1#8]).toArray (by omega) (by omega) (by simp [go_sem, Instr.fill, u8s]) rfl ?_; clear hO; intro g ww hO)
    | (go_at_call 33; refine (G1.out _).mono ?_; rintro e ww ⟨a2, c2, rfl, hb, hr⟩; replace hO := hO.addRow hb hr; clear hb hr)
    | ((with_reducible refine gAppend ?_); first
        | (refine own_append hO 1 _ _ 28 eu8 rfl rfl rfl (hO.rdAt 0 rfl) (u8s_one _) 9 rfl (by simp [maxLen]) (by omega) ?_; clear hO; intro a3 c3 ww hO)
        | (refine own_append hO 0 _ _ 28 eu8 rfl rfl rfl (hO.rdAt 1 rfl) (u8s_one _) 9 rfl (by simp [maxLen]) (by omega) ?_; clear hO; intro a3 c3 ww hO)
        | (refine own_append hO 2 _ _ 28 eu8 rfl rfl rfl (hO.rdAt 0 rfl) (u8s_one _) 9 rfl (by simp [maxLen]) (by omega) ?_; clear hO; intro a3 c3 ww hO)
        | (refine own_append hO 0 _ _ 28 eu8 rfl rfl rfl (hO.rdAt 2 rfl) (u8s_one _) 9 rfl (by simp [maxLen]) (by omega) ?_; clear hO; intro a3 c3 ww hO)
        | (refine own_append hO 1 _ _ 28 eu8 rfl rfl rfl (hO.rdAt 2 rfl) (u8s_one _) 9 rfl (by simp [maxLen]) (by omega) ?_; clear hO; intro a3 c3 ww hO)
        | (refine own_append hO 2 _ _ 28 eu8 rfl rfl rfl (hO.rdAt 1 rfl) (u8s_one _) 9 rfl (by simp [maxLen]) (by omega) ?_; clear hO; intro a3 c3 ww hO))
    | (go_at_call 38; (first | refine (G2.out _ _ _ (by rw [HL9.out]; exact hO.rdAt 1 rfl)).mono ?_ | refine (G2.out _ _ _ (by rw [HL9.out]; exact hO.rdAt 0 rfl)).mono ?_ | refine (G2.out _ _ _ (by rw [HL9.out]; exact hO.rdAt 2 rfl)).mono ?_); rintro e ww ⟨rfl, hb⟩; replace hO := hO.call hb; clear hb)
    | (go_at_call 39; refine (G3.out _).mono ?_; rintro e ww ⟨a5, m5, c5, r5, rfl, hb, hh, hX⟩; have HH := Lib.hid (hh.mono hO.size); replace hO := hO.call hb; clear hb hh)
    | ((with_reducible refine wpO_one ?_ ?_); exact hO.sub (by repeat first | exact List.Sublist.refl _ | apply List.Sublist.cons)) | ((with_reducible refine wpO_br ?_ ?_ ?_); exact hO.sub (by repeat first | exact List.Sublist.refl _ | apply List.Sublist.cons)) | ((with_reducible refine wpI_nilS ?_ ?_); exact hO.sub (by repeat first | exact List.Sublist.refl _ | apply List.Sublist.cons)) | (with_reducible refine wpO_done ?_)
    | ((with_reducible refine gI ?_); refine wpI_step rfl rfl (by kernel_rfl) ?_; intro K hK; have HK := Lib.hid hK; clear hK) | ((with_reducible refine gI ?_); first | refine wpI_skip rfl ?_ | refine wpI_want rfl ?_) | ((with_reducible refine gOnlyK HK.out ?_ ?_); exact hO.sub (by repeat first | exact List.Sublist.refl _ | apply List.Sublist.cons); clear HK K; first | (refine wpI_act (by simp only [Act.put, List.setIfInBounds_toArray, List.set_cons_succ, List.set_cons_zero]; rfl) ?_) | skip) | (with_reducible refine wpI_nil ?_))
  all_goals
    go_ret2
    exact ⟨_, _, _, _, rfl, hO.below, HH.out, hX⟩

set_option maxHeartbeats 4000000 in
set_option maxRecDepth 100000 in
theorem stream_neg (key : St) (n : BitVec 64) (m : Int) (hm : m < 0) (w : World) (hT : Turns w) :
    Calls Tryd.prog 14 #[.agg key.C, .int .u64 (n.toNat : Int), .int .i64 m] w fun e w' => e = .returned (.tuple #[.slice none 0 0, .int .i64 1]) ∧ Below w.heap.size w w' := by
  have hO := Own.start w
  obtain ⟨L9, hL9⟩ : ∃ L, eight n ++ [1#8] = L := ⟨_, rfl⟩
  obtain ⟨u, hu⟩ : ∃ u, key.absorb L9 = u := ⟨_, rfl⟩
  have g1 := fun w a c hR => head_calls n a 1 c [1#8] w hR (by omega)
  have g2 := fun w a c hR hT => absorb1_calls key a 9 c L9 w hR hT (by omega)
  have g3 := fun w => squeeze_no u m w (.inl hm)
  rw [if_pos hm] at g3
  rw [hL9] at g1
  rw [hu] at g2
  have G1 := Lib.hid g1
  have G2 := Lib.hid g2
  have G3 := Lib.hid g3
  have HT := Lib.hid hT
  have d1 : decide ((65536 : Int) < m) = false := by simp; omega
  clear hT g1 g2 g3 hL9 hu hm
  generalize hW : w = wn at hO HT ⊢
  clear hW w
  go_enter Tryd.func14, Tryd.ntmps14
  go_wp2_with (first | ((with_reducible refine gBox ?_); first | (refine bxA hO rfl ?_; clear hO; intro b ww hO) | (refine bx1 hO rfl rfl ?_; clear hO; intro b ww hO)))
  replace hO : Own wn _ [.blk b (.cells key.C 24 (0,0))] := hO
  refine wp_region_float (fun w' => Own wn w' [.blk b (.cells key.C 24 (0,0))]) (fun op => match op with | .load _ _ => true | _ => false) [.n, .n, .b, .b, .b, .m, .n, .n, .z, .n, .n] (by kernel_rfl) (by kernel_rfl) hO.drew ?_
  dsimp only [zipF, zOf]
  replace hO := hO.drew
  generalize World.drew _ = wd at hO ⊢
  go_wp2_with (first
    | (((with_reducible refine gIL ?_); first | refine wpI_ldS (fun w' hS => hS.blk 0 rfl) rfl rfl (tA rfl) (tS rfl) ?_); first | (refine wpI_act (by simp only [Act.put, List.setIfInBounds_toArray, List.set_cons_succ, List.set_cons_zero]; rfl) ?_) | skip)
    | ((with_reducible refine gLoad ?_); first | refine ldX hO 0 rfl rfl (tA rfl) (tS rfl) ?_ | refine ldC hO 0 rfl rfl (tA rfl) rfl ?_ | refine ldX hO 1 rfl rfl (tA rfl) (tS rfl) ?_ | refine ldC hO 1 rfl rfl (tA rfl) rfl ?_ | refine ldX hO 2 rfl rfl (tA rfl) (tS rfl) ?_ | refine ldC hO 2 rfl rfl (tA rfl) rfl ?_ | refine ldX hO 3 rfl rfl (tA rfl) (tS rfl) ?_ | refine ldC hO 3 rfl rfl (tA rfl) rfl ?_ | refine ldX hO 4 rfl rfl (tA rfl) (tS rfl) ?_ | refine ldC hO 4 rfl rfl (tA rfl) rfl ?_)
    | ((with_reducible refine gStore ?_); first | (refine stX hO 0 rfl rfl rfl rfl rfl (tS rfl) ?_; clear hO; intro ww hO) | (refine stC hO 0 rfl rfl rfl (ltb rfl) rfl (tS rfl) ?_; clear hO; intro ww hO) | (refine stX hO 1 rfl rfl rfl rfl rfl (tS rfl) ?_; clear hO; intro ww hO) | (refine stC hO 1 rfl rfl rfl (ltb rfl) rfl (tS rfl) ?_; clear hO; intro ww hO) | (refine stX hO 2 rfl rfl rfl rfl rfl (tS rfl) ?_; clear hO; intro ww hO) | (refine stC hO 2 rfl rfl rfl (ltb rfl) rfl (tS rfl) ?_; clear hO; intro ww hO) | (refine stX hO 3 rfl rfl rfl rfl rfl (tS rfl) ?_; clear hO; intro ww hO) | (refine stC hO 3 rfl rfl rfl (ltb rfl) rfl (tS rfl) ?_; clear hO; intro ww hO))
    | ((with_reducible refine gAlloc ?_); refine own_alloc hO _ _ iwz ?_; clear hO; intro bb ww hO)
    | ((with_reducible refine gBuild ?_); refine own_build hO 28 1 _ eu8 (u8s [1#8]).toArray (by omega) (by omega) (by simp [go_sem, Instr.fill, u8s]) rfl ?_; clear hO; intro g ww hO)
    | (go_at_call 27; (first | refine (G1.out _ _ _ (hO.rdAt 0 rfl)).mono ?_ | refine (G1.out _ _ _ (hO.rdAt 1 rfl)).mono ?_); rintro e ww ⟨a2, c2, rfl, hb, hr⟩; replace hO := hO.addRow hb hr; clear hb hr)
    | (go_at_call 26; (first | refine (G2.out _ _ _ (hO.rdAt 0 rfl) (HT.out.own hO)).mono ?_ | refine (G2.out _ _ _ (hO.rdAt 1 rfl) (HT.out.own hO)).mono ?_); rintro e ww ⟨rfl, hb⟩; replace hO := hO.call hb; clear hb)
    | (go_at_call 28; refine (G3.out _).mono ?_; rintro e ww ⟨rfl, hb⟩; replace hO := hO.call hb; clear hb)
    | ((with_reducible refine wpF_n ?_ ?_); exact hO.sub (by repeat first | exact List.Sublist.refl _ | apply List.Sublist.cons)) | ((with_reducible refine wpF_b ?_ ?_ ?_); exact hO.sub (by repeat first | exact List.Sublist.refl _ | apply List.Sublist.cons); dsimp only [List.map]) | ((with_reducible refine wpF_m ?_); dsimp only [List.map]) | ((with_reducible refine wpI_nilS ?_ ?_); exact hO.sub (by repeat first | exact List.Sublist.refl _ | apply List.Sublist.cons))
    | ((with_reducible refine gI ?_); refine wpI_step rfl rfl (by kernel_rfl) ?_; intro K hK; have HK := Lib.hid hK; clear hK) | ((with_reducible refine gI ?_); first | refine wpI_skip rfl ?_ | refine wpI_want rfl ?_) | ((with_reducible refine gOnlyK HK.out ?_ ?_); exact hO.sub (by repeat first | exact List.Sublist.refl _ | apply List.Sublist.cons); clear HK K; first | (refine wpI_act (by simp only [Act.put, List.setIfInBounds_toArray, List.set_cons_succ, List.set_cons_zero]; rfl) ?_) | skip) | (with_reducible refine wpI_nil ?_))
  all_goals
    go_ret2
    exact ⟨rfl, hO.below⟩
end Go.Proofs.YtekiloagckkneaaDoor
