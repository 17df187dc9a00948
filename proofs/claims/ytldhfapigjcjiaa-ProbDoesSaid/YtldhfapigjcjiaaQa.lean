/- Walks: SameInts, slices.Clone of integers, prob.All. -/
import Derived.Test.YtldhfapigjcjiaaQ
import Derived.Test.YtldhfapigjcjiaaQb
import Derived.Lib.AppendZeros
import Derived.Lib.LazyBuf
namespace Go.Proofs.Ytldhfapigjcjiaa
open Go.RowKit Go.Own Go.Bv Go.Ord Go.Eq Go.Opn Go.Pb

theorem ii64s : (Try.prog.info? 3).map (·.size) = some 1 := by kernel_rfl
theorem ibtz : (Try.prog.info? 40).bind (·.zero) = some (.agg zB.C) := by kernel_rfl
theorem i64s_one (l : List Int) : ∀ u ∈ i64s l, u.oneCell' = true := by
  intro u hu
  simp only [i64s, List.mem_map] at hu
  obtain ⟨x, _, rfl⟩ := hu
  rfl
theorem i64s_inj {a b : List Int} (h : i64s a = i64s b) : a = b := by
  refine (List.map_inj_right fun x y hxy => ?_).1 h
  simpa using hxy
theorem take_same {l r : List Int} {k : Nat} (h : l.take k = r.take k) {s : Int} (h1 : l[k]? = some s) (h2 : r[k]? = some s) : l.take (k + 1) = r.take (k + 1) := by
  rw [List.take_add_one, List.take_add_one, h, h1, h2]

set_option maxHeartbeats 2000000 in
set_option maxRecDepth 100000 in
theorem sints_calls (a1 a2 : Option Addr) (n1 c1 n2 c2 : Nat) (l r : List Int) (w : World) (h1 : Rd w 1 a1 n1 c1 (i64s l)) (h2 : Rd w 1 a2 n2 c2 (i64s r)) :
    Calls Try.prog 13 #[.slice a1 n1 c1, .slice a2 n2 c2] w fun e w' => e = .returned (.bool (decide (l = r))) ∧ Below w.heap.size w w' := by
  have hO := Own.start w
  have hl1 : l.length = n1 := by have := h1.len; rw [i64s_length] at this; omega
  have hl2 : r.length = n2 := by have := h2.len; rw [i64s_length] at this; omega
  have HR1 := Lib.hid h1
  have HR2 := Lib.hid h2
  have hm := h1.max
  have hle := h1.le
  unfold maxLen at hm
  clear h1 h2
  by_cases hn : n1 = n2
  · subst hn
    have HL1 := Lib.hid hl1
    have HL2 := Lib.hid hl2
    generalize hW : w = wn at hO HR1 HR2 ⊢
    clear hW w hl1 hl2
    obtain ⟨B, hB⟩ : ∃ B, decide (l = r) = B := ⟨_, rfl⟩
    have HB := Lib.hid hB
    rw [hB]
    clear hB
    go_enter Try.func13, Try.ntmps13
    go_wp2
    go_loopg [13] n1 (fun m c wr => ∃ k : Nat, m = n1 - k ∧ k ≤ n1 ∧ c = .int .i64 (k : Int) ∧ l.take k = r.take k ∧ Own wn wr [])
    case atStart => exact ⟨0, rfl, by omega, rfl, rfl, hO⟩
    case round =>
      obtain ⟨k, rfl, hk, rfl, hE, hO1⟩ := hrel
      clear hO
      have hO := hO1
      have HE := Lib.hid hE
      clear hO1 hE
      by_cases c1 : k < n1
      · have d1 : decide ((k : Int) < (n1 : Int)) = true := by simp; omega
        have hs := List.getElem?_eq_getElem (l := l) (i := k) (by rw [HL1.out]; exact c1)
        have ht := List.getElem?_eq_getElem (l := r) (i := k) (by rw [HL2.out]; exact c1)
        have hs2 := i64s_get l k (by rw [HL1.out]; exact c1)
        have ht2 := i64s_get r k (by rw [HL2.out]; exact c1)
        generalize l[k]'(by rw [HL1.out]; exact c1) = s at hs hs2
        generalize r[k]'(by rw [HL2.out]; exact c1) = t at ht ht2
        have HS := Lib.hid hs
        have HT := Lib.hid ht
        have HS2 := Lib.hid hs2
        have HT2 := Lib.hid ht2
        clear hs ht hs2 ht2
        obtain ⟨b1, o1, rfl⟩ := HR1.out.place (by omega)
        obtain ⟨b2, o2, rfl⟩ := HR2.out.place (by omega)
        by_cases c2 : s = t
        · subst c2
          have HE2 := Lib.hid (take_same HE.out HS.out HT.out)
          go_wp2
          refine wp_region_text (by kernel_rfl) (by kernel_rfl) ?_
          replace hO := hO.drew
          generalize World.drew _ = wd at hO ⊢
          go_wp2_with (first
            | ((with_reducible refine gLoad (T := 3) ?_); first | refine ld_rd (hO.rd HR1.out) rfl HS2.out (tA rfl) ?_ | refine ld_rd (hO.rd HR2.out) rfl HT2.out (tA rfl) ?_)
            | ((with_reducible refine gI ?_); refine wpI_step rfl rfl (by kernel_rfl) ?_; intro K hK; have HK := Lib.hid hK; clear hK) | ((with_reducible refine gI ?_); first | refine wpI_skip rfl ?_ | refine wpI_want rfl ?_) | ((with_reducible refine gOnlyK0 HK.out ?_); clear HK K; first | (refine wpI_act (by simp only [Act.put, List.setIfInBounds_toArray, List.set_cons_succ, List.set_cons_zero]; rfl) ?_) | skip) | (with_reducible refine wpI_nil ?_))
          go_roundg (n1 - (k + 1))
          case measure => omega
          case rel => exact ⟨k + 1, rfl, by omega, by go_num, HE2.out, hO⟩
        · have d3 : (s == t) = false := by simpa using c2
          have HBF : Hid (B = false) := by
            rw [← HB.out]
            exact decide_eq_false fun h => c2 (by have h3 := HS.out; rw [h, HT.out] at h3; exact (Option.some.inj h3).symm)
          go_wp2
          refine wp_region_text (by kernel_rfl) (by kernel_rfl) ?_
          replace hO := hO.drew
          generalize World.drew _ = wd at hO ⊢
          go_wp2_with (first
            | ((with_reducible refine gLoad (T := 3) ?_); first | refine ld_rd (hO.rd HR1.out) rfl HS2.out (tA rfl) ?_ | refine ld_rd (hO.rd HR2.out) rfl HT2.out (tA rfl) ?_)
            | ((with_reducible refine gI ?_); refine wpI_step rfl rfl (by kernel_rfl) ?_; intro K hK; have HK := Lib.hid hK; clear hK) | ((with_reducible refine gI ?_); first | refine wpI_skip rfl ?_ | refine wpI_want rfl ?_) | ((with_reducible refine gOnlyK0 HK.out ?_); clear HK K; first | (refine wpI_act (by simp only [Act.put, List.setIfInBounds_toArray, List.set_cons_succ, List.set_cons_zero]; rfl) ?_) | skip) | (with_reducible refine wpI_nil ?_))
          go_ret
          exact ⟨by rw [HBF.out]; rfl, hO.below⟩
      · obtain rfl : k = n1 := by omega
        have HBT : Hid (B = true) := by
          rw [← HB.out]
          refine decide_eq_true ?_
          have h := HE.out
          rw [List.take_of_length_le (by rw [HL1.out]; exact Nat.le_refl _), List.take_of_length_le (by rw [HL2.out]; exact Nat.le_refl _)] at h
          exact h
        go_wp2
        go_ret
        exact ⟨by rw [HBT.out]; rfl, hO.below⟩
  · have d1 : ((n1 : Int) == (n2 : Int)) = false := by simp; omega
    have hd : decide (l = r) = false := decide_eq_false fun h => hn (by rw [← hl1, ← hl2, h])
    rw [hd]
    generalize hW : w = wn at hO ⊢
    clear hW w hd hn hl1 hl2 HR1 HR2
    go_enter Try.func13, Try.ntmps13
    go_wp2
    go_ret
    exact ⟨rfl, hO.below⟩

set_option maxHeartbeats 2000000 in
set_option maxRecDepth 100000 in
theorem clonei_calls (a : Option Addr) (n c : Nat) (l : List Int) (w : World) (hR : Rd w 1 a n c (i64s l)) (hn : n ≤ 1000000) :
    Calls Try.prog 24 #[.slice a n c] w fun e w' => ∃ a' c', e = .returned (.slice a' n c') ∧ Below w.heap.size w w' ∧ w'.ownsRow w.heap.size 3 1 (.slice a' n c') n (i64s l) := by
  have hO := Own.start w
  cases a with
  | none =>
    obtain ⟨rfl, rfl⟩ := hR.nil rfl
    have hb : i64s l = [] := List.eq_nil_of_length_eq_zero (by rw [hR.len])
    rw [hb]
    have hnil : ∀ W, (binOp .eql 26 (.slice none 0 0) (.slice none 0 0)).run Try.prog W = .ok (.bool true) W := fun W => Go.run_eql_slice_nil W _ _ none 0 0 Try.underlying26
    clear hR hb
    generalize hW : w = wn at hO ⊢
    clear hW w
    go_enter Try.func24, Try.ntmps24
    go_wp2
    go_ret
    exact ⟨_, _, rfl, hO.below, World.ownsRow_nil _ _ _ _⟩
  | some ad =>
    have HR := Lib.hid hR
    have hnil : ∀ W, (binOp .eql 26 (.slice (some ad) n c) (.slice none 0 0)).run Try.prog W = .ok (.bool false) W := fun W => Go.run_eql_slice_nil W _ _ (some ad) n c Try.underlying26
    clear hR
    generalize hW : w = wn at hO HR ⊢
    clear hW w
    go_enter Try.func24, Try.ntmps24
    go_wp2_with (first
      | ((with_reducible refine gBuild ?_); refine own_build0 hO 26 ei64 ?_; clear hO; intro g ww hO)
      | ((with_reducible refine gAppend ?_); refine own_append hO 0 _ _ 26 ei64 rfl rfl rfl (hO.rd HR.out) (i64s_one _) n (by omega) (by simp [maxLen]; omega) (by omega) ?_; clear hO; intro a2 c2 ww hO))
    go_ret
    exact ⟨_, _, rfl, hO.below, hO.row 0 rfl⟩

set_option maxHeartbeats 4000000 in
set_option maxRecDepth 100000 in
theorem all_calls (a : Option Addr) (n c : Nat) (l : List Int) (a2 : Option Addr) (n2 c2 : Nat) (bits : List Bt) (w : World) (hR : Rd w 1 a n c (i64s l)) (hB : Rd w 2 a2 n2 c2 (bts bits)) (N : Nat) (T : List Int) (E : Int) (hN : (allT l bits).length = N) (hT : allT l bits = T) (hE : allE l bits = E) :
    Calls Try.prog 12 #[.slice a n c, .slice a2 n2 c2] w fun e w' => ∃ a' c', e = .returned (.tuple #[.slice a' N c', .int .i64 E]) ∧ Below w.heap.size w w' ∧ w'.ownsRow w.heap.size 3 1 (.slice a' N c') N (i64s T) := by
  have hO := Own.start w
  have hlen : l.length = n := by have := hR.len; rw [i64s_length] at this; omega
  have hlb : bits.length = n2 := by have := hB.len; rw [bts_length] at this; omega
  have hmb := Nat.le_trans hB.le hB.max
  unfold maxLen at hmb
  by_cases hc : checkE l = 0
  · have hn : n ≤ 1024 := by
      unfold checkE at hc
      split at hc
      · rename_i h; omega
      · cases hc
    have hm : l.all mayB = true := by
      unfold checkE at hc
      split at hc
      · rename_i h; exact h.2
      · cases hc
    have HCK := Lib.hid (fun w h => by have := check_calls a n c l w h; rw [hc] at this; exact this)
    have HCL := Lib.hid (fun w h => clonei_calls a n c l w h (by omega))
    have HT : Hid (T = (allL n l bits).getD []) := by show _ = _; rw [← hT]; unfold allT; rw [if_pos hc, hlen]
    have HE : Hid (E = if (allL n l bits).isSome then 0 else 4) := by show _ = _; rw [← hE]; unfold allE; rw [if_pos hc, hlen]
    have HN : Hid (N = T.length) := by show _ = _; rw [← hN, hT]
    have HM := Lib.hid hm
    have HL := Lib.hid hlen
    have HLB := Lib.hid hlb
    have HR := Lib.hid hR
    have HBR := Lib.hid hB
    clear hR hB hm hc hN hT hE hlen hlb
    generalize hW : w = wn at hO HR HBR ⊢
    clear hW w
    go_enter Try.func12, Try.ntmps12
    go_wp2_with (first
      | (go_at_call 9; refine (HCK.out _ (hO.rd HR.out)).mono ?_; rintro e ww ⟨rfl, rfl⟩)
      | (go_at_call 24; refine (HCL.out _ (hO.rd HR.out)).mono ?_; rintro e ww ⟨a1, c1, rfl, hb, hr⟩; replace hO := hO.addRow hb hr; clear hb hr))
    go_loopg [18] n2 (fun m s18 wr => ∃ (k : Nat) (cur : List Int), m = n2 - k ∧ k ≤ n2 ∧ s18 = .int .i64 (k : Int) ∧ allL n l (bits.take k) = some cur ∧ Own wn wr [.sl 3 1 (.slice a1 n c1) n (i64s cur)])
    case atStart => exact ⟨0, l, rfl, by omega, rfl, rfl, hO⟩
    case round =>
      obtain ⟨k, cur, rfl, hk, rfl, hcur, hO1⟩ := hrel
      clear hO
      have hO := hO1
      have HC := Lib.hid hcur
      clear hO1 hcur
      by_cases d0 : k < n2
      · have d1 : decide ((k : Int) < (n2 : Int)) = true := by simp; omega
        have hkb : k < bits.length := by rw [HLB.out]; exact d0
        have hx := List.getElem?_eq_getElem hkb
        have hnx := allL_take n l bits k hkb HC.out
        generalize bits[k] = x at hx hnx
        have HX := Lib.hid hx
        have HNX := Lib.hid hnx
        clear hx hnx
        obtain ⟨b0, off, rfl⟩ := HBR.out.place (by omega)
        by_cases hok : okAt n x
        · rw [if_pos hok] at HNX
          obtain ⟨pos, b⟩ := x
          obtain ⟨hp0, hpn⟩ := hok
          dsimp only at hp0 hpn
          obtain ⟨p, rfl⟩ : ∃ p : Nat, pos = (p : Int) := ⟨pos.toNat, by omega⟩
          have hpn' : p < n := by omega
          have hcl : cur.length = n := by rw [allL_length n l _ cur HC.out, HL.out]
          have hcm := allL_may n l _ cur HL.out HM.out HC.out
          have hg := i64s_get cur p (by omega)
          have hmy : mayB (cur[p]'(by omega)) = true := (List.all_eq_true.1 hcm) _ (List.getElem_mem _)
          have hput : i64s (put1 cur ⟨(p : Int), b⟩) = (i64s cur).set p (.int .i64 (learnI (cur[p]'(by omega)) b)) := by
            unfold put1 i64s
            dsimp only
            rw [Int.toNat_natCast, List.map_set, List.getD_eq_getElem?_getD, List.getElem?_eq_getElem (by omega)]
            rfl
          generalize cur[p]'(by omega) = y at hg hmy hput
          have HG := Lib.hid hg
          have HP := Lib.hid hput
          have HLE := Lib.hid (fun w => learn_calls y b w hmy)
          have e1 : decide ((p : Int) < 0) = false := by simp
          have e2 : decide ((n : Int) ≤ (p : Int)) = false := by simp; omega
          have e2' : decide (n ≤ p) = false := by simp; omega
          obtain ⟨g, rfl⟩ := hO.slPlace 0 rfl (by omega)
          clear hg hput hmy hcm hcl hp0 hpn
          go_wp2_with (first
            | ((with_reducible refine gG ?_); refine wpList_want rfl ?_)
            | ((with_reducible refine gAlloc (T := 40) ?_); refine own_alloc hO _ _ ibtz ?_; clear hO; intro bx ww hO)
            | ((with_reducible refine gLoad (T := 40) ?_); refine ld_bt (hO.rd HBR.out) HX.out rfl (by omega) (tA rfl) (tS rfl) ?_)
            | ((with_reducible refine gLoad ?_); first | refine ldX hO 0 rfl rfl (tA rfl) (tS rfl) ?_ | refine ldC hO 0 rfl rfl (tA rfl) rfl ?_)
            | ((with_reducible refine gStore ?_); first | (refine stX hO 0 rfl rfl rfl rfl rfl (tS rfl) ?_; clear hO; intro ww hO) | (refine stC hO 0 rfl rfl rfl (ltb rfl) rfl (tS rfl) ?_; clear hO; intro ww hO)))
          replace hO : Own wn _ [.blk bx (.cells (Bt.C ⟨(p : Int), b⟩) 40 (0,0)), .sl 3 1 (.slice (some ⟨g, 0, none⟩) n c1) n (i64s cur)] := hO
          refine wp_region_textS (fun w' => Own wn w' [.blk bx (.cells (Bt.C ⟨(p : Int), b⟩) 40 (0,0)), .sl 3 1 (.slice (some ⟨g, 0, none⟩) n c1) n (i64s cur)]) (fun op => match op with | .load _ _ => true | _ => false) (by kernel_rfl) (by kernel_rfl) hO.drew ?_
          replace hO := hO.drew
          generalize World.drew _ = wd at hO ⊢
          go_wp2_with (first
            | (((with_reducible refine gIL ?_); first | refine wpI_ldcS (fun w' hS => hS.blk 0 rfl) rfl rfl (tA rfl) rfl ?_); first | (refine wpI_act (by simp only [Act.put, List.setIfInBounds_toArray, List.set_cons_succ, List.set_cons_zero]; rfl) ?_) | skip)
            | ((with_reducible refine gIL ?_); refine wpI_ld1S (fun w' hS => (hS.slCell 1 rfl (by omega)).trans HG.out) rfl rfl (tA rfl) ?_; first | (refine wpI_act (by simp only [Act.put, List.setIfInBounds_toArray, List.set_cons_succ, List.set_cons_zero]; rfl) ?_) | skip)
            | (go_at_call 23; refine (HLE.out _).mono ?_; rintro e ww ⟨rfl, rfl⟩)
            | ((with_reducible refine gStore (T := 3) ?_); refine own_setElem hO 1 3 _ _ _ rfl rfl rfl (by omega) ii64s rfl ?_; clear hO; intro ww hO)
            | ((with_reducible refine gIS1 ?_); refine wpI_last (by kernel_rfl) rfl rfl (by kernel_rfl) ?_; intro K hK; have HK := Lib.hid hK; clear hK) | ((with_reducible refine gOnlyK0 HK.out ?_); clear HK K)
            | ((with_reducible refine gI ?_); refine wpI_step rfl rfl (by kernel_rfl) ?_; intro K hK; have HK := Lib.hid hK; clear hK) | ((with_reducible refine gI ?_); first | refine wpI_skip rfl ?_ | refine wpI_want rfl ?_) | ((with_reducible refine gOnlyK HK.out ?_ ?_); exact hO; clear HK K; first | (refine wpI_act (by simp only [Act.put, List.setIfInBounds_toArray, List.set_cons_succ, List.set_cons_zero]; rfl) ?_) | skip) | (with_reducible refine wpI_nil ?_))
          go_roundg (n2 - (k + 1))
          case measure => omega
          case rel => exact ⟨k + 1, put1 cur ⟨(p : Int), b⟩, rfl, by omega, by go_num, HNX.out, by rw [HP.out]; exact hO.tail⟩
        · rw [if_neg hok] at HNX
          have hno := allL_none n l bits (k + 1) HNX.out
          have HT4 : Hid (T = [] ∧ E = 4 ∧ N = 0) := by
            have hT := HT.out
            rw [hno] at hT
            have hE := HE.out
            rw [hno] at hE
            have hN := HN.out
            rw [hT] at hN
            exact ⟨hT, hE, hN⟩
          obtain ⟨rfl, rfl, rfl⟩ := HT4.out
          clear hno HT HE HN HT4 HNX
          obtain ⟨pos, b⟩ := x
          by_cases h0 : pos < 0
          · have e1 : decide (pos < 0) = true := by simpa using h0
            clear hok h0
            go_wp2_with (first
              | ((with_reducible refine gG ?_); refine wpList_want rfl ?_)
              | ((with_reducible refine gAlloc (T := 40) ?_); refine own_alloc hO _ _ ibtz ?_; clear hO; intro bx ww hO)
              | ((with_reducible refine gLoad (T := 40) ?_); refine ld_bt (hO.rd HBR.out) HX.out rfl (by omega) (tA rfl) (tS rfl) ?_)
              | ((with_reducible refine gLoad ?_); first | refine ldX hO 0 rfl rfl (tA rfl) (tS rfl) ?_ | refine ldC hO 0 rfl rfl (tA rfl) rfl ?_)
              | ((with_reducible refine gStore ?_); first | (refine stX hO 0 rfl rfl rfl rfl rfl (tS rfl) ?_; clear hO; intro ww hO) | (refine stC hO 0 rfl rfl rfl (ltb rfl) rfl (tS rfl) ?_; clear hO; intro ww hO)))
            go_ret2
            exact ⟨none, 0, rfl, hO.below, World.ownsRow_nil _ _ _ _⟩
          · have e1 : decide (pos < 0) = false := by simpa using h0
            have e2 : decide ((n : Int) ≤ pos) = true := by
              unfold okAt at hok
              dsimp only at hok
              simp; omega
            clear hok h0
            go_wp2_with (first
              | ((with_reducible refine gG ?_); refine wpList_want rfl ?_)
              | ((with_reducible refine gAlloc (T := 40) ?_); refine own_alloc hO _ _ ibtz ?_; clear hO; intro bx ww hO)
              | ((with_reducible refine gLoad (T := 40) ?_); refine ld_bt (hO.rd HBR.out) HX.out rfl (by omega) (tA rfl) (tS rfl) ?_)
              | ((with_reducible refine gLoad ?_); first | refine ldX hO 0 rfl rfl (tA rfl) (tS rfl) ?_ | refine ldC hO 0 rfl rfl (tA rfl) rfl ?_)
              | ((with_reducible refine gStore ?_); first | (refine stX hO 0 rfl rfl rfl rfl rfl (tS rfl) ?_; clear hO; intro ww hO) | (refine stC hO 0 rfl rfl rfl (ltb rfl) rfl (tS rfl) ?_; clear hO; intro ww hO)))
            go_ret2
            exact ⟨none, 0, rfl, hO.below, World.ownsRow_nil _ _ _ _⟩
      · obtain rfl : k = n2 := by omega
        have hall : allL n l bits = some cur := by
          have := HC.out
          rwa [List.take_of_length_le (by rw [HLB.out]; exact Nat.le_refl _)] at this
        have HT4 : Hid (T = cur ∧ E = 0 ∧ N = n) := by
          have hT := HT.out
          rw [hall] at hT
          have hE := HE.out
          rw [hall] at hE
          have hN := HN.out
          rw [hT] at hN
          refine ⟨hT, hE, ?_⟩
          rw [hN, ← HL.out]
          exact allL_length n l bits cur hall
        obtain ⟨rfl, rfl, rfl⟩ := HT4.out
        clear hall HT HE HN HT4
        go_wp2
        go_ret2
        exact ⟨a1, c1, rfl, hO.below, hO.row 0 rfl⟩
  · have hc1 : checkE l = 1 := by
      unfold checkE at hc ⊢
      split
      · rename_i h; rw [if_pos h] at hc; exact absurd rfl hc
      · rfl
    have HCK := Lib.hid (fun w h => by have := check_calls a n c l w h; rw [hc1] at this; exact this)
    have h1 : T = [] := by rw [← hT]; unfold allT; rw [if_neg hc]
    have h2 : E = 1 := by rw [← hE]; unfold allE; rw [if_neg hc]
    have h3 : N = 0 := by rw [← hN, hT, h1]; rfl
    have HR := Lib.hid hR
    subst h1 h2 h3
    clear hR hB hc hc1 hN hT hE
    generalize hW : w = wn at hO HR ⊢
    clear hW w
    go_enter Try.func12, Try.ntmps12
    go_wp2_with (first
      | (go_at_call 9; refine (HCK.out _ (hO.rd HR.out)).mono ?_; rintro e ww ⟨rfl, rfl⟩))
    go_ret2
    exact ⟨none, 0, rfl, hO.below, World.ownsRow_nil _ _ _ _⟩
end Go.Proofs.Ytldhfapigjcjiaa
