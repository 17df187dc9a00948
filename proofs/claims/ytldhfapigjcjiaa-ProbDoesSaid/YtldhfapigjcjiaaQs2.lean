/- Walk of the document's All. -/
import Derived.Test.YtldhfapigjcjiaaQr
namespace Go.Own
open Go.RowKit
/-- of what a call has made, one thing -/
theorem Own.mem1 {w0 w : World} {L : List Res} (h : Own w0 w L) {r : Res} (hr : r ∈ L) : Own w0 w [r] :=
  ⟨h.below, fun q hq => by rw [List.mem_singleton] at hq; rw [hq]; exact h.mem r hr, List.pairwise_singleton _ _⟩
end Go.Own
namespace Go.Proofs.Ytldhfapigjcjiaa
open Go.RowKit Go.Own Go.Bv Go.Ord Go.Eq Go.Opn Go.Pb

set_option maxHeartbeats 4000000 in
set_option maxRecDepth 100000 in
theorem rAll_calls (a : Option Addr) (n c : Nat) (l : List Int) (a2 : Option Addr) (n2 c2 : Nat) (bits : List Bt) (w : World) (hR : Rd w 1 a n c (i64s l)) (hB : Rd w 2 a2 n2 c2 (bts bits)) (N : Nat) (T : List Int) (E : Int) (hN : (allT l bits).length = N) (hT : allT l bits = T) (hE : allE l bits = E) :
    Calls Try.prog 17 #[.slice a n c, .slice a2 n2 c2] w fun e w' => ∃ a' c', e = .returned (.tuple #[.slice a' N c', .int .i64 E]) ∧ Below w.heap.size w w' ∧ w'.ownsRow w.heap.size 3 1 (.slice a' N c') N (i64s T) := by
  have hO := Own.start w
  have hlen : l.length = n := by have := hR.len; rw [i64s_length] at this; omega
  have hlb : bits.length = n2 := by have := hB.len; rw [bts_length] at this; omega
  have hmb := Nat.le_trans hB.le hB.max
  unfold maxLen at hmb
  by_cases hc : checkE l = 0
  · have hn : n ≤ 1024 := by
      unfold checkE at hc
      split at hc
      · rename_i h; omega
      · cases hc
    have hm : l.all mayB = true := by
      unfold checkE at hc
      split at hc
      · rename_i h; exact h.2
      · cases hc
    have HCK := Lib.hid (fun w h => by have := rCheck_calls a n c l w h; rw [hc] at this; exact this)
    have HT : Hid (T = (allL n l bits).getD []) := by show _ = _; rw [← hT]; unfold allT; rw [if_pos hc, hlen]
    have HE : Hid (E = if (allL n l bits).isSome then 0 else 4) := by show _ = _; rw [← hE]; unfold allE; rw [if_pos hc, hlen]
    have HN : Hid (N = T.length) := by show _ = _; rw [← hN, hT]
    have HM := Lib.hid hm
    have HL := Lib.hid hlen
    have HLB := Lib.hid hlb
    have HR := Lib.hid hR
    have HBR := Lib.hid hB
    clear hR hB hm hc hN hT hE hlen hlb
    generalize hW : w = wn at hO HR HBR ⊢
    clear hW w
    go_enter Try.func17, Try.ntmps17
    go_wp2_with (first
      | (go_at_call 19; refine (HCK.out _ (hO.rd HR.out)).mono ?_; rintro e ww ⟨rfl, hb⟩; replace hO := hO.call hb; clear hb)
      | ((with_reducible refine gAppendNil ?_); refine own_appendNil hO _ _ 26 ei64 rfl rfl (hO.rd HR.out) (i64s_one _) (by simp [maxLen]; omega) (by omega) ?_; clear hO; intro a1 c1 ww hO))
    go_loopg [16] n2 (fun m s18 wr => ∃ (k : Nat) (cur : List Int), m = n2 - k ∧ k ≤ n2 ∧ s18 = .int .i64 (k : Int) ∧ allL n l (bits.take k) = some cur ∧ Own wn wr [.sl 3 1 (.slice a1 n c1) n (i64s cur)])
    case atStart => exact ⟨0, l, rfl, by omega, rfl, rfl, hO⟩
    case round =>
      obtain ⟨k, cur, rfl, hk, rfl, hcur, hO1⟩ := hrel
      clear hO
      have hO := hO1
      have HC := Lib.hid hcur
      clear hO1 hcur
      by_cases d0 : k < n2
      · have d1 : decide ((k : Int) < (n2 : Int)) = true := by simp; omega
        have hkb : k < bits.length := by rw [HLB.out]; exact d0
        have hx := List.getElem?_eq_getElem hkb
        have hnx := allL_take n l bits k hkb HC.out
        generalize bits[k] = x at hx hnx
        have HX := Lib.hid hx
        have HNX := Lib.hid hnx
        clear hx hnx
        obtain ⟨b0, off, rfl⟩ := HBR.out.place (by omega)
        by_cases hok : okAt n x
        · rw [if_pos hok] at HNX
          obtain ⟨pos, b⟩ := x
          obtain ⟨hp0, hpn⟩ := hok
          dsimp only at hp0 hpn
          obtain ⟨p, rfl⟩ : ∃ p : Nat, pos = (p : Int) := ⟨pos.toNat, by omega⟩
          have hpn' : p < n := by omega
          have hcl : cur.length = n := by rw [allL_length n l _ cur HC.out, HL.out]
          have hcm := allL_may n l _ cur HL.out HM.out HC.out
          have hg := i64s_get cur p (by omega)
          have hmy : mayB (cur[p]'(by omega)) = true := (List.all_eq_true.1 hcm) _ (List.getElem_mem _)
          have hput : i64s (put1 cur ⟨(p : Int), b⟩) = (i64s cur).set p (.int .i64 (learnI (cur[p]'(by omega)) b)) := by
            unfold put1 i64s
            dsimp only
            rw [Int.toNat_natCast, List.map_set, List.getD_eq_getElem?_getD, List.getElem?_eq_getElem (by omega)]
            rfl
          generalize cur[p]'(by omega) = y at hg hmy hput
          have HG := Lib.hid hg
          have HP := Lib.hid hput
          have HLE := Lib.hid (fun w => by have := rLearn_calls y b w; rw [hmy] at this; exact this)
          have e1 : decide ((p : Int) < 0) = false := by simp
          have e2 : decide ((n : Int) ≤ (p : Int)) = false := by simp; omega
          have e2' : decide (n ≤ p) = false := by simp; omega
          obtain ⟨g, rfl⟩ := hO.slPlace 0 rfl (by omega)
          clear hg hput hmy hcm hcl hp0 hpn
          go_wp2_with (first
            | ((with_reducible refine gG ?_); refine wpList_want rfl ?_)
            | ((with_reducible refine gAlloc (T := 40) ?_); refine own_alloc hO _ _ ibtz ?_; clear hO; intro bx ww hO)
            | ((with_reducible refine gLoad (T := 40) ?_); refine ld_bt (hO.rd HBR.out) HX.out rfl (by omega) (tA rfl) (tS rfl) ?_)
            | ((with_reducible refine gLoad ?_); first | refine ldX hO 0 rfl rfl (tA rfl) (tS rfl) ?_ | refine ldC hO 0 rfl rfl (tA rfl) rfl ?_)
            | ((with_reducible refine gStore ?_); first | (refine stX hO 0 rfl rfl rfl rfl rfl (tS rfl) ?_; clear hO; intro ww hO) | (refine stC hO 0 rfl rfl rfl (ltb rfl) rfl (tS rfl) ?_; clear hO; intro ww hO)))
          replace hO : Own wn _ [.blk bx (.cells (Bt.C ⟨(p : Int), b⟩) 40 (0,0)), .sl 3 1 (.slice (some ⟨g, 0, none⟩) n c1) n (i64s cur)] := hO
          refine wp_region_textS (fun w' => Own wn w' [.blk bx (.cells (Bt.C ⟨(p : Int), b⟩) 40 (0,0))]) (fun op => match op with | .load _ (.tmp 37) => false | .load _ _ => true | _ => false) (by kernel_rfl) (by kernel_rfl) (hO.drew.mem1 (by simp)) ?_
          replace hO := hO.drew
          generalize World.drew _ = wd at hO ⊢
          go_wp2_with (first
            | (((with_reducible refine gIL ?_); first | refine wpI_ldcS (fun w' hS => hS.blk 0 rfl) rfl rfl (tA rfl) rfl ?_); first | (refine wpI_act (by simp only [Act.put, List.setIfInBounds_toArray, List.set_cons_succ, List.set_cons_zero]; rfl) ?_) | skip)
            | ((with_reducible refine gLoad (T := 3) ?_); refine ld_sl hO 1 rfl rfl HG.out (tA rfl) ?_)
            | (go_at_call 14; refine (HLE.out _).mono ?_; simp only [if_true]; rintro e ww ⟨rfl, rfl⟩)
            | ((with_reducible refine gStore (T := 3) ?_); refine own_setElem hO 1 3 _ _ _ rfl rfl rfl (by omega) ii64s rfl ?_; clear hO; intro ww hO)
            | ((with_reducible refine gI ?_); refine wpI_step rfl rfl (by kernel_rfl) ?_; intro K hK; have HK := Lib.hid hK; clear hK) | ((with_reducible refine gI ?_); first | refine wpI_skip rfl ?_ | refine wpI_want rfl ?_) | ((with_reducible refine gOnlyK HK.out ?_ ?_); exact hO.mem1 (by simp); clear HK K; first | (refine wpI_act (by simp only [Act.put, List.setIfInBounds_toArray, List.set_cons_succ, List.set_cons_zero]; rfl) ?_) | skip) | (with_reducible refine wpI_nil ?_))
          go_roundg (n2 - (k + 1))
          case measure => omega
          case rel => exact ⟨k + 1, put1 cur ⟨(p : Int), b⟩, rfl, by omega, by go_num, HNX.out, by rw [HP.out]; exact hO.tail⟩
        · rw [if_neg hok] at HNX
          have hno := allL_none n l bits (k + 1) HNX.out
          have HT4 : Hid (T = [] ∧ E = 4 ∧ N = 0) := by
            have hT := HT.out
            rw [hno] at hT
            have hE := HE.out
            rw [hno] at hE
            have hN := HN.out
            rw [hT] at hN
            exact ⟨hT, hE, hN⟩
          obtain ⟨rfl, rfl, rfl⟩ := HT4.out
          clear hno HT HE HN HT4 HNX
          obtain ⟨pos, b⟩ := x
          by_cases h0 : pos < 0
          · have e1 : decide (pos < 0) = true := by simpa using h0
            clear hok h0
            go_wp2_with (first
              | ((with_reducible refine gG ?_); refine wpList_want rfl ?_)
              | ((with_reducible refine gAlloc (T := 40) ?_); refine own_alloc hO _ _ ibtz ?_; clear hO; intro bx ww hO)
              | ((with_reducible refine gLoad (T := 40) ?_); refine ld_bt (hO.rd HBR.out) HX.out rfl (by omega) (tA rfl) (tS rfl) ?_)
              | ((with_reducible refine gLoad ?_); first | refine ldX hO 0 rfl rfl (tA rfl) (tS rfl) ?_ | refine ldC hO 0 rfl rfl (tA rfl) rfl ?_)
              | ((with_reducible refine gStore ?_); first | (refine stX hO 0 rfl rfl rfl rfl rfl (tS rfl) ?_; clear hO; intro ww hO) | (refine stC hO 0 rfl rfl rfl (ltb rfl) rfl (tS rfl) ?_; clear hO; intro ww hO)))
            go_ret2
            exact ⟨none, 0, rfl, hO.below, World.ownsRow_nil _ _ _ _⟩
          · have e1 : decide (pos < 0) = false := by simpa using h0
            have e2 : decide ((n : Int) ≤ pos) = true := by
              unfold okAt at hok
              dsimp only at hok
              simp; omega
            clear hok h0
            go_wp2_with (first
              | ((with_reducible refine gG ?_); refine wpList_want rfl ?_)
              | ((with_reducible refine gAlloc (T := 40) ?_); refine own_alloc hO _ _ ibtz ?_; clear hO; intro bx ww hO)
              | ((with_reducible refine gLoad (T := 40) ?_); refine ld_bt (hO.rd HBR.out) HX.out rfl (by omega) (tA rfl) (tS rfl) ?_)
              | ((with_reducible refine gLoad ?_); first | refine ldX hO 0 rfl rfl (tA rfl) (tS rfl) ?_ | refine ldC hO 0 rfl rfl (tA rfl) rfl ?_)
              | ((with_reducible refine gStore ?_); first | (refine stX hO 0 rfl rfl rfl rfl rfl (tS rfl) ?_; clear hO; intro ww hO) | (refine stC hO 0 rfl rfl rfl (ltb rfl) rfl (tS rfl) ?_; clear hO; intro ww hO)))
            go_ret2
            exact ⟨none, 0, rfl, hO.below, World.ownsRow_nil _ _ _ _⟩
      · obtain rfl : k = n2 := by omega
        have hall : allL n l bits = some cur := by
          have := HC.out
          rwa [List.take_of_length_le (by rw [HLB.out]; exact Nat.le_refl _)] at this
        have HT4 : Hid (T = cur ∧ E = 0 ∧ N = n) := by
          have hT := HT.out
          rw [hall] at hT
          have hE := HE.out
          rw [hall] at hE
          have hN := HN.out
          rw [hT] at hN
          refine ⟨hT, hE, ?_⟩
          rw [hN, ← HL.out]
          exact allL_length n l bits cur hall
        obtain ⟨rfl, rfl, rfl⟩ := HT4.out
        clear hall HT HE HN HT4
        go_wp2
        go_ret2
        exact ⟨a1, c1, rfl, hO.below, hO.row 0 rfl⟩
  · have hc1 : checkE l = 1 := by
      unfold checkE at hc ⊢
      split
      · rename_i h; rw [if_pos h] at hc; exact absurd rfl hc
      · rfl
    have HCK := Lib.hid (fun w h => by have := rCheck_calls a n c l w h; rw [hc1] at this; exact this)
    have h1 : T = [] := by rw [← hT]; unfold allT; rw [if_neg hc]
    have h2 : E = 1 := by rw [← hE]; unfold allE; rw [if_neg hc]
    have h3 : N = 0 := by rw [← hN, hT, h1]; rfl
    have HR := Lib.hid hR
    subst h1 h2 h3
    clear hR hB hc hc1 hN hT hE
    generalize hW : w = wn at hO HR ⊢
    clear hW w
    go_enter Try.func17, Try.ntmps17
    go_wp2_with (first
      | (go_at_call 19; refine (HCK.out _ (hO.rd HR.out)).mono ?_; rintro e ww ⟨rfl, hb⟩; replace hO := hO.call hb; clear hb))
    go_ret2
    exact ⟨none, 0, rfl, hO.below, World.ownsRow_nil _ _ _ _⟩
end Go.Proofs.Ytldhfapigjcjiaa
