/- The walk of ProbOrder. -/
import Derived.Test.YtldhfapigjcjiaaQa
namespace Go.Proofs.Ytldhfapigjcjiaa
open Go.RowKit Go.Own Go.Bv Go.Ord Go.Eq Go.Opn Go.Pb

theorem ebt : Elem Try.prog 35 40 (.agg zB.C) 2 16 := ⟨Try.underlying35, by kernel_rfl, rfl, by decide⟩
theorem all_ok {l : List Int} {a : List Bt} (h : allE l a = 0) : ∃ X, allL l.length l a = some X ∧ allT l a = X ∧ X.length = l.length ∧ checkE X = 0 ∧ l.all mayB = true := by
  unfold allE at h
  split at h
  · rename_i hc
    split at h
    · rename_i hs
      obtain ⟨X, hX⟩ := Option.isSome_iff_exists.1 hs
      have hl : l.length ≤ 1024 ∧ l.all mayB = true := by
        unfold checkE at hc
        split at hc
        · assumption
        · cases hc
      have hXl := allL_length _ l a X hX
      refine ⟨X, hX, by unfold allT; rw [if_pos hc, hX]; rfl, hXl, ?_, hl.2⟩
      unfold checkE
      rw [if_pos ⟨by omega, allL_may _ l a X rfl hl.2 hX⟩]
    · cases h
  · cases h
theorem all_two {l : List Int} {a : List Bt} {X : List Int} (b : List Bt) (h : allL l.length l a = some X) (hE : allE l a = 0) : allT X b = allT l (a ++ b) ∧ allE X b = allE l (a ++ b) := by
  obtain ⟨X', hX, _, hXl, hcX, _⟩ := all_ok hE
  rw [h] at hX
  obtain rfl := Option.some.inj hX
  have hc : checkE l = 0 := by
    unfold allE at hE
    split at hE
    · assumption
    · cases hE
  unfold allT allE
  rw [if_pos hcX, if_pos hcX, if_pos hc, if_pos hc, allL_append, h, hXl]
  exact ⟨rfl, rfl⟩
theorem put1_get {l : List Int} {x : Bt} (p : Nat) (hx : okAt l.length x) (hp : p < l.length) : (put1 l x).getD p 0 = if x.at_ = (p : Int) then learnI (l.getD p 0) x.b else l.getD p 0 := by
  unfold okAt at hx
  unfold put1
  rw [List.getD_eq_getElem?_getD, List.getElem?_set]
  by_cases h : x.at_ = (p : Int)
  · have : x.at_.toNat = p := by omega
    rw [if_pos h, if_pos this, if_pos (by omega), this]; rfl
  · have : x.at_.toNat ≠ p := by omega
    rw [if_neg h, if_neg this, List.getD_eq_getElem?_getD]

set_option maxHeartbeats 4000000 in
set_option maxRecDepth 100000 in
theorem order_in (a : Option Addr) (n c : Nat) (l : List Int) (a2 : Option Addr) (n2 c2 : Nat) (ba : List Bt) (a3 : Option Addr) (n3 c3 : Nat) (bb : List Bt) (p : Nat) (w : World)
    (hR : Rd w 1 a n c (i64s l)) (hA : Rd w 2 a2 n2 c2 (bts ba)) (hB : Rd w 2 a3 n3 c3 (bts bb)) (hn : n ≤ 60) (hn2 : n2 ≤ 100) (hn3 : n3 ≤ 100) (hp : p < n) :
    Calls Try.prog 6 #[.slice a n c, .slice a2 n2 c2, .slice a3 n3 c3, .int .i64 (p : Int)] w fun e w' => e = .returned (.bool true) ∧ Below w.heap.size w w' := by
  have hO := Own.start w
  have hlen : l.length = n := by have := hR.len; rw [i64s_length] at this; omega
  have hla : ba.length = n2 := by have := hA.len; rw [bts_length] at this; omega
  have hlb : bb.length = n3 := by have := hB.len; rw [bts_length] at this; omega
  have d1 : decide ((60 : Int) < (n : Int)) = false := by simp; omega
  have d2 : decide ((100 : Int) < (n2 : Int)) = false := by simp; omega
  have d3 : decide ((100 : Int) < (n3 : Int)) = false := by simp; omega
  have d4 : decide ((p : Int) < 0) = false := by simp
  have d5 : decide ((n : Int) ≤ (p : Int)) = false := by simp; omega
  have d5' : decide (n ≤ p) = false := by simp; omega
  have HR := Lib.hid hR
  have HA := Lib.hid hA
  have HB := Lib.hid hB
  by_cases hE : allE l ba = 0
  · obtain ⟨X, hX, hT, hXl, hcX, hm⟩ := all_ok hE
    obtain ⟨t1, t2⟩ := all_two bb hX hE
    have h1 := fun w h h' => all_calls a n c l a2 n2 c2 ba w h h' n X 0 (by rw [hT, hXl, hlen]) hT hE
    obtain ⟨T2, hT2⟩ : ∃ T2, allT X bb = T2 := ⟨_, rfl⟩
    obtain ⟨E2, hE2⟩ : ∃ E2, allE X bb = E2 := ⟨_, rfl⟩
    obtain ⟨N2, hN2⟩ : ∃ N2, T2.length = N2 := ⟨_, rfl⟩
    have h2 := fun aX cX w h h' => all_calls aX n cX X a3 n3 c3 bb w h h' N2 T2 E2 (by rw [hT2, hN2]) hT2 hE2
    have h3 := fun aB cB w h h' => all_calls a n c l aB (n2 + n3) cB (ba ++ bb) w h h' N2 T2 E2 (by rw [← t1, hT2, hN2]) (by rw [← t1, hT2]) (by rw [← t2, hE2])
    have hs := fun (b1 b2 : Option Addr) (e1 e2 : Nat) w h h' => by have := sints_calls b1 b2 N2 e1 N2 e2 T2 T2 w h h'; rw [decide_eq_true rfl] at this; exact this
    have HH1 := Lib.hid h1
    have HH2 := Lib.hid h2
    have HH3 := Lib.hid h3
    have HS := Lib.hid hs
    have HX := Lib.hid hX
    have HM := Lib.hid hm
    have HL := Lib.hid hlen
    have HLA := Lib.hid hla
    have hgl := i64s_get l p (by omega)
    have HGL : Hid ((i64s l)[p]? = some (.int .i64 (l.getD p 0))) := by show _ = _; rw [hgl, List.getD_eq_getElem?_getD, List.getElem?_eq_getElem (by omega)]; rfl
    have HGX : Hid ((i64s X)[p]? = some (.int .i64 (X.getD p 0))) := by show _ = _; rw [i64s_get X p (by omega), List.getD_eq_getElem?_getD, List.getElem?_eq_getElem (by omega)]; rfl
    clear hR hA hB hE hX hT hXl hcX hm t1 t2 h1 h2 h3 hs hT2 hE2 hN2 hlen hla hlb hgl
    generalize hW : w = wn at hO HR HA HB ⊢
    clear hW w
    obtain ⟨b0, off, rfl⟩ := HR.out.place (by omega)
    have hn0 : 0 < n := by omega
    obtain ⟨v0, hv0⟩ : ∃ v, l.getD p 0 = v := ⟨_, rfl⟩
    rw [hv0] at HGL
    have HV0 := Lib.hid hv0
    clear hv0
    go_enter Try.func6, Try.ntmps6
    go_wp2_with (first
      | ((with_reducible refine gG ?_); refine wpList_want rfl ?_)
      | (go_at_call 8; refine (live_calls _).mono ?_; rintro e w1 ⟨rfl, rfl⟩)
      | (go_at_call 12; (with_reducible refine gCall #[.slice (some ⟨b0, off, none⟩) _ _, .slice _ n2 _] ?_); refine (HH1.out _ (hO.rd HR.out) (hO.rd HA.out)).mono ?_; rintro e ww ⟨aX, cX, rfl, hb, hr⟩; replace hO := hO.addRow hb hr; clear hb hr; obtain ⟨gX, rfl⟩ := hO.slPlace 0 rfl hn0)
      | (go_at_call 12; (with_reducible refine gCall #[_, .slice _ n3 _] ?_); refine (HH2.out _ _ _ (hO.rdAt 0 rfl) (hO.rd HB.out)).mono ?_; rintro e ww ⟨aY, cY, rfl, hb, hr⟩; replace hO := hO.addRow hb hr; clear hb hr)
      | ((with_reducible refine gAppendNil ?_); refine own_appendNil hO _ _ 35 ebt rfl rfl (hO.rd HA.out) (bts_one _) (by simp [maxLen]; omega) (by omega) ?_; clear hO; intro a5 c5 ww hO)
      | ((with_reducible refine gAppend ?_); refine own_append hO 0 _ _ 35 ebt rfl rfl rfl (hO.rd HB.out) (bts_one _) (n2 + n3) rfl (by simp [maxLen]; omega) (by omega) ?_; clear hO; intro a6 c6 ww hO)
      | (go_at_call 12; (with_reducible refine gCall #[_, .slice _ (n2 + n3) _] ?_); refine (HH3.out _ _ _ (hO.rd HR.out) (by rw [bts_append]; exact hO.rdAt 0 rfl)).mono ?_; rintro e ww ⟨aZ, cZ, rfl, hb, hr⟩; replace hO := hO.addRow hb hr; clear hb hr)
      | (go_at_call 13; refine (HS.out _ _ _ _ _ (hO.rdAt 2 rfl) (hO.rdAt 0 rfl)).mono ?_; rintro e ww ⟨rfl, hb⟩; replace hO := hO.call hb; clear hb)
      | ((with_reducible refine gLoad (T := 3) ?_); refine ld_rd (hO.rd HR.out) rfl HGL.out (tA rfl) ?_))
    replace hO : Own wn _ [.sl 3 1 (.slice (some ⟨gX, 0, none⟩) n cX) n (i64s X)] := hO.tail.tail.tail
    clear HH1 HH2 HH3 HS HGL HR HB
    go_loopg [16, 85] n2 (fun m s16 s85 wr => ∃ (k : Nat) (cur : List Int) (v : Int), m = n2 - k ∧ k ≤ n2 ∧ s85 = .int .i64 (k : Int) ∧ s16 = .int .i64 v ∧ cur.getD p 0 = v ∧ allL l.length l (ba.take k) = some cur ∧ Own wn wr [.sl 3 1 (.slice (some ⟨gX, 0, none⟩) n cX) n (i64s X)])
    case atStart => exact ⟨0, l, v0, rfl, by omega, rfl, rfl, HV0.out, rfl, hO⟩
    case round =>
      obtain ⟨k, cur, v, rfl, hk, rfl, rfl, hv, hcur, hO1⟩ := hrel
      clear hO
      have hO := hO1
      have HC := Lib.hid hcur
      have HV := Lib.hid hv
      clear hO1 hcur hv
      by_cases c1 : k < n2
      · have e1 : decide ((k : Int) < (n2 : Int)) = true := by simp; omega
        have hkb : k < ba.length := by rw [HLA.out]; exact c1
        have hx := List.getElem?_eq_getElem hkb
        have hnx := allL_take l.length l ba k hkb HC.out
        have hok : okAt l.length ba[k] := by
          by_cases h : okAt l.length ba[k]
          · exact h
          · rw [if_neg h] at hnx
            have := allL_none _ l ba (k + 1) hnx
            rw [HX.out] at this; cases this
        rw [if_pos hok] at hnx
        have hcl : cur.length = l.length := allL_length _ l _ cur HC.out
        have hcm := allL_may _ l _ cur rfl HM.out HC.out
        have hpc : p < cur.length := by rw [hcl, HL.out]; exact hp
        have hpg := put1_get (l := cur) (x := ba[k]) p (by rw [hcl]; exact hok) hpc
        have hmv : mayB v = true := by
          rw [← HV.out, List.getD_eq_getElem?_getD, List.getElem?_eq_getElem hpc]
          exact (List.all_eq_true.1 hcm) _ (List.getElem_mem _)
        rw [HV.out] at hpg
        obtain ⟨x, hxe⟩ : ∃ x, ba[k] = x := ⟨_, rfl⟩
        rw [hxe] at hx hnx hpg
        have HXX := Lib.hid hx
        have HNX := Lib.hid hnx
        have HPG := Lib.hid hpg
        have hle := fun w b => Learn_calls v b w
        rw [hmv] at hle
        simp only [if_true] at hle
        have HLE := Lib.hid hle
        clear hx hnx hok hcl hcm hpc hpg hmv hxe hkb hle
        obtain ⟨b1, off1, rfl⟩ := HA.out.place (by omega)
        obtain ⟨pos, b⟩ := x
        dsimp only at HPG
        by_cases c2 : pos = (p : Int)
        · subst c2
          have HP2 : Hid ((put1 cur ⟨(p : Int), b⟩).getD p 0 = learnI v b) := by show _ = _; rw [HPG.out, if_pos rfl]
          clear HPG
          go_wp2_with (first
            | ((with_reducible refine gAlloc (T := 40) ?_); refine own_alloc hO _ _ ibtz ?_; clear hO; intro bx ww hO)
            | ((with_reducible refine gLoad (T := 40) ?_); refine ld_bt (hO.rd HA.out) HXX.out rfl (by omega) (tA rfl) (tS rfl) ?_)
            | (go_at_call 10; refine (HLE.out _ _).mono ?_; rintro e w1 ⟨rfl, rfl⟩)
            | ((with_reducible refine gLoad ?_); first | refine ldX hO 0 rfl rfl (tA rfl) (tS rfl) ?_ | refine ldC hO 0 rfl rfl (tA rfl) rfl ?_)
            | ((with_reducible refine gStore ?_); first | (refine stX hO 0 rfl rfl rfl rfl rfl (tS rfl) ?_; clear hO; intro ww hO) | (refine stC hO 0 rfl rfl rfl (ltb rfl) rfl (tS rfl) ?_; clear hO; intro ww hO)))
          go_roundg (n2 - (k + 1))
          case measure => omega
          case rel => exact ⟨k + 1, _, learnI v b, rfl, by omega, by go_num, rfl, HP2.out, HNX.out, hO.tail⟩
        · have e2 : (pos == (p : Int)) = false := by simpa using c2
          have HP2 : Hid ((put1 cur ⟨pos, b⟩).getD p 0 = v) := by show _ = _; rw [HPG.out, if_neg c2]
          clear HPG
          go_wp2_with (first
            | ((with_reducible refine gAlloc (T := 40) ?_); refine own_alloc hO _ _ ibtz ?_; clear hO; intro bx ww hO)
            | ((with_reducible refine gLoad (T := 40) ?_); refine ld_bt (hO.rd HA.out) HXX.out rfl (by omega) (tA rfl) (tS rfl) ?_)
            | ((with_reducible refine gLoad ?_); first | refine ldX hO 0 rfl rfl (tA rfl) (tS rfl) ?_ | refine ldC hO 0 rfl rfl (tA rfl) rfl ?_)
            | ((with_reducible refine gStore ?_); first | (refine stX hO 0 rfl rfl rfl rfl rfl (tS rfl) ?_; clear hO; intro ww hO) | (refine stC hO 0 rfl rfl rfl (ltb rfl) rfl (tS rfl) ?_; clear hO; intro ww hO)))
          go_roundg (n2 - (k + 1))
          case measure => omega
          case rel => exact ⟨k + 1, _, v, rfl, by omega, by go_num, rfl, HP2.out, HNX.out, hO.tail⟩
      · obtain rfl : k = n2 := by omega
        have hcX : cur = X := by
          have := HC.out
          rw [List.take_of_length_le (by rw [HLA.out]; exact Nat.le_refl _), HX.out] at this
          exact (Option.some.inj this).symm
        subst hcX
        rw [HV.out] at HGX
        go_wp2_with (first
          | ((with_reducible refine gG ?_); refine wpList_want rfl ?_)
          | ((with_reducible refine gLoad (T := 3) ?_); refine ld_sl hO 0 rfl rfl HGX.out (tA rfl) ?_))
        go_ret
        exact ⟨rfl, hO.below⟩
  · have hb : ((allE l ba == 0)) = false := by simpa using hE
    obtain ⟨E, hE2⟩ : ∃ E, allE l ba = E := ⟨_, rfl⟩
    rw [hE2] at hb
    have h1 := fun w h h' => all_calls a n c l a2 n2 c2 ba w h h' _ _ E rfl rfl hE2
    obtain ⟨N, hN⟩ : ∃ N, (allT l ba).length = N := ⟨_, rfl⟩
    rw [hN] at h1
    have HH1 := Lib.hid h1
    clear hR hA hB hE h1 hE2 hN hlen hla hlb
    generalize hW : w = wn at hO HR HA HB ⊢
    clear hW w
    go_enter Try.func6, Try.ntmps6
    go_wp2_with (first
      | ((with_reducible refine gG ?_); refine wpList_want rfl ?_)
      | (go_at_call 8; refine (live_calls _).mono ?_; rintro e w1 ⟨rfl, rfl⟩)
      | (go_at_call 12; refine (HH1.out _ (hO.rd HR.out) (hO.rd HA.out)).mono ?_; rintro e ww ⟨aX, cX, rfl, hb, hr⟩; replace hO := hO.addRow hb hr; clear hb hr))
    go_ret
    exact ⟨rfl, hO.below⟩

set_option maxHeartbeats 2000000 in
set_option maxRecDepth 100000 in
theorem order_walk (a : Option Addr) (n c : Nat) (l : List Int) (a2 : Option Addr) (n2 c2 : Nat) (ba : List Bt) (a3 : Option Addr) (n3 c3 : Nat) (bb : List Bt) (x : Int) (w : World)
    (hR : Rd w 1 a n c (i64s l)) (hA : Rd w 2 a2 n2 c2 (bts ba)) (hB : Rd w 2 a3 n3 c3 (bts bb)) :
    Calls Try.prog 6 #[.slice a n c, .slice a2 n2 c2, .slice a3 n3 c3, .int .i64 x] w fun e w' => e = .returned (.bool true) ∧ Below w.heap.size w w' := by
  by_cases h : n ≤ 60 ∧ n2 ≤ 100 ∧ n3 ≤ 100 ∧ 0 ≤ x ∧ x < n
  · obtain ⟨p, rfl⟩ : ∃ p : Nat, x = (p : Int) := ⟨x.toNat, by omega⟩
    exact order_in a n c l a2 n2 c2 ba a3 n3 c3 bb p w hR hA hB h.1 h.2.1 h.2.2.1 (by omega)
  · have hO := Own.start w
    clear hR hA hB
    generalize hW : w = wn at hO ⊢
    clear hW w
    by_cases h1 : 60 < n
    · have d1 : decide ((60 : Int) < (n : Int)) = true := by simp; omega
      clear h
      go_enter Try.func6, Try.ntmps6
      go_wp2_with (first | ((with_reducible refine gG ?_); refine wpList_want rfl ?_) | (go_at_call 8; refine (live_calls _).mono ?_; rintro e w1 ⟨rfl, rfl⟩))
      go_ret
      exact ⟨rfl, hO.below⟩
    have d1 : decide ((60 : Int) < (n : Int)) = false := by simp; omega
    by_cases h2 : 100 < n2
    · have d2 : decide ((100 : Int) < (n2 : Int)) = true := by simp; omega
      clear h
      go_enter Try.func6, Try.ntmps6
      go_wp2_with (first | ((with_reducible refine gG ?_); refine wpList_want rfl ?_) | (go_at_call 8; refine (live_calls _).mono ?_; rintro e w1 ⟨rfl, rfl⟩))
      go_ret
      exact ⟨rfl, hO.below⟩
    have d2 : decide ((100 : Int) < (n2 : Int)) = false := by simp; omega
    by_cases h3 : 100 < n3
    · have d3 : decide ((100 : Int) < (n3 : Int)) = true := by simp; omega
      clear h
      go_enter Try.func6, Try.ntmps6
      go_wp2_with (first | ((with_reducible refine gG ?_); refine wpList_want rfl ?_) | (go_at_call 8; refine (live_calls _).mono ?_; rintro e w1 ⟨rfl, rfl⟩))
      go_ret
      exact ⟨rfl, hO.below⟩
    have d3 : decide ((100 : Int) < (n3 : Int)) = false := by simp; omega
    by_cases h4 : x < 0
    · have d4 : decide (x < 0) = true := by simpa using h4
      clear h
      go_enter Try.func6, Try.ntmps6
      go_wp2_with (first | ((with_reducible refine gG ?_); refine wpList_want rfl ?_) | (go_at_call 8; refine (live_calls _).mono ?_; rintro e w1 ⟨rfl, rfl⟩))
      go_ret
      exact ⟨rfl, hO.below⟩
    have d4 : decide (x < 0) = false := by simpa using h4
    have d5 : decide ((n : Int) ≤ x) = true := by simp; omega
    clear h
    go_enter Try.func6, Try.ntmps6
    go_wp2_with (first | ((with_reducible refine gG ?_); refine wpList_want rfl ?_) | (go_at_call 8; refine (live_calls _).mono ?_; rintro e w1 ⟨rfl, rfl⟩))
    go_ret
    exact ⟨rfl, hO.below⟩
end Go.Proofs.Ytldhfapigjcjiaa
