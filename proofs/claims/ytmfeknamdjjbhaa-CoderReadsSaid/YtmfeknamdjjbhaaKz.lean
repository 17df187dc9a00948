/- Walk: the document's Decode, whatever it is given. -/
import Derived.Test.YtmfeknamdjjbhaaKd
namespace Go.Proofs.Ytmfeknamdjjbhaa
open Go.RowKit Go.Own Go.Bv Go.Ord Go.Eq Go.Opn Go.Pb

theorem blv_one (l : List Bool) : ∀ u ∈ blv l, u.oneCell' = true := by
  intro u hu
  unfold blv at hu
  obtain ⟨x, _, rfl⟩ := List.mem_map.1 hu
  rfl

set_option maxHeartbeats 8000000 in
set_option maxRecDepth 100000 in
theorem rdec_calls (x : Int) (a : Option Addr) (m cap : Nat) (b : List (BitVec 8)) (a3 : Option Addr) (N c3 : Nat) (l : List Int) (w : World) (hR : Rd w 1 a m cap (u8s b)) (hA : Rd w 1 a3 N c3 (i64s l))
    (hm : m ≤ 10000000) (hN : N ≤ 1000000) (E : Int) (Q : List Bool) (K U : Nat) (hE : Go.Kc.decE x b l = E) (hQ : Go.Kc.decQ x b l = Q) (hK : Q.length = K) (hU : Go.Kc.decU x b l = U) :
    Calls Try.prog 19 #[.int .i64 x, .slice a m cap, .slice a3 N c3] w fun e w' => ∃ a' c', e = .returned (.tuple #[.slice a' K c', .int .i64 (U : Int), .int .i64 E]) ∧ Below w.heap.size w w' ∧ w'.ownsRow w.heap.size 4 1 (.slice a' K c') K (blv Q) := by
  have hO := Own.start w
  have hpl : l.length = N := by have := hA.len; rw [i64s_length] at this; omega
  have hbl : b.length = m := by have := hR.len; rw [u8s_length] at this; omega
  by_cases h0 : Go.Kc.opE x b = 0
  · obtain ⟨n, rfl, hn, ho⟩ := Go.Kc.opE_ok h0
    have hE' : E = (Go.Kc.rdS n b l).e := by rw [← hE]; unfold Go.Kc.decE; rw [if_pos h0, Int.toNat_natCast]
    have hQ' : Q = if E = 0 then (Go.Kc.rdS n b l).q else [] := by rw [← hQ]; unfold Go.Kc.decQ; rw [hE, Int.toNat_natCast]
    have hU' : U = if E = 0 then (Go.Kc.rdS n b l).r.used else 0 := by rw [← hU]; unfold Go.Kc.decU; rw [hE, Int.toNat_natCast]
    have hrok := fun k (hk : k ≤ l.length) => Go.Kc.rok_rdS (n := n) ho l k hk
    have hqln := fun k (hk : k ≤ l.length) (h : (Go.Kc.rdS n b (l.take k)).e = 0) => Go.Kc.rdS_len (n := n) (b := b) l k hk h
    obtain ⟨V, hV⟩ : ∃ V, Go.Kc.val ((b.drop 1).take 4) = V := ⟨_, rfl⟩
    have HNR := Lib.hid (fun w h => rstart_ok n hn a m cap b w h ho V hV)
    have HV : Hid ((Go.Kc.open_ n b).code = V) := hV
    have HR := Lib.hid hR
    have HA := Lib.hid hA
    have HPL := Lib.hid hpl
    have HROK := Lib.hid hrok
    have HQLN := Lib.hid hqln
    have HEE := Lib.hid hE'
    have HQQ := Lib.hid hQ'
    have HUU := Lib.hid hU'
    have HKK := Lib.hid hK
    have HM := Lib.hid hm
    have HB := Lib.hid hbl
    have HNN := Lib.hid hn
    clear hR hA hbl ho hpl hrok hqln hm hn hE' hQ' hU' hE hQ hK hU h0 hV
    generalize hWW : w = wn at hO HR HA ⊢
    clear hWW w
    go_enter Try.func19, Try.ntmps19
    go_wp2_with (first
      | (go_at_call 13; refine (HNR.out _ (hO.rd HR.out)).mono ?_; rintro e ww ⟨aP, cP, rfl, hb, hr⟩; replace hO := hO.addRow hb hr; clear hb hr)
      | ((with_reducible refine gAlloc ?_); refine own_alloc hO _ _ irgz ?_; clear hO; intro rb ww hO)
      | ((with_reducible refine gStore ?_); first | (refine stX hO 0 rfl rfl rfl rfl rfl (tS rfl) ?_; clear hO; intro ww hO) | (refine stC hO 0 rfl rfl rfl (ltb rfl) rfl (tS rfl) ?_; clear hO; intro ww hO)))
    have hO2 : Own wn ww [.blk rb (.cells (rgC (.slice aP n cP) (Go.Kc.open_ n b).span (Go.Kc.open_ n b).code (Go.Kc.open_ n b).used) 38 (0,0)), .sl 3 1 (.slice aP n cP) n (i64s (Go.Kc.open_ n b).p), .sl 4 1 (.slice none 0 0) 0 (blv [])] := by
      have h1 : Own wn ww [.blk rb (.cells (rgC (.slice aP n cP) (Go.Kc.open_ n b).span (Go.Kc.open_ n b).code (Go.Kc.open_ n b).used) 38 (0,0)), .sl 3 1 (.slice aP n cP) n (i64s (Go.Kc.open_ n b).p)] := by rw [HV.out]; exact hO
      have h := h1.add (Below.refl _ _) (r := .sl 4 1 (.slice none 0 0) 0 (blv [])) (World.ownsRow_nil _ _ _ _)
      exact h.perm (List.perm_append_comm (l₁ := [_]) (l₂ := [_, _]))
    clear hO
    have hO := hO2
    clear hO2
    go_loopg [11, 28] N (fun q s11 c wr => ∃ (k : Nat) (s : Go.Kc.Rs) (aP : Option Addr) (cP : Nat) (aO : Option Addr) (cO : Nat), q = N - k ∧ k ≤ N ∧ c = .int .i64 (k : Int) ∧ s11 = .slice aO k cO ∧ Hid (Go.Kc.rdS n b (l.take k) = s) ∧ Hid (s.e = 0) ∧ Own wn wr [.blk rb (.cells (rgC (.slice aP n cP) s.r.span s.r.code s.r.used) 38 (0,0)), .sl 3 1 (.slice aP n cP) n (i64s s.r.p), .sl 4 1 (.slice aO k cO) k (blv s.q)])
    case atStart => exact ⟨0, ⟨[], Go.Kc.open_ n b, 0⟩, aP, cP, none, 0, rfl, by omega, rfl, rfl, rfl, rfl, hO⟩
    case round =>
      obtain ⟨k, s, aP, cP, aO, cO, rfl, hk, rfl, rfl, HS, HS0, hO1⟩ := hrel
      clear hO
      have hO := hO1
      clear hO1
      by_cases hlt : k < N
      · have hb0 : decide ((k : Int) < (N : Int)) = true := decide_eq_true (by omega)
        have hkl : k < l.length := by rw [HPL.out]; exact hlt
        obtain ⟨b3, o3, rfl⟩ := HA.out.place (by omega)
        have hx := i64s_get l k hkl
        have hst := Go.Kc.rdS_next n b l k hkl
        rw [HS.out] at hst
        have hrk := HROK.out k (by omega)
        rw [HS.out] at hrk
        generalize l[k] = p at hx hst
        have HX := Lib.hid hx
        have HRK := Lib.hid hrk
        clear hx hrk hkl
        unfold Go.Kc.Rs.step at hst
        rw [if_pos HS0.out] at hst
        rcases Go.Kc.nxtE_cases n b s.r p with h | ⟨h, a, rfl, ha, hno⟩ | ⟨h, hbad⟩
        · rw [if_pos h] at hst
          obtain ⟨a, rfl, ha, hmay⟩ := Go.Kc.nxtE_ok h
          rw [Int.toNat_natCast] at hst
          obtain ⟨t, ht⟩ : ∃ t, s.r.next b a = t := ⟨_, rfl⟩
          obtain ⟨sb, hsb⟩ : ∃ x, s.r.set a = x := ⟨_, rfl⟩
          rw [ht, hsb] at hst
          have HF : Hid (blv (s.q ++ [sb]) = blv s.q ++ blv [sb]) := by show _ = _; unfold blv; rw [List.map_append]
          have HBT := Lib.hid hsb
          have HMAY := Lib.hid hmay
          have HP := Lib.hid ha
          have HT := Lib.hid ht
          have HST := Lib.hid hst
          clear h hst hsb hmay ha ht
          go_wp2_with (first
            | ((with_reducible refine gLoad ?_); refine ld_rd (hO.rd HA.out) rfl (HX.out) (tA rfl) ?_)
            | (go_at_call 16; refine (rnext_ok n HNN.out s.r b HRK.out aP cP _ _ _ _ (hO.rdAt 1 rfl) (hO.rd HR.out) HM.out a HP.out HMAY.out t HT.out).mono ?_; rw [HBT.out]; rintro e ww ⟨a5, c5, rfl, hb, hr⟩; replace hO := hO.addRow hb hr; clear hb hr)
            | ((with_reducible refine gAlloc ?_); refine own_alloc hO _ _ irgz ?_; clear hO; intro nx ww hO)
            | ((with_reducible refine gLoad ?_); first | refine ldX hO 0 rfl rfl (tA rfl) (tS rfl) ?_ | refine ldC hO 0 rfl rfl (tA rfl) rfl ?_ | refine ldX hO 1 rfl rfl (tA rfl) (tS rfl) ?_ | refine ldC hO 1 rfl rfl (tA rfl) rfl ?_ | refine ldX hO 2 rfl rfl (tA rfl) (tS rfl) ?_ | refine ldC hO 2 rfl rfl (tA rfl) rfl ?_)
            | ((with_reducible refine gStore ?_); first | (refine stX hO 0 rfl rfl rfl rfl rfl (tS rfl) ?_; clear hO; intro ww hO) | (refine stC hO 0 rfl rfl rfl (ltb rfl) rfl (tS rfl) ?_; clear hO; intro ww hO) | (refine stX hO 1 rfl rfl rfl rfl rfl (tS rfl) ?_; clear hO; intro ww hO) | (refine stC hO 1 rfl rfl rfl (ltb rfl) rfl (tS rfl) ?_; clear hO; intro ww hO) | (refine stX hO 2 rfl rfl rfl rfl rfl (tS rfl) ?_; clear hO; intro ww hO) | (refine stC hO 2 rfl rfl rfl (ltb rfl) rfl (tS rfl) ?_; clear hO; intro ww hO))
            | ((with_reducible refine gBuild ?_); refine own_build hO 47 1 _ ebool (blv [sb]).toArray (by omega) (by omega) (by kernel_rfl) rfl ?_; clear hO; intro g ww hO)
            | ((with_reducible refine gAppend ?_); refine own_append hO 5 _ _ 47 ebool rfl rfl rfl (hO.rdAt 0 rfl) (blv_one _) (k + 1) rfl (by simp [maxLen]; omega) (by omega) ?_; clear hO; intro a2 c2 ww hO))
          go_roundg (N - (k + 1))
          case measure => omega
          case rel =>
            replace hO : Own wn ww [.sl 3 1 (.slice a5 n c5) n (i64s t.p), .blk rb (.cells (rgC (.slice a5 n c5) t.span t.code t.used) 38 (0,0)), .sl 4 1 (.slice a2 (k + 1) c2) (k + 1) (blv s.q ++ blv [sb])] := hO.sub (List.Sublist.cons _ (List.Sublist.cons _ (List.Sublist.cons_cons _ (List.Sublist.cons_cons _ (List.Sublist.cons _ (List.Sublist.refl _))))))
            exact ⟨k + 1, ⟨s.q ++ [sb], t, 0⟩, a5, c5, a2, c2, rfl, by omega, by go_num, rfl, HST.out, rfl, by dsimp only; rw [HF.out]; exact hO.swap⟩
        · have hne : ¬ Go.Kc.nxtE n b s.r (a : Int) = 0 := by rw [h]; decide
          rw [if_neg hne, h] at hst
          have hsk := Go.Kc.rdS_stuck (n := n) (b := b) (l := l) (k := k + 1) (by rw [hst]; dsimp only; decide)
          rw [hst] at hsk
          have e1 : E = 2 := by rw [HEE.out, hsk]
          have e2 : Q = [] := by rw [HQQ.out, if_neg (by rw [e1]; decide)]
          have e3 : U = 0 := by rw [HUU.out, if_neg (by rw [e1]; decide)]
          have e4 : K = 0 := by rw [← HKK.out, e2]; rfl
          subst e1 e2 e3 e4
          have HMAY := Lib.hid hno
          have HP := Lib.hid ha
          clear h hst hne hsk hno ha HEE HQQ HUU HKK
          go_wp2_with (first
            | ((with_reducible refine gLoad ?_); refine ld_rd (hO.rd HA.out) rfl (HX.out) (tA rfl) ?_)
            | (go_at_call 16; refine (rnext_short n HNN.out s.r b HRK.out aP cP _ _ _ _ (hO.rdAt 1 rfl) (hO.rd HR.out) HM.out a HP.out HMAY.out).mono ?_; rintro e ww ⟨rfl, hb⟩; replace hO := hO.call hb; clear hb)
            | ((with_reducible refine gAlloc ?_); refine own_alloc hO _ _ irgz ?_; clear hO; intro nx ww hO)
            | ((with_reducible refine gLoad ?_); first | refine ldX hO 0 rfl rfl (tA rfl) (tS rfl) ?_ | refine ldC hO 0 rfl rfl (tA rfl) rfl ?_)
            | ((with_reducible refine gStore ?_); first | (refine stX hO 0 rfl rfl rfl rfl rfl (tS rfl) ?_; clear hO; intro ww hO) | (refine stC hO 0 rfl rfl rfl (ltb rfl) rfl (tS rfl) ?_; clear hO; intro ww hO)))
          go_ret3
          exact ⟨none, 0, rfl, hO.below, World.ownsRow_nil _ _ _ _⟩
        · have hne : ¬ Go.Kc.nxtE n b s.r p = 0 := by rw [h]; decide
          rw [if_neg hne, h] at hst
          have hsk := Go.Kc.rdS_stuck (n := n) (b := b) (l := l) (k := k + 1) (by rw [hst]; dsimp only; decide)
          rw [hst] at hsk
          have e1 : E = 4 := by rw [HEE.out, hsk]
          have e2 : Q = [] := by rw [HQQ.out, if_neg (by rw [e1]; decide)]
          have e3 : U = 0 := by rw [HUU.out, if_neg (by rw [e1]; decide)]
          have e4 : K = 0 := by rw [← HKK.out, e2]; rfl
          subst e1 e2 e3 e4
          have HBAD := Lib.hid hbad
          clear h hst hne hsk hbad HEE HQQ HUU HKK
          go_wp2_with (first
            | ((with_reducible refine gLoad ?_); refine ld_rd (hO.rd HA.out) rfl (HX.out) (tA rfl) ?_)
            | (go_at_call 16; refine (rnext_bad p n HBAD.out aP cP _ _ _ _ _).mono ?_; rintro e ww ⟨rfl, hb⟩; replace hO := hO.call hb; clear hb)
            | ((with_reducible refine gAlloc ?_); refine own_alloc hO _ _ irgz ?_; clear hO; intro nx ww hO)
            | ((with_reducible refine gLoad ?_); first | refine ldX hO 0 rfl rfl (tA rfl) (tS rfl) ?_ | refine ldC hO 0 rfl rfl (tA rfl) rfl ?_)
            | ((with_reducible refine gStore ?_); first | (refine stX hO 0 rfl rfl rfl rfl rfl (tS rfl) ?_; clear hO; intro ww hO) | (refine stC hO 0 rfl rfl rfl (ltb rfl) rfl (tS rfl) ?_; clear hO; intro ww hO)))
          go_ret3
          exact ⟨none, 0, rfl, hO.below, World.ownsRow_nil _ _ _ _⟩
      · obtain rfl : k = N := by omega
        have hall : Go.Kc.rdS n b l = s := by
          have h := HS.out
          rw [List.take_of_length_le (by rw [HPL.out]; omega)] at h
          exact h
        have e1 : E = 0 := by rw [HEE.out, hall, HS0.out]
        have e2 : Q = s.q := by rw [HQQ.out, if_pos e1, hall]
        have e3 : U = s.r.used := by rw [HUU.out, if_pos e1, hall]
        have e4 : K = k := by
          rw [← HKK.out, e2, ← HS.out]
          exact HQLN.out k (by rw [HPL.out]; exact Nat.le_refl _) (by rw [HS.out]; exact HS0.out)
        subst e1 e2 e3 e4
        clear hall HROK HQLN HEE HQQ HUU HKK
        go_wp2
        refine wp_region_text (by kernel_rfl) (by kernel_rfl) ?_
        replace hO := hO.drew
        generalize World.drew _ = wd at hO ⊢
        go_wp2_with (first
          | ((with_reducible refine gLoad ?_); first | refine ldX hO 0 rfl rfl (tA rfl) (tS rfl) ?_ | refine ldC hO 0 rfl rfl (tA rfl) rfl ?_)
          | ((with_reducible refine gI ?_); refine wpI_step rfl rfl (by kernel_rfl) ?_; intro K hK; have HK := Lib.hid hK; clear hK) | ((with_reducible refine gI ?_); first | refine wpI_skip rfl ?_ | refine wpI_want rfl ?_) | ((with_reducible refine gOnlyK0 HK.out ?_); clear HK K; first | (refine wpI_act (by simp only [Act.put, List.setIfInBounds_toArray, List.set_cons_succ, List.set_cons_zero]; rfl) ?_) | skip) | (with_reducible refine wpI_nil ?_))
        go_ret3
        exact ⟨aO, cO, rfl, hO.below, hO.row 2 rfl⟩
  · have e1 : E = Go.Kc.opE x b := by rw [← hE]; unfold Go.Kc.decE; rw [if_neg h0]
    have e2 : Q = [] := by rw [← hQ]; unfold Go.Kc.decQ; rw [hE, e1, if_neg h0]
    have e3 : U = 0 := by rw [← hU]; unfold Go.Kc.decU; rw [hE, e1, if_neg h0]
    have e4 : K = 0 := by rw [← hK, e2]; rfl
    rw [← e1] at h0
    have HNR := Lib.hid (fun w h => rstart_bad x a m cap b w h E e1.symm h0)
    have HR := Lib.hid hR
    subst e2 e3 e4
    have d0 : (E == 0) = false := by simpa using h0
    clear hR hA hbl hpl e1 hE hQ hK hU h0
    generalize hWW : w = wn at hO HR ⊢
    clear hWW w
    go_enter Try.func19, Try.ntmps19
    go_wp2_with (first
      | (go_at_call 13; refine (HNR.out _ (hO.rd HR.out)).mono ?_; rintro e ww ⟨rfl, hb⟩; replace hO := hO.call hb; clear hb)
      | ((with_reducible refine gAlloc ?_); refine own_alloc hO _ _ irgz ?_; clear hO; intro rb ww hO)
      | ((with_reducible refine gStore ?_); first | (refine stX hO 0 rfl rfl rfl rfl rfl (tS rfl) ?_; clear hO; intro ww hO) | (refine stC hO 0 rfl rfl rfl (ltb rfl) rfl (tS rfl) ?_; clear hO; intro ww hO)))
    go_ret3
    exact ⟨none, 0, rfl, hO.below, World.ownsRow_nil _ _ _ _⟩
end Go.Proofs.Ytmfeknamdjjbhaa
