/- The walk of the document's Absorb. -/
import Derived.Test.YtekiloagckkneaaDoorPb
import Derived.Test.YtekiloagckkneaaDoorPf
import Derived.Test.YtekiloagckkneaaDoorPg
import Derived.Test.YtekiloagckkneaaDoorH
namespace Go.Proofs.YtekiloagckkneaaDoor
open Go.RowKit Go.Own Go.Bv Go.Ord Go.Eq

set_option maxHeartbeats 2000000 in
set_option maxRecDepth 100000 in
theorem rabsorb_ok (s : St) (a : Option Addr) (n cap : Nat) (bs : List (BitVec 8)) (w : World) (hR : Rd w 1 a n cap (u8s bs)) (hn : n ≤ 131072) :
    Calls Tryd.prog 38 #[.agg s.C, .slice a n cap] w fun e w' => e = .returned (.tuple #[.agg (s.absorb bs).C, .int .i64 0]) ∧ Below w.heap.size w w' := by
  have hO := Own.start w
  have hlen : bs.length = n := by have := hR.len; rw [u8s_length] at this; omega
  have HL := Lib.hid hlen
  have HR := Lib.hid hR
  obtain ⟨M, hM⟩ : ∃ M, M = n / 8 + 1 := ⟨_, rfl⟩
  have HA : Hid (s.absorb bs = s.absK bs M) := by show _ = _; unfold St.absorb; rw [hlen, hM]
  rw [HA.out]
  have HM := Lib.hid hM
  clear hR hlen HA hM
  have d1 : decide ((131072 : Int) < (n : Int)) = false := by simp; omega
  generalize hW : w = wn at hO HR ⊢
  clear hW w
  go_enter Tryd.func38, Tryd.ntmps38
  go_wp2_with (first
    | ((with_reducible refine gBox ?_); first | (refine bxA hO rfl ?_; clear hO; intro b ww hO) | (refine bx1 hO rfl rfl ?_; clear hO; intro b ww hO))
    | ((with_reducible refine gAlloc ?_); refine own_alloc hO _ _ iwz ?_; clear hO; intro rr ww hO)
    | ((with_reducible refine gBuild ?_); refine own_build hO 28 1 _ eu8 (u8s [128#8]).toArray (by omega) (by omega) (by simp [go_sem, Instr.fill, u8s]) rfl ?_; clear hO; intro g w2 hO)
    | ((with_reducible refine gAppendNil ?_); refine own_appendNil hO _ _ 28 eu8 rfl rfl (hO.rd HR.out) (u8s_one _) (by simp [maxLen]; omega) (by omega) ?_; clear hO; intro a1 c1 ww hO)
    | ((with_reducible refine gAppend ?_); refine own_append hO 1 _ _ 28 eu8 rfl rfl rfl (hO.rdAt 0 rfl) (u8s_one _) (n + 1) rfl (by simp [maxLen]; omega) (by omega) ?_; clear hO; intro a2 c2 ww hO))
  replace hO : Own wn ww [.sl 5 1 (.slice a2 (n + 1 + 0) c2) (n + 1 + 0) (u8s (padK bs 0)), .blk rr (.cells St.zero.C 24 (0,0)), .blk b (.cells s.C 24 (0,0))] := by
    rw [padK_zero, u8s_append]; exact hO.tail
  go_loopg [6] 8 (fun m v wr => ∃ (i : Nat) (a : Option Addr) (cp : Nat), m = 8 - i ∧ i + n % 8 ≤ 7 ∧ v = .slice a (n + 1 + i) cp ∧ Own wn wr [.sl 5 1 (.slice a (n + 1 + i) cp) (n + 1 + i) (u8s (padK bs i)), .blk rr (.cells St.zero.C 24 (0,0)), .blk b (.cells s.C 24 (0,0))])
  case atStart => exact ⟨0, a2, c2, rfl, by omega, rfl, hO⟩
  case round =>
    obtain ⟨i, a3, c3, rfl, hi, rfl, hO1⟩ := hrel
    clear hO
    have hO := hO1
    clear hO1
    obtain ⟨N, hN⟩ : ∃ N, N = n + 1 + i := ⟨_, rfl⟩
    rw [← hN] at hO ⊢
    by_cases hlt : i + n % 8 < 7
    · have hb0 : ((N : Int) % 8 != 0) = true := by simp; omega
      have hN2 : N + 1 = n + 1 + (i + 1) := by omega
      have hN3 : N ≤ 131080 := by omega
      have HN2 := Lib.hid hN2
      clear hN hN2
      go_wp2_with (first
        | ((with_reducible refine gBuild ?_); refine own_build hO 28 1 _ eu8 (u8s [0#8]).toArray (by omega) (by omega) (by simp [go_sem, Instr.fill, u8s]) rfl ?_; clear hO; intro g w2 hO)
        | ((with_reducible refine gAppend ?_); refine own_append hO 1 _ _ 28 eu8 rfl rfl rfl (hO.rdAt 0 rfl) (u8s_one _) (N + 1) rfl (by simp [maxLen]; omega) (by omega) ?_; clear hO; intro a4 c4 ww hO))
      go_roundg (8 - (i + 1))
      case measure => omega
      case rel =>
        refine ⟨i + 1, a4, c4, rfl, by omega, by rw [HN2.out], ?_⟩
        rw [padK_succ, u8s_append, ← HN2.out]
        exact hO.tail
    · have hb0 : ((N : Int) % 8 != 0) = false := by simp; omega
      have hN8 : N = 8 * M := by have := HM.out; omega
      obtain ⟨g, rfl⟩ := hO.slPlace 0 rfl (by omega)
      have hc3 : N ≤ c3 ∧ c3 ≤ maxLen := by have := hO.rdAt 0 rfl; exact ⟨this.le, this.max⟩
      obtain ⟨hc3, hc4⟩ := hc3
      unfold maxLen at hc4
      have HP4 : ∀ p, p + 4 ≤ N → Hid (((u8s (padK bs i)).drop p).take 4 = u8s [byteAt bs p, byteAt bs (p + 1), byteAt bs (p + 2), byteAt bs (p + 3)]) := fun p hp => padK_four bs i p (by rw [HL.out, ← hN]; exact hp)
      obtain ⟨L, hL⟩ : ∃ L, u8s (padK bs i) = L := ⟨_, rfl⟩
      rw [hL] at hO HP4
      have HN8 := Lib.hid hN8
      clear hN hN8 hL hi hlt
      go_wp2
      go_loopg [7] M (fun m c wr => ∃ k : Nat, m = M - k ∧ k ≤ M ∧ c = .int .i64 ((8 * k : Nat) : Int) ∧ Own wn wr [.sl 5 1 (.slice (some ⟨g, 0, none⟩) N c3) N L, .blk rr (.cells St.zero.C 24 (0,0)), .blk b (.cells (s.absK bs k).C 24 (0,0))])
      case atStart => exact ⟨0, rfl, by omega, rfl, hO⟩
      case round =>
        obtain ⟨k, rfl, hk, rfl, hO1⟩ := hrel
        clear hO
        have hO := hO1
        clear hO1
        by_cases hlt : k < M
        · have HS : Hid (s.absK bs (k + 1) = ((s.absK bs k).mixAt bs (8 * k)).perm) := rfl
          obtain ⟨p, hp⟩ : ∃ p, 8 * k = p := ⟨_, rfl⟩
          have hp2 : p + 8 = 8 * (k + 1) := by omega
          have HP2 := Lib.hid hp2
          have hpN : p + 8 ≤ N := by have := HN8.out; omega
          rw [hp] at HS ⊢
          rw [St.mix_halves] at HS
          have hb1 : decide ((p : Int) < (N : Int)) = true := by simp; omega
          have e1 := HP4 p (by omega)
          have e2 := HP4 (p + 4) (by omega)
          have f1 : Hid ((s.absK bs k).mixA bs p = ⟨Go.Bva.bxor (s.absK bs k).a (of4 (byteAt bs p) (byteAt bs (p + 1)) (byteAt bs (p + 2)) (byteAt bs (p + 3))), (s.absK bs k).b, (s.absK bs k).c, (s.absK bs k).d⟩) := rfl
          have f2 : ∀ u : St, Hid (u.mixB bs p = ⟨u.a, Go.Bva.bxor u.b (of4 (byteAt bs (p + 4)) (byteAt bs (p + 4 + 1)) (byteAt bs (p + 4 + 2)) (byteAt bs (p + 4 + 3))), u.c, u.d⟩) := fun u => rfl
          generalize s.absK bs k = u at *
          generalize byteAt bs p = x0 at *
          generalize byteAt bs (p + 1) = x1 at *
          generalize byteAt bs (p + 2) = x2 at *
          generalize byteAt bs (p + 3) = x3 at *
          generalize byteAt bs (p + 4 + 1) = x5 at *
          generalize byteAt bs (p + 4 + 2) = x6 at *
          generalize byteAt bs (p + 4 + 3) = x7 at *
          generalize byteAt bs (p + 4) = x4 at *
          obtain ⟨u1, hu1⟩ : ∃ u1, u.mixA bs p = u1 := ⟨_, rfl⟩
          obtain ⟨u2, hu2⟩ : ∃ u2, u1.mixB bs p = u2 := ⟨_, rfl⟩
          obtain ⟨u3, hu3⟩ : ∃ u3, u2.perm = u3 := ⟨_, rfl⟩
          have f2' := f2 u1
          rw [hu1] at f1 HS
          rw [hu2] at f2' HS
          rw [hu3] at HS
          have HU3 := Lib.hid hu3
          clear hp hp2 hu1 hu2 hu3 f2 HP4
          have dc1 : ¬ c3 = p := by omega
          have dc2 : ¬ c3 = p + 4 := by omega
          go_wp2
          refine wp_region_textS (fun w' => Own wn w' [.sl 5 1 (.slice (some ⟨g, 0, none⟩) N c3) N L, .blk rr (.cells St.zero.C 24 (0,0)), .blk b (.cells u.C 24 (0,0))]) (fun op => match op with | .load _ _ => true | _ => false) (by kernel_rfl) (by kernel_rfl) hO.drew ?_
          replace hO := hO.drew
          generalize World.drew _ = wd at hO ⊢
          go_wp2_with (first
            | ((with_reducible refine gIL ?_); refine wpI_ldcS (fun w' hS => hS.blk 2 rfl) rfl rfl (tA rfl) rfl ?_; first | (refine wpI_act (by simp only [Act.put, List.setIfInBounds_toArray, List.set_cons_succ, List.set_cons_zero]; rfl) ?_) | skip)
            | ((with_reducible refine Go.Bva.gBin (op := .xor) ?_); refine Go.Bva.xor_u32 rfl rfl ?_)
            | (go_at_call 43; refine (four_calls g p (c3 - p) x0 x1 x2 x3 _ (by rw [← e1.out]; have := (hO.rdAt 0 rfl).cut p 4 (by omega); rwa [Nat.zero_add] at this)).mono ?_; rintro e ww ⟨rfl, hb⟩; replace hO := hO.call hb; clear hb)
            | ((with_reducible refine gIS1 ?_); refine wpI_last (by kernel_rfl) rfl rfl (by kernel_rfl) ?_; intro K hK; have HK := Lib.hid hK; clear hK) | ((with_reducible refine gOnlyK0 HK.out ?_); clear HK K)
            | ((with_reducible refine gStore ?_); refine stC hO 2 rfl rfl rfl (ltb rfl) rfl (tS rfl) ?_; clear hO; intro ww hO)
            | ((with_reducible refine gI ?_); refine wpI_step rfl rfl (by kernel_rfl) ?_; intro K hK; have HK := Lib.hid hK; clear hK) | ((with_reducible refine gI ?_); first | refine wpI_skip rfl ?_ | refine wpI_want rfl ?_) | ((with_reducible refine gOnlyK HK.out ?_ ?_); exact hO; clear HK K; first | (refine wpI_act (by simp only [Act.put, List.setIfInBounds_toArray, List.set_cons_succ, List.set_cons_zero]; rfl) ?_) | skip) | (with_reducible refine wpI_nil ?_))
          replace hO : Own wn ww [.sl 5 1 (.slice (some ⟨g, 0, none⟩) N c3) N L, .blk rr (.cells St.zero.C 24 (0,0)), .blk b (.cells u1.C 24 (0,0))] := by rw [f1.out]; exact hO
          refine wp_region_textS (fun w' => Own wn w' [.sl 5 1 (.slice (some ⟨g, 0, none⟩) N c3) N L, .blk rr (.cells St.zero.C 24 (0,0)), .blk b (.cells u1.C 24 (0,0))]) (fun op => match op with | .load _ _ => true | _ => false) (by kernel_rfl) (by kernel_rfl) hO.drew ?_
          replace hO := hO.drew
          generalize World.drew _ = wd at hO ⊢
          go_wp2_with (first
            | ((with_reducible refine gIL ?_); refine wpI_ldcS (fun w' hS => hS.blk 2 rfl) rfl rfl (tA rfl) rfl ?_; first | (refine wpI_act (by simp only [Act.put, List.setIfInBounds_toArray, List.set_cons_succ, List.set_cons_zero]; rfl) ?_) | skip)
            | ((with_reducible refine Go.Bva.gBin (op := .xor) ?_); refine Go.Bva.xor_u32 rfl rfl ?_)
            | (go_at_call 43; refine (four_calls g (p + 4) (c3 - (p + 4)) x4 x5 x6 x7 _ (by rw [← e2.out]; have := (hO.rdAt 0 rfl).cut (p + 4) 4 (by omega); rwa [Nat.zero_add] at this)).mono ?_; rintro e ww ⟨rfl, hb⟩; replace hO := hO.call hb; clear hb)
            | ((with_reducible refine gIS1 ?_); refine wpI_last (by kernel_rfl) rfl rfl (by kernel_rfl) ?_; intro K hK; have HK := Lib.hid hK; clear hK) | ((with_reducible refine gOnlyK0 HK.out ?_); clear HK K)
            | ((with_reducible refine gStore ?_); refine stC hO 2 rfl rfl rfl (ltb rfl) rfl (tS rfl) ?_; clear hO; intro ww hO; replace hO : Own wn ww [.sl 5 1 (.slice (some ⟨g, 0, none⟩) N c3) N L, .blk rr (.cells St.zero.C 24 (0,0)), .blk b (.cells u2.C 24 (0,0))] := by rw [f2'.out]; exact hO)
            | ((with_reducible refine gLoad ?_); refine ldX hO 2 rfl rfl (tA rfl) (tS rfl) ?_)
            | ((with_reducible refine gStore ?_); refine stX hO 2 rfl rfl rfl rfl rfl (tS rfl) ?_; clear hO; intro ww hO)
            | (go_at_call 44; refine (rperm_calls u2 _).mono ?_; rw [HU3.out]; rintro e ww ⟨rfl, hb⟩; replace hO := hO.call hb; clear hb)
            | ((with_reducible refine gI ?_); refine wpI_step rfl rfl (by kernel_rfl) ?_; intro K hK; have HK := Lib.hid hK; clear hK) | ((with_reducible refine gI ?_); first | refine wpI_skip rfl ?_ | refine wpI_want rfl ?_) | ((with_reducible refine gOnlyK HK.out ?_ ?_); exact hO; clear HK K; first | (refine wpI_act (by simp only [Act.put, List.setIfInBounds_toArray, List.set_cons_succ, List.set_cons_zero]; rfl) ?_) | skip) | (with_reducible refine wpI_nil ?_))
          go_roundg (M - (k + 1))
          case measure => omega
          case rel => exact ⟨k + 1, rfl, by omega, by rw [← HP2.out]; go_num, by rw [HS.out]; exact hO⟩
        · have hb1 : decide ((8 : Int) * (k : Int) < (N : Int)) = false := by have := HN8.out; simp; omega
          obtain rfl : k = M := by omega
          obtain ⟨u, hu⟩ : ∃ u, s.absK bs k = u := ⟨_, rfl⟩
          rw [hu] at hO
          have HU := Lib.hid hu
          clear hu
          go_wp2_with (first
            | ((with_reducible refine gLoad ?_); first | refine ldX hO 0 rfl rfl (tA rfl) (tS rfl) ?_ | refine ldC hO 0 rfl rfl (tA rfl) rfl ?_ | refine ldX hO 1 rfl rfl (tA rfl) (tS rfl) ?_ | refine ldC hO 1 rfl rfl (tA rfl) rfl ?_ | refine ldX hO 2 rfl rfl (tA rfl) (tS rfl) ?_ | refine ldC hO 2 rfl rfl (tA rfl) rfl ?_)
            | ((with_reducible refine gStore ?_); first | (refine stX hO 0 rfl rfl rfl rfl rfl (tS rfl) ?_; clear hO; intro ww hO) | (refine stC hO 0 rfl rfl rfl (ltb rfl) rfl (tS rfl) ?_; clear hO; intro ww hO) | (refine stX hO 1 rfl rfl rfl rfl rfl (tS rfl) ?_; clear hO; intro ww hO) | (refine stC hO 1 rfl rfl rfl (ltb rfl) rfl (tS rfl) ?_; clear hO; intro ww hO) | (refine stX hO 2 rfl rfl rfl rfl rfl (tS rfl) ?_; clear hO; intro ww hO) | (refine stC hO 2 rfl rfl rfl (ltb rfl) rfl (tS rfl) ?_; clear hO; intro ww hO)))
          refine bodyPost_ret (res_ct rfl _ _ rr 24 u.C (0,0) _ rfl (hO.blk 1 rfl) Tryd.underlying24 rfl (iws' _)) rfl ⟨by rw [HU.out]; rfl, hO.below⟩
end Go.Proofs.YtekiloagckkneaaDoor
