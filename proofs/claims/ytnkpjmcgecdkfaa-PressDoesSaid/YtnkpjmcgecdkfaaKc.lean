/- Walk: the document's Encode. -/
import Derived.Test.YtnkpjmcgecdkfaaKb
import Derived.Test.YtnkpjmcgecdkfaaKo
namespace Go.Kc
theorem dtext_carry {K V P : Nat} {tx : List (BitVec 8)} (htx : be (1 + K) (V / 4294967296) = tx) (hc : 4294967296 ≤ V % 4294967296 + P) (hP : P < 4294967296) (hroom : V ≤ 4294967296 * 256 ^ K) : be (1 + K) (val tx + 1) = be (1 + K) ((V + P) / 4294967296) := by
  have h1 : V / 4294967296 < 256 ^ (1 + K) := by
    have : 0 < 256 ^ K := Nat.pow_pos (by decide)
    rw [Nat.pow_add, Nat.pow_one]
    omega
  rw [← htx, val_be _ _ h1]
  congr 1
  omega
/-- the writer's next state and what the document's writer wants of it -/
theorem dfacts {n : Nat} {l : List (Nat × Bool)} (hw : within n l) {k : Nat} {r : Rc} (hr : enc n (l.take k) = r) {a : Nat} (ha : a < n) (b : Bool) :
    r.Good ∧ r.p.length = n ∧ r.V ≤ 4294967296 * 256 ^ r.k ∧ r.k ≤ l.length ∧ 253952 ≤ r.part a ∧ r.part a + 253952 ≤ r.span ∧ mayB (r.p.getD a 0) = true := by
  have hw2 : within n (l.take k) := fun x hx => hw x (List.mem_of_mem_take hx)
  obtain ⟨g, _, h3, h4⟩ := enc_facts hw2
  have h5 := rc_room hw2
  rw [hr] at g h3 h4 h5
  obtain ⟨b1, b2, _⟩ := part_bounds g (a := a) (by rw [h3]; exact ha)
  refine ⟨g, h3, by omega, ?_, b1, b2, all_get g.may (by rw [h3]; exact ha)⟩
  rw [List.length_take] at h4
  omega
end Go.Kc
namespace Go.Proofs.Ytnkpjmcgecdkfaa
open Go.RowKit Go.Own Go.Bv Go.Ord Go.Eq Go.Opn Go.Pb

set_option maxHeartbeats 8000000 in
set_option maxRecDepth 100000 in
theorem rencode_ok (n : Nat) (hn : n ≤ 1024) (a : Option Addr) (m cap : Nat) (l : List Bt) (w : World) (hR : Rd w 2 a m cap (bts l)) (hm : m ≤ 1048576) (hl : l.all (okI (n : Int)) = true) (M : Nat) (T : List (BitVec 8)) (hT : Go.Kc.encT n (Go.Kc.prs l) = T) (hM : T.length = M) :
    Calls Try.prog 28 #[.int .i64 (n : Int), .slice a m cap] w fun e w' => ∃ a' c', e = .returned (.tuple #[.slice a' M c', .int .i64 0]) ∧ Below w.heap.size w w' ∧ w'.ownsRow w.heap.size 5 1 (.slice a' M c') M (u8s T) := by
  have hO := Own.start w
  have hlen : l.length = m := by have := hR.len; rw [bts_length] at this; omega
  have hnT : newT (n : Int) = List.replicate n 1024 := by unfold newT; rw [if_pos (by omega), Int.toNat_natCast]
  have hnE : newE (n : Int) = 0 := by unfold newE; rw [if_pos (by omega)]
  have HNEW := Lib.hid (fun w => rNew_calls (n : Int) w n (List.replicate n 1024) 0 (by rw [hnT, List.length_replicate]) hnT hnE)
  have hw := within_ok hl
  have HW := Lib.hid hw
  have HALL := Lib.hid hl
  have HLN := Lib.hid hlen
  have HT := Lib.hid hT
  have HTM := Lib.hid hM
  have HR := Lib.hid hR
  have HMX := Lib.hid hm
  have dmx : decide ((1048576 : Int) < (m : Int)) = false := decide_eq_false (by omega)
  clear hR hlen hnT hnE hw hl hT hM
  generalize hWW : w = wn at hO HR ⊢
  clear hWW w
  go_enter Try.func28, Try.ntmps28
  go_wp2_with (first
    | (go_at_call 46; refine (HNEW.out _).mono ?_; rintro e ww ⟨a1, c1, rfl, hb, hr⟩; replace hO := hO.addRow hb hr; clear hb hr))
  clear dmx
  go_loopg [30] m (fun q c wr => ∃ k : Nat, q = m - k ∧ k ≤ m ∧ c = .int .i64 (k : Int) ∧ Own wn wr [.sl 3 1 (.slice a1 n c1) n (i64s (List.replicate n 1024))])
  case atStart => exact ⟨0, rfl, by omega, rfl, hO⟩
  case round =>
    obtain ⟨k, rfl, hk, rfl, hO1⟩ := hrel
    clear hO
    have hO := hO1
    clear hO1
    by_cases hlt : k < m
    · have hb0 : decide ((k : Int) < (m : Int)) = true := decide_eq_true (by omega)
      have hkl : k < l.length := by rw [HLN.out]; exact hlt
      obtain ⟨ba, off, rfl⟩ := HR.out.place (by omega)
      have hx := List.getElem?_eq_getElem hkl
      have hok := List.all_eq_true.1 HALL.out _ (List.getElem_mem hkl)
      generalize l[k] = x at hx hok
      obtain ⟨pos, b⟩ := x
      simp only [okI, Bool.and_eq_true, decide_eq_true_eq] at hok
      have i1 : decide (pos < 0) = false := decide_eq_false (by omega)
      have i2 : decide ((n : Int) ≤ pos) = false := decide_eq_false (by omega)
      have HX := Lib.hid hx
      clear hx hok hkl
      go_wp2_with (first
        | ((with_reducible refine gG ?_); refine wpList_want rfl ?_)
        | ((with_reducible refine gAlloc (T := 32) ?_); refine own_alloc hO _ _ ibtz ?_; clear hO; intro bx ww hO)
        | ((with_reducible refine gLoad (T := 32) ?_); refine ld_bt (hO.rd HR.out) HX.out rfl (by omega) (tA rfl) (tS rfl) ?_)
        | ((with_reducible refine gLoad ?_); first | refine ldX hO 0 rfl rfl (tA rfl) (tS rfl) ?_ | refine ldC hO 0 rfl rfl (tA rfl) rfl ?_)
        | ((with_reducible refine gStore ?_); first | (refine stX hO 0 rfl rfl rfl rfl rfl (tS rfl) ?_; clear hO; intro ww hO) | (refine stC hO 0 rfl rfl rfl (ltb rfl) rfl (tS rfl) ?_; clear hO; intro ww hO)))
      go_roundg (m - (k + 1))
      case measure => omega
      case rel => exact ⟨k + 1, rfl, by omega, by go_num, hO.tail⟩
    · obtain rfl : k = m := by omega
      go_wp2_with (first
        | ((with_reducible refine gBuild (T := 34) ?_); refine own_build hO 34 1 _ eu8 (u8s [0#8]).toArray (by omega) (by omega) (by kernel_rfl) rfl ?_; clear hO; intro g2 ww hO))
      replace hO : Own wn _ [.sl 5 1 (.slice (some ⟨g2, 0, none⟩) 1 1) 1 (u8s [0#8]), .sl 3 1 (.slice a1 n c1) n (i64s (List.replicate n 1024))] := hO
      go_loopg [10, 11, 12, 47] k (fun q s10 s11 s12 c wr => ∃ (j : Nat) (r : Go.Kc.Rc) (low X : Nat) (tx : List (BitVec 8)) (aX : Option Addr) (cX : Nat), q = k - j ∧ j ≤ k ∧ c = .int .i64 (j : Int) ∧ s10 = .int .u32 (r.span : Int) ∧ s11 = .int .u64 (low : Int) ∧ s12 = .slice aX X cX ∧
        Hid (Go.Kc.enc n ((Go.Kc.prs l).take j) = r) ∧ Hid (r.V % 4294967296 = low) ∧ Hid (Go.Kc.be (1 + r.k) (r.V / 4294967296) = tx) ∧ Hid (1 + r.k = X) ∧ Own wn wr [.sl 5 1 (.slice aX X cX) X (u8s tx), .sl 3 1 (.slice a1 n c1) n (i64s r.p)])
      case atStart => exact ⟨0, Go.Kc.start n, 0, 1, [0#8], some ⟨g2, 0, none⟩, 1, rfl, by omega, rfl, rfl, rfl, rfl, rfl, rfl, by show Go.Kc.be (1 + 0) (0 / 4294967296) = _; rfl, rfl, hO⟩
      case round =>
        obtain ⟨j, r, low, X, tx, aX, cX, rfl, hj, rfl, rfl, rfl, rfl, HRR, HLO, HTX, HXX, hO1⟩ := hrel
        clear hO
        have hO := hO1
        clear hO1
        by_cases hlt2 : j < k
        · have hb0 : decide ((j : Int) < (k : Int)) = true := decide_eq_true (by omega)
          have hjl : j < l.length := by rw [HLN.out]; exact hlt2
          obtain ⟨ba, off, rfl⟩ := HR.out.place (by omega)
          have hx := List.getElem?_eq_getElem hjl
          have hok := List.all_eq_true.1 HALL.out _ (List.getElem_mem hjl)
          have hnx := Go.Kc.prs_next hjl
          generalize l[j] = x at hx hok hnx
          obtain ⟨pos, b⟩ := x
          simp only [okI, Bool.and_eq_true, decide_eq_true_eq] at hok
          obtain ⟨p, rfl⟩ : ∃ p : Nat, pos = (p : Int) := ⟨pos.toNat, by omega⟩
          have hpn : p < n := by omega
          obtain ⟨g, hpl, hroom, hrk, b1, b2, hmv⟩ := Go.Kc.dfacts HW.out HRR.out hpn b
          rw [Go.Kc.prs_length, HLN.out] at hrk
          have hst : Go.Kc.enc n ((Go.Kc.prs l).take (j + 1)) = r.step p b := by
            rw [← Go.Kc.prs_take, hnx, Go.Kc.prs_take]
            show (Go.Kc.start n).run _ = _
            rw [Go.Kc.run_append]
            have h := HRR.out
            unfold Go.Kc.enc at h
            rw [h, Int.toNat_natCast]; rfl
          obtain ⟨gP, rfl⟩ := hO.slPlace 1 rfl (by omega)
          obtain ⟨pv, hpv⟩ : ∃ pv, r.p.getD p 0 = pv := ⟨_, rfl⟩
          obtain ⟨P, hP⟩ : ∃ P, r.part p = P := ⟨_, rfl⟩
          rw [hpv, kc_may] at hmv
          rw [hP] at b1 b2
          have hlo := g.lo
          have hhi := g.hi
          have hg : (i64s r.p)[p]? = some (.int .i64 pv) := by
            rw [i64s_get r.p p (by omega), ← hpv, List.getD_eq_getElem?_getD, List.getElem?_eq_getElem (by omega)]; rfl
          have hsp : ∀ w, Calls Try.prog 47 #[.int .u32 (r.span : Int), .int .i64 pv] w fun e w' => e = .returned (.tuple #[.int .u32 (P : Int), .int .i64 0]) ∧ w = w' := fun w => by
            have h := rsplit_calls (r.span : Int) pv w (by omega) (by omega)
            have e : splitOk (r.span : Int) pv = true := by unfold splitOk; rw [hmv, decide_eq_true (by omega)]; rfl
            have e2 : splitI (r.span : Int) pv = (P : Int) := by
              have hp0 := ((mayB_iff pv).1 hmv).1
              rw [← hP]
              unfold splitI Go.Kc.Rc.part
              rw [hpv, Int.natCast_mul, Int.natCast_ediv, Int.toNat_of_nonneg (by omega)]; rfl
            rw [e, if_pos rfl, if_pos rfl, e2] at h
            exact h
          have hln : ∀ w, Calls Try.prog 49 #[.int .i64 pv, .bool b] w fun e w' => e = .returned (.tuple #[.int .i64 (learnI pv b), .int .i64 0]) ∧ w = w' := fun w => by
            have h := rLearn_calls pv b w
            rw [hmv, if_pos rfl, if_pos rfl] at h
            exact h
          have hset : (i64s r.p).set p (.int .i64 (learnI pv b)) = i64s (r.mid p b).p := by
            unfold Go.Kc.Rc.mid i64s
            dsimp only
            rw [List.map_set, hpv]; rfl
          have hm1 : (r.mid p b).V = if b then r.V + P else r.V := by rw [← hP]; rfl
          have hm2 : (r.mid p b).span = if b then r.span - P else P := by rw [← hP]; rfl
          have hm3 : (r.mid p b).k = r.k := rfl
          obtain ⟨t, ht⟩ : ∃ t, r.step p b = t := ⟨_, rfl⟩
          have hun : (r.mid p b).norm = t := ht
          rw [ht] at hst
          obtain ⟨u, hu⟩ : ∃ u, r.mid p b = u := ⟨_, rfl⟩
          rw [hu] at hset hm1 hm2 hm3 hun
          have htl : tx.length = X := by rw [← HTX.out, Go.Kc.be_length, HXX.out]
          have hloW : low < 4294967296 := by rw [← HLO.out]; exact Nat.mod_lt _ (by decide)
          have hXm : X + 1 ≤ k + 2 := by rw [← HXX.out]; omega
          have HX := Lib.hid hx
          have HG := Lib.hid hg
          have HSP := Lib.hid hsp
          have HLE := Lib.hid hln
          have HST := Lib.hid hst
          have HUN := Lib.hid hun
          have HUK := Lib.hid hm3
          have HTL := Lib.hid htl
          have HXM1 := Lib.hid hXm
          have HLW := Lib.hid hloW
          have HROOM := Lib.hid hroom
          have HB1 : Hid (253952 ≤ P ∧ P + 253952 ≤ r.span ∧ r.span < 4294967296) := ⟨b1, b2, hhi⟩
          have hXs : X ≤ 10000000 := by omega
          have HXs := Lib.hid hXs
          clear hx hok hnx hst hpv hP hmv b1 b2 hlo hhi hg hsp hln hun hu ht htl hloW hroom hm3 hrk hpl g hXm hXs hjl
          cases b
          · simp only [Bool.false_eq_true, if_false] at hm1 hm2
            have HSET := Lib.hid hset
            have HUV : Hid (u.V = r.V) := hm1
            have HUS : Hid (u.span = P) := hm2
            clear hset hm1 hm2
            have d5 : decide (4294967296 ≤ (low : Int)) = false := decide_eq_false (by have := HLW.out; omega)
            go_wp2_with (first
              | ((with_reducible refine gAlloc (T := 32) ?_); refine own_alloc hO _ _ ibtz ?_; clear hO; intro bx ww hO)
              | ((with_reducible refine gLoad (T := 32) ?_); refine ld_bt (hO.rd HR.out) HX.out rfl (by omega) (tA rfl) (tS rfl) ?_)
              | ((with_reducible refine gLoad ?_); first | refine ldX hO 0 rfl rfl (tA rfl) (tS rfl) ?_ | refine ldC hO 0 rfl rfl (tA rfl) rfl ?_)
              | ((with_reducible refine gLoad (T := 3) ?_); refine ld_sl hO 2 rfl rfl HG.out (tA rfl) ?_)
              | (go_at_call 47; refine (HSP.out _).mono ?_; rintro e ww ⟨rfl, rfl⟩)
              | (go_at_call 48; refine (rmore_calls tx HTL.out HXs.out ty HMO.out hO.swap).mono ?_; rintro e ww ⟨rfl, hO2⟩; clear hO; have hO := hO2.swap; clear hO2)
              | ((with_reducible refine gStore ?_); first | (refine stX hO 0 rfl rfl rfl rfl rfl (tS rfl) ?_; clear hO; intro ww hO) | (refine stC hO 0 rfl rfl rfl (ltb rfl) rfl (tS rfl) ?_; clear hO; intro ww hO)))
            clear d5
            have HLO2 : Hid (u.V % 4294967296 = low) := by show _ = _; rw [HUV.out, HLO.out]
            have HTY : Hid (Go.Kc.be (1 + u.k) (u.V / 4294967296) = tx) := by show _ = _; rw [HUV.out, HUK.out, HTX.out]
            have HUB : Hid (253952 ≤ u.span ∧ u.span < 4294967296) := by have h1 := HUS.out; have h2 := HB1.out; show _ ∧ _; omega
            rw [← HUS.out]
            replace hO : Own wn _ [.blk bx (.cells (Bt.C ⟨(p : Int), false⟩) 32 (0,0)), .sl 5 1 (.slice aX X cX) X (u8s tx), .sl 3 1 (.slice (some ⟨gP, 0, none⟩) n c1) n (i64s r.p)] := hO
            refine wp_region_textS (fun w' => Own wn w' [.blk bx (.cells (Bt.C ⟨(p : Int), false⟩) 32 (0,0))]) (fun op => match op with | .load _ (.tmp 84) => false | .load _ _ => true | _ => false) (by kernel_rfl) (by kernel_rfl) (hO.drew.only (by simp)) ?_
            replace hO := hO.drew
            generalize World.drew _ = wd at hO ⊢
            go_wp2_with (first
              | (((with_reducible refine gIL ?_); first | refine wpI_ldcS (fun w' hS => hS.blk 0 rfl) rfl rfl (tA rfl) rfl ?_); first | (refine wpI_act (by simp only [Act.put, List.setIfInBounds_toArray, List.set_cons_succ, List.set_cons_zero]; rfl) ?_) | skip)
              | ((with_reducible refine gLoad (T := 3) ?_); refine ld_sl hO 2 rfl rfl HG.out (tA rfl) ?_)
              | (go_at_call 49; refine (HLE.out _).mono ?_; rintro e ww ⟨rfl, rfl⟩)
              | ((with_reducible refine gStore (T := 3) ?_); refine own_setElem hO 2 3 _ _ _ rfl rfl rfl (by omega) ii64s rfl ?_; clear hO; intro ww hO)
              | ((with_reducible refine gI ?_); refine wpI_step rfl rfl (by kernel_rfl) ?_; intro K hK; have HK := Lib.hid hK; clear hK) | ((with_reducible refine gI ?_); first | refine wpI_skip rfl ?_ | refine wpI_want rfl ?_) | ((with_reducible refine gOnlyK HK.out ?_ ?_); exact hO.only (by simp); clear HK K; first | (refine wpI_act (by simp only [Act.put, List.setIfInBounds_toArray, List.set_cons_succ, List.set_cons_zero]; rfl) ?_) | skip) | (with_reducible refine wpI_nil ?_))
            replace hO : Own wn _ (.blk bx (.cells (Bt.C ⟨(p : Int), false⟩) 32 (0,0)) :: .sl 5 1 (.slice aX X cX) X (u8s tx) :: .sl 3 1 (.slice (some ⟨gP, 0, none⟩) n c1) n ((i64s r.p).set p (.int .i64 (learnI pv false))) :: []) := hO
            rw [HSET.out] at hO
            replace hO := hO.tail
            clear HG HLE HSET HTX HSP
            go_loopg [10, 11, 12] 1 (fun q s10 s11 s12 wr => ∃ (v : Go.Kc.Rc) (lo Y : Nat) (tz : List (BitVec 8)) (aY : Option Addr) (cY : Nat), q ≤ 1 ∧ Hid (v.span < 16777216 → q = 1) ∧ s10 = .int .u32 (v.span : Int) ∧ s11 = .int .u64 (lo : Int) ∧ s12 = .slice aY Y cY ∧ Hid (v.norm = t) ∧ Hid (v.p = u.p) ∧ Hid (253952 ≤ v.span ∧ v.span < 4294967296) ∧ Hid (v.V % 4294967296 = lo) ∧ Hid (Go.Kc.be (1 + v.k) (v.V / 4294967296) = tz) ∧ Hid (1 + v.k = Y) ∧ Hid (Y ≤ k + 2) ∧ Hid (v.span < 16777216 → Y ≤ k + 1) ∧
              Own wn wr [.sl 5 1 (.slice aY Y cY) Y (u8s tz), .sl 3 1 (.slice (some ⟨gP, 0, none⟩) n c1) n (i64s u.p)])
            case atStart => exact ⟨u, low, X, tx, aX, cX, by omega, fun _ => rfl, rfl, rfl, rfl, HUN.out, rfl, HUB.out, HLO2.out, HTY.out, by show _ = _; rw [HUK.out, HXX.out], by have := HXM1.out; show _ ≤ _; omega, by have := HXM1.out; intro _; omega, hO⟩
            case round =>
              obtain ⟨v, lo, Y, tz, aY, cY, hq, HQ, rfl, rfl, rfl, HN, HP, HS, HLO3, HTZ, HY, HYM, HYV, hO1⟩ := hrel
              clear hO
              have hO := hO1
              clear hO1
              by_cases hv : v.span < 16777216
              · obtain ⟨oc, hoc⟩ : ∃ oc, BitVec.ofNat 8 (lo / 16777216) = oc := ⟨_, rfl⟩
                obtain ⟨R, hRR⟩ : ∃ R, lo % 16777216 = R := ⟨_, rfl⟩
                obtain ⟨W, hWW⟩ : ∃ W, v.span * 256 = W := ⟨_, rfl⟩
                have hlo : lo < 4294967296 := by rw [← HLO3.out]; exact Nat.mod_lt _ (by decide)
                have hoN : oc.toNat = lo / 16777216 := by rw [← hoc, BitVec.toNat_ofNat]; omega
                have hol := oc.isLt
                have hRl : R < 16777216 := by omega
                have f1 : (lo : Int).tdiv 16777216 = (oc.toNat : Int) := by rw [hoN]; rfl
                have f1' : (lo : Int) / 16777216 = (oc.toNat : Int) := by rw [hoN]; rfl
                have f2 : IntKind.u8.wrap (oc.toNat : Int) = (oc.toNat : Int) := by rw [IntKind.wrap_u8']; omega
                have f3 : (lo : Int).tmod 16777216 = (R : Int) := by rw [← hRR]; rfl
                have f3' : (lo : Int) % 16777216 = (R : Int) := by rw [← hRR]; rfl
                have f4 : IntKind.u64.wrap ((R : Int) * 256) = (R : Int) * 256 := by simp [IntKind.wrap, IntKind.bits, IntKind.signed]; omega
                have f5 : IntKind.u32.wrap ((v.span : Int) * 256) = (W : Int) := by have := HS.out; simp [IntKind.wrap, IntKind.bits, IntKind.signed]; omega
                have d1 : decide ((v.span : Int) < 16777216) = true := decide_eq_true (by omega)
                have HNX : Hid (Go.Kc.be (1 + (v.k + 1)) (v.V * 256 / 4294967296) = tz ++ [oc]) := by
                  show _ = _
                  rw [← Go.Kc.be_more, HTZ.out, HLO3.out, hoc]
                have HUA : Hid (u8s (tz ++ [oc]) = u8s tz ++ u8s [oc]) := by
                  show _ = _
                  unfold u8s
                  rw [List.map_append]
                have HNR : Hid (v.norm = ⟨v.p, v.V * 256, W, v.k + 1⟩) := by show _ = _; unfold Go.Kc.Rc.norm; rw [if_pos hv, hWW]
                have HWB : Hid (16777216 ≤ W ∧ W < 4294967296) := by have := HS.out; show _ ∧ _; omega
                have HLX : Hid (v.V * 256 % 4294967296 = R * 256) := by have := HLO3.out; show _ = _; omega
                have hyk : Y ≤ 1048577 := by have h1 := HYV.out hv; omega
                have HYK : Hid (Y ≤ k + 1) := HYV.out hv
                obtain rfl := HQ.out hv
                clear hoc hRR hWW hlo hoN hRl hv hq
                go_wp2_with (first
                  | ((with_reducible refine gBuild (T := 34) ?_); refine own_build hO 34 1 _ eu8 (u8s [oc]).toArray (by omega) (by omega) (by kernel_rfl) rfl ?_; clear hO; intro g2 ww hO)
                  | ((with_reducible refine gAppend ?_); refine own_append hO 1 _ _ 34 eu8 rfl rfl rfl (hO.rdAt 0 rfl) (u8s_one _) (Y + 1) (by omega) (by simp [maxLen]; omega) (by omega) ?_; clear hO; intro a2 c2 ww hO))
                go_roundg 0
                case measure => omega
                case rel => exact ⟨⟨v.p, v.V * 256, W, v.k + 1⟩, R * 256, Y + 1, tz ++ [oc], a2, c2, by omega, by have := HWB.out; intro h; dsimp only at h; omega, rfl, by go_num, rfl, by show Go.Kc.Rc.norm _ = _; rw [← HN.out, HNR.out]; unfold Go.Kc.Rc.norm; have := HWB.out; dsimp only; rw [if_neg (by omega)], HP.out, by have := HWB.out; show _ ∧ _; dsimp only; omega, HLX.out, HNX.out, by have := HY.out; show _ = _; dsimp only; omega, by have := HYK.out; show _ ≤ _; omega, by have := HWB.out; intro h; dsimp only at h; omega, by rw [HUA.out]; exact hO.tail⟩
              · have HVT : Hid (v = t) := by show _ = _; rw [← HN.out]; unfold Go.Kc.Rc.norm; rw [if_neg hv]
                have HTP : Hid (u.p = t.p) := by show _ = _; rw [← HVT.out, HP.out]
                have d1 : decide ((v.span : Int) < 16777216) = false := decide_eq_false (by omega)
                clear hv hq HQ
                go_wp2
                go_roundg (k - (j + 1))
                case measure => omega
                case rel => exact ⟨j + 1, t, lo, Y, tz, aY, cY, rfl, by omega, by go_num, by rw [HVT.out], rfl, rfl, HST.out, by rw [← HVT.out]; exact HLO3.out, by rw [← HVT.out]; exact HTZ.out, by rw [← HVT.out]; exact HY.out, by rw [← HTP.out]; exact hO⟩
          · simp only [if_true] at hm1 hm2
            have HSET := Lib.hid hset
            have HUV : Hid (u.V = r.V + P) := hm1
            have HUS : Hid (u.span = r.span - P) := hm2
            clear hset hm1 hm2
            obtain ⟨lo1, hlo1⟩ : ∃ x, low + P = x := ⟨_, rfl⟩
            have a1 : IntKind.u64.wrap (P : Int) = (P : Int) := by have := HB1.out; simp [IntKind.wrap, IntKind.bits, IntKind.signed]; omega
            have a2 : IntKind.u64.wrap ((low : Int) + (P : Int)) = (lo1 : Int) := by have := HB1.out; have := HLW.out; simp [IntKind.wrap, IntKind.bits, IntKind.signed]; omega
            have a3 : IntKind.u32.wrap ((r.span : Int) - (P : Int)) = (u.span : Int) := by have h1 : u.span = r.span - P := HUS.out; have := HB1.out; simp [IntKind.wrap, IntKind.bits, IntKind.signed]; omega
            have HUB : Hid (253952 ≤ u.span ∧ u.span < 4294967296) := by have h1 : u.span = r.span - P := HUS.out; have h2 := HB1.out; show _ ∧ _; omega
            by_cases hcy : low + P < 4294967296
            · have d5 : decide (4294967296 ≤ (lo1 : Int)) = false := decide_eq_false (by omega)
              have HLO2 : Hid (u.V % 4294967296 = lo1) := by have h1 : u.V = r.V + P := HUV.out; have h2 := HLO.out; show _ = _; omega
              have HTY : Hid (Go.Kc.be (1 + u.k) (u.V / 4294967296) = tx) := by
                have h1 : u.V = r.V + P := HUV.out
                have h2 := HLO.out
                have h3 : u.V / 4294967296 = r.V / 4294967296 := by omega
                show _ = _
                rw [h3, HUK.out, HTX.out]
              clear hcy hlo1
              go_wp2_with (first
                | ((with_reducible refine gAlloc (T := 32) ?_); refine own_alloc hO _ _ ibtz ?_; clear hO; intro bx ww hO)
                | ((with_reducible refine gLoad (T := 32) ?_); refine ld_bt (hO.rd HR.out) HX.out rfl (by omega) (tA rfl) (tS rfl) ?_)
                | ((with_reducible refine gLoad ?_); first | refine ldX hO 0 rfl rfl (tA rfl) (tS rfl) ?_ | refine ldC hO 0 rfl rfl (tA rfl) rfl ?_)
                | ((with_reducible refine gLoad (T := 3) ?_); refine ld_sl hO 2 rfl rfl HG.out (tA rfl) ?_)
                | (go_at_call 47; refine (HSP.out _).mono ?_; rintro e ww ⟨rfl, rfl⟩)
                | (go_at_call 48; refine (rmore_calls tx HTL.out HXs.out ty HMO.out hO.swap).mono ?_; rintro e ww ⟨rfl, hO2⟩; clear hO; have hO := hO2.swap; clear hO2)
                | ((with_reducible refine gStore ?_); first | (refine stX hO 0 rfl rfl rfl rfl rfl (tS rfl) ?_; clear hO; intro ww hO) | (refine stC hO 0 rfl rfl rfl (ltb rfl) rfl (tS rfl) ?_; clear hO; intro ww hO)))
              clear d5 a1 a2 a3
              replace hO : Own wn _ [.blk bx (.cells (Bt.C ⟨(p : Int), true⟩) 32 (0,0)), .sl 5 1 (.slice aX X cX) X (u8s tx), .sl 3 1 (.slice (some ⟨gP, 0, none⟩) n c1) n (i64s r.p)] := hO
              refine wp_region_textS (fun w' => Own wn w' [.blk bx (.cells (Bt.C ⟨(p : Int), true⟩) 32 (0,0))]) (fun op => match op with | .load _ (.tmp 84) => false | .load _ _ => true | _ => false) (by kernel_rfl) (by kernel_rfl) (hO.drew.only (by simp)) ?_
              replace hO := hO.drew
              generalize World.drew _ = wd at hO ⊢
              go_wp2_with (first
                | (((with_reducible refine gIL ?_); first | refine wpI_ldcS (fun w' hS => hS.blk 0 rfl) rfl rfl (tA rfl) rfl ?_); first | (refine wpI_act (by simp only [Act.put, List.setIfInBounds_toArray, List.set_cons_succ, List.set_cons_zero]; rfl) ?_) | skip)
                | ((with_reducible refine gLoad (T := 3) ?_); refine ld_sl hO 2 rfl rfl HG.out (tA rfl) ?_)
                | (go_at_call 49; refine (HLE.out _).mono ?_; rintro e ww ⟨rfl, rfl⟩)
                | ((with_reducible refine gStore (T := 3) ?_); refine own_setElem hO 2 3 _ _ _ rfl rfl rfl (by omega) ii64s rfl ?_; clear hO; intro ww hO)
                | ((with_reducible refine gI ?_); refine wpI_step rfl rfl (by kernel_rfl) ?_; intro K hK; have HK := Lib.hid hK; clear hK) | ((with_reducible refine gI ?_); first | refine wpI_skip rfl ?_ | refine wpI_want rfl ?_) | ((with_reducible refine gOnlyK HK.out ?_ ?_); exact hO.only (by simp); clear HK K; first | (refine wpI_act (by simp only [Act.put, List.setIfInBounds_toArray, List.set_cons_succ, List.set_cons_zero]; rfl) ?_) | skip) | (with_reducible refine wpI_nil ?_))
              replace hO : Own wn _ (.blk bx (.cells (Bt.C ⟨(p : Int), true⟩) 32 (0,0)) :: .sl 5 1 (.slice aX X cX) X (u8s tx) :: .sl 3 1 (.slice (some ⟨gP, 0, none⟩) n c1) n ((i64s r.p).set p (.int .i64 (learnI pv true))) :: []) := hO
              rw [HSET.out] at hO
              replace hO := hO.tail
              clear HG HLE HSET HTX HSP
              go_loopg [10, 11, 12] 1 (fun q s10 s11 s12 wr => ∃ (v : Go.Kc.Rc) (lo Y : Nat) (tz : List (BitVec 8)) (aY : Option Addr) (cY : Nat), q ≤ 1 ∧ Hid (v.span < 16777216 → q = 1) ∧ s10 = .int .u32 (v.span : Int) ∧ s11 = .int .u64 (lo : Int) ∧ s12 = .slice aY Y cY ∧ Hid (v.norm = t) ∧ Hid (v.p = u.p) ∧ Hid (253952 ≤ v.span ∧ v.span < 4294967296) ∧ Hid (v.V % 4294967296 = lo) ∧ Hid (Go.Kc.be (1 + v.k) (v.V / 4294967296) = tz) ∧ Hid (1 + v.k = Y) ∧ Hid (Y ≤ k + 2) ∧ Hid (v.span < 16777216 → Y ≤ k + 1) ∧
                Own wn wr [.sl 5 1 (.slice aY Y cY) Y (u8s tz), .sl 3 1 (.slice (some ⟨gP, 0, none⟩) n c1) n (i64s u.p)])
              case atStart => exact ⟨u, lo1, X, tx, aX, cX, by omega, fun _ => rfl, rfl, rfl, rfl, HUN.out, rfl, HUB.out, HLO2.out, HTY.out, by show _ = _; rw [HUK.out, HXX.out], by have := HXM1.out; show _ ≤ _; omega, by have := HXM1.out; intro _; omega, hO⟩
              case round =>
                obtain ⟨v, lo, Y, tz, aY, cY, hq, HQ, rfl, rfl, rfl, HN, HP, HS, HLO3, HTZ, HY, HYM, HYV, hO1⟩ := hrel
                clear hO
                have hO := hO1
                clear hO1
                by_cases hv : v.span < 16777216
                · obtain ⟨oc, hoc⟩ : ∃ oc, BitVec.ofNat 8 (lo / 16777216) = oc := ⟨_, rfl⟩
                  obtain ⟨R, hRR⟩ : ∃ R, lo % 16777216 = R := ⟨_, rfl⟩
                  obtain ⟨W, hWW⟩ : ∃ W, v.span * 256 = W := ⟨_, rfl⟩
                  have hlo : lo < 4294967296 := by rw [← HLO3.out]; exact Nat.mod_lt _ (by decide)
                  have hoN : oc.toNat = lo / 16777216 := by rw [← hoc, BitVec.toNat_ofNat]; omega
                  have hol := oc.isLt
                  have hRl : R < 16777216 := by omega
                  have f1 : (lo : Int).tdiv 16777216 = (oc.toNat : Int) := by rw [hoN]; rfl
                  have f1' : (lo : Int) / 16777216 = (oc.toNat : Int) := by rw [hoN]; rfl
                  have f2 : IntKind.u8.wrap (oc.toNat : Int) = (oc.toNat : Int) := by rw [IntKind.wrap_u8']; omega
                  have f3 : (lo : Int).tmod 16777216 = (R : Int) := by rw [← hRR]; rfl
                  have f3' : (lo : Int) % 16777216 = (R : Int) := by rw [← hRR]; rfl
                  have f4 : IntKind.u64.wrap ((R : Int) * 256) = (R : Int) * 256 := by simp [IntKind.wrap, IntKind.bits, IntKind.signed]; omega
                  have f5 : IntKind.u32.wrap ((v.span : Int) * 256) = (W : Int) := by have := HS.out; simp [IntKind.wrap, IntKind.bits, IntKind.signed]; omega
                  have d1 : decide ((v.span : Int) < 16777216) = true := decide_eq_true (by omega)
                  have HNX : Hid (Go.Kc.be (1 + (v.k + 1)) (v.V * 256 / 4294967296) = tz ++ [oc]) := by
                    show _ = _
                    rw [← Go.Kc.be_more, HTZ.out, HLO3.out, hoc]
                  have HUA : Hid (u8s (tz ++ [oc]) = u8s tz ++ u8s [oc]) := by
                    show _ = _
                    unfold u8s
                    rw [List.map_append]
                  have HNR : Hid (v.norm = ⟨v.p, v.V * 256, W, v.k + 1⟩) := by show _ = _; unfold Go.Kc.Rc.norm; rw [if_pos hv, hWW]
                  have HWB : Hid (16777216 ≤ W ∧ W < 4294967296) := by have := HS.out; show _ ∧ _; omega
                  have HLX : Hid (v.V * 256 % 4294967296 = R * 256) := by have := HLO3.out; show _ = _; omega
                  have hyk : Y ≤ 1048577 := by have h1 := HYV.out hv; omega
                  have HYK : Hid (Y ≤ k + 1) := HYV.out hv
                  obtain rfl := HQ.out hv
                  clear hoc hRR hWW hlo hoN hRl hv hq
                  go_wp2_with (first
                    | ((with_reducible refine gBuild (T := 34) ?_); refine own_build hO 34 1 _ eu8 (u8s [oc]).toArray (by omega) (by omega) (by kernel_rfl) rfl ?_; clear hO; intro g2 ww hO)
                    | ((with_reducible refine gAppend ?_); refine own_append hO 1 _ _ 34 eu8 rfl rfl rfl (hO.rdAt 0 rfl) (u8s_one _) (Y + 1) (by omega) (by simp [maxLen]; omega) (by omega) ?_; clear hO; intro a2 c2 ww hO))
                  go_roundg 0
                  case measure => omega
                  case rel => exact ⟨⟨v.p, v.V * 256, W, v.k + 1⟩, R * 256, Y + 1, tz ++ [oc], a2, c2, by omega, by have := HWB.out; intro h; dsimp only at h; omega, rfl, by go_num, rfl, by show Go.Kc.Rc.norm _ = _; rw [← HN.out, HNR.out]; unfold Go.Kc.Rc.norm; have := HWB.out; dsimp only; rw [if_neg (by omega)], HP.out, by have := HWB.out; show _ ∧ _; dsimp only; omega, HLX.out, HNX.out, by have := HY.out; show _ = _; dsimp only; omega, by have := HYK.out; show _ ≤ _; omega, by have := HWB.out; intro h; dsimp only at h; omega, by rw [HUA.out]; exact hO.tail⟩
                · have HVT : Hid (v = t) := by show _ = _; rw [← HN.out]; unfold Go.Kc.Rc.norm; rw [if_neg hv]
                  have HTP : Hid (u.p = t.p) := by show _ = _; rw [← HVT.out, HP.out]
                  have d1 : decide ((v.span : Int) < 16777216) = false := decide_eq_false (by omega)
                  clear hv hq HQ
                  go_wp2
                  go_roundg (k - (j + 1))
                  case measure => omega
                  case rel => exact ⟨j + 1, t, lo, Y, tz, aY, cY, rfl, by omega, by go_num, by rw [HVT.out], rfl, rfl, HST.out, by rw [← HVT.out]; exact HLO3.out, by rw [← HVT.out]; exact HTZ.out, by rw [← HVT.out]; exact HY.out, by rw [← HTP.out]; exact hO⟩
            · have d5 : decide (4294967296 ≤ (lo1 : Int)) = true := decide_eq_true (by omega)
              obtain ⟨lo2, hlo2⟩ : ∃ x, low + P - 4294967296 = x := ⟨_, rfl⟩
              have a4 : IntKind.u64.wrap ((lo1 : Int) - 4294967296) = (lo2 : Int) := by have := HB1.out; have := HLW.out; simp [IntKind.wrap, IntKind.bits, IntKind.signed]; omega
              have HLO2 : Hid (u.V % 4294967296 = lo2) := by have h1 : u.V = r.V + P := HUV.out; have h2 := HLO.out; have := HB1.out; have := HLW.out; show _ = _; omega
              obtain ⟨ty, hty⟩ : ∃ x, Go.Kc.be X (Go.Kc.val tx + 1) = x := ⟨_, rfl⟩
              have HTY : Hid (Go.Kc.be (1 + u.k) (u.V / 4294967296) = ty) := by
                have h1 : u.V = r.V + P := HUV.out
                show _ = _
                rw [← hty, ← HXX.out, HUK.out, h1]
                exact (Go.Kc.dtext_carry HTX.out (by rw [HLO.out]; omega) (by have := HB1.out; omega) HROOM.out).symm
              have HMO := Lib.hid hty
              clear hcy hlo1 hlo2 hty
              go_wp2_with (first
                | ((with_reducible refine gAlloc (T := 32) ?_); refine own_alloc hO _ _ ibtz ?_; clear hO; intro bx ww hO)
                | ((with_reducible refine gLoad (T := 32) ?_); refine ld_bt (hO.rd HR.out) HX.out rfl (by omega) (tA rfl) (tS rfl) ?_)
                | ((with_reducible refine gLoad ?_); first | refine ldX hO 0 rfl rfl (tA rfl) (tS rfl) ?_ | refine ldC hO 0 rfl rfl (tA rfl) rfl ?_)
                | ((with_reducible refine gLoad (T := 3) ?_); refine ld_sl hO 2 rfl rfl HG.out (tA rfl) ?_)
                | (go_at_call 47; refine (HSP.out _).mono ?_; rintro e ww ⟨rfl, rfl⟩)
                | (go_at_call 48; refine (rmore_calls tx HTL.out HXs.out ty HMO.out hO.swap).mono ?_; rintro e ww ⟨rfl, hO2⟩; clear hO; have hO := hO2.swap; clear hO2)
                | ((with_reducible refine gStore ?_); first | (refine stX hO 0 rfl rfl rfl rfl rfl (tS rfl) ?_; clear hO; intro ww hO) | (refine stC hO 0 rfl rfl rfl (ltb rfl) rfl (tS rfl) ?_; clear hO; intro ww hO)))
              clear d5 a1 a2 a3 a4
              replace hO : Own wn _ [.blk bx (.cells (Bt.C ⟨(p : Int), true⟩) 32 (0,0)), .sl 5 1 (.slice aX X cX) X (u8s ty), .sl 3 1 (.slice (some ⟨gP, 0, none⟩) n c1) n (i64s r.p)] := hO
              refine wp_region_textS (fun w' => Own wn w' [.blk bx (.cells (Bt.C ⟨(p : Int), true⟩) 32 (0,0))]) (fun op => match op with | .load _ (.tmp 84) => false | .load _ _ => true | _ => false) (by kernel_rfl) (by kernel_rfl) (hO.drew.only (by simp)) ?_
              replace hO := hO.drew
              generalize World.drew _ = wd at hO ⊢
              go_wp2_with (first
                | (((with_reducible refine gIL ?_); first | refine wpI_ldcS (fun w' hS => hS.blk 0 rfl) rfl rfl (tA rfl) rfl ?_); first | (refine wpI_act (by simp only [Act.put, List.setIfInBounds_toArray, List.set_cons_succ, List.set_cons_zero]; rfl) ?_) | skip)
                | ((with_reducible refine gLoad (T := 3) ?_); refine ld_sl hO 2 rfl rfl HG.out (tA rfl) ?_)
                | (go_at_call 49; refine (HLE.out _).mono ?_; rintro e ww ⟨rfl, rfl⟩)
                | ((with_reducible refine gStore (T := 3) ?_); refine own_setElem hO 2 3 _ _ _ rfl rfl rfl (by omega) ii64s rfl ?_; clear hO; intro ww hO)
                | ((with_reducible refine gI ?_); refine wpI_step rfl rfl (by kernel_rfl) ?_; intro K hK; have HK := Lib.hid hK; clear hK) | ((with_reducible refine gI ?_); first | refine wpI_skip rfl ?_ | refine wpI_want rfl ?_) | ((with_reducible refine gOnlyK HK.out ?_ ?_); exact hO.only (by simp); clear HK K; first | (refine wpI_act (by simp only [Act.put, List.setIfInBounds_toArray, List.set_cons_succ, List.set_cons_zero]; rfl) ?_) | skip) | (with_reducible refine wpI_nil ?_))
              replace hO : Own wn _ (.blk bx (.cells (Bt.C ⟨(p : Int), true⟩) 32 (0,0)) :: .sl 5 1 (.slice aX X cX) X (u8s ty) :: .sl 3 1 (.slice (some ⟨gP, 0, none⟩) n c1) n ((i64s r.p).set p (.int .i64 (learnI pv true))) :: []) := hO
              rw [HSET.out] at hO
              replace hO := hO.tail
              clear HG HLE HSET HTX HSP
              go_loopg [10, 11, 12] 1 (fun q s10 s11 s12 wr => ∃ (v : Go.Kc.Rc) (lo Y : Nat) (tz : List (BitVec 8)) (aY : Option Addr) (cY : Nat), q ≤ 1 ∧ Hid (v.span < 16777216 → q = 1) ∧ s10 = .int .u32 (v.span : Int) ∧ s11 = .int .u64 (lo : Int) ∧ s12 = .slice aY Y cY ∧ Hid (v.norm = t) ∧ Hid (v.p = u.p) ∧ Hid (253952 ≤ v.span ∧ v.span < 4294967296) ∧ Hid (v.V % 4294967296 = lo) ∧ Hid (Go.Kc.be (1 + v.k) (v.V / 4294967296) = tz) ∧ Hid (1 + v.k = Y) ∧ Hid (Y ≤ k + 2) ∧ Hid (v.span < 16777216 → Y ≤ k + 1) ∧
                Own wn wr [.sl 5 1 (.slice aY Y cY) Y (u8s tz), .sl 3 1 (.slice (some ⟨gP, 0, none⟩) n c1) n (i64s u.p)])
              case atStart => exact ⟨u, lo2, X, ty, aX, cX, by omega, fun _ => rfl, rfl, rfl, rfl, HUN.out, rfl, HUB.out, HLO2.out, HTY.out, by show _ = _; rw [HUK.out, HXX.out], by have := HXM1.out; show _ ≤ _; omega, by have := HXM1.out; intro _; omega, hO⟩
              case round =>
                obtain ⟨v, lo, Y, tz, aY, cY, hq, HQ, rfl, rfl, rfl, HN, HP, HS, HLO3, HTZ, HY, HYM, HYV, hO1⟩ := hrel
                clear hO
                have hO := hO1
                clear hO1
                by_cases hv : v.span < 16777216
                · obtain ⟨oc, hoc⟩ : ∃ oc, BitVec.ofNat 8 (lo / 16777216) = oc := ⟨_, rfl⟩
                  obtain ⟨R, hRR⟩ : ∃ R, lo % 16777216 = R := ⟨_, rfl⟩
                  obtain ⟨W, hWW⟩ : ∃ W, v.span * 256 = W := ⟨_, rfl⟩
                  have hlo : lo < 4294967296 := by rw [← HLO3.out]; exact Nat.mod_lt _ (by decide)
                  have hoN : oc.toNat = lo / 16777216 := by rw [← hoc, BitVec.toNat_ofNat]; omega
                  have hol := oc.isLt
                  have hRl : R < 16777216 := by omega
                  have f1 : (lo : Int).tdiv 16777216 = (oc.toNat : Int) := by rw [hoN]; rfl
                  have f1' : (lo : Int) / 16777216 = (oc.toNat : Int) := by rw [hoN]; rfl
                  have f2 : IntKind.u8.wrap (oc.toNat : Int) = (oc.toNat : Int) := by rw [IntKind.wrap_u8']; omega
                  have f3 : (lo : Int).tmod 16777216 = (R : Int) := by rw [← hRR]; rfl
                  have f3' : (lo : Int) % 16777216 = (R : Int) := by rw [← hRR]; rfl
                  have f4 : IntKind.u64.wrap ((R : Int) * 256) = (R : Int) * 256 := by simp [IntKind.wrap, IntKind.bits, IntKind.signed]; omega
                  have f5 : IntKind.u32.wrap ((v.span : Int) * 256) = (W : Int) := by have := HS.out; simp [IntKind.wrap, IntKind.bits, IntKind.signed]; omega
                  have d1 : decide ((v.span : Int) < 16777216) = true := decide_eq_true (by omega)
                  have HNX : Hid (Go.Kc.be (1 + (v.k + 1)) (v.V * 256 / 4294967296) = tz ++ [oc]) := by
                    show _ = _
                    rw [← Go.Kc.be_more, HTZ.out, HLO3.out, hoc]
                  have HUA : Hid (u8s (tz ++ [oc]) = u8s tz ++ u8s [oc]) := by
                    show _ = _
                    unfold u8s
                    rw [List.map_append]
                  have HNR : Hid (v.norm = ⟨v.p, v.V * 256, W, v.k + 1⟩) := by show _ = _; unfold Go.Kc.Rc.norm; rw [if_pos hv, hWW]
                  have HWB : Hid (16777216 ≤ W ∧ W < 4294967296) := by have := HS.out; show _ ∧ _; omega
                  have HLX : Hid (v.V * 256 % 4294967296 = R * 256) := by have := HLO3.out; show _ = _; omega
                  have hyk : Y ≤ 1048577 := by have h1 := HYV.out hv; omega
                  have HYK : Hid (Y ≤ k + 1) := HYV.out hv
                  obtain rfl := HQ.out hv
                  clear hoc hRR hWW hlo hoN hRl hv hq
                  go_wp2_with (first
                    | ((with_reducible refine gBuild (T := 34) ?_); refine own_build hO 34 1 _ eu8 (u8s [oc]).toArray (by omega) (by omega) (by kernel_rfl) rfl ?_; clear hO; intro g2 ww hO)
                    | ((with_reducible refine gAppend ?_); refine own_append hO 1 _ _ 34 eu8 rfl rfl rfl (hO.rdAt 0 rfl) (u8s_one _) (Y + 1) (by omega) (by simp [maxLen]; omega) (by omega) ?_; clear hO; intro a2 c2 ww hO))
                  go_roundg 0
                  case measure => omega
                  case rel => exact ⟨⟨v.p, v.V * 256, W, v.k + 1⟩, R * 256, Y + 1, tz ++ [oc], a2, c2, by omega, by have := HWB.out; intro h; dsimp only at h; omega, rfl, by go_num, rfl, by show Go.Kc.Rc.norm _ = _; rw [← HN.out, HNR.out]; unfold Go.Kc.Rc.norm; have := HWB.out; dsimp only; rw [if_neg (by omega)], HP.out, by have := HWB.out; show _ ∧ _; dsimp only; omega, HLX.out, HNX.out, by have := HY.out; show _ = _; dsimp only; omega, by have := HYK.out; show _ ≤ _; omega, by have := HWB.out; intro h; dsimp only at h; omega, by rw [HUA.out]; exact hO.tail⟩
                · have HVT : Hid (v = t) := by show _ = _; rw [← HN.out]; unfold Go.Kc.Rc.norm; rw [if_neg hv]
                  have HTP : Hid (u.p = t.p) := by show _ = _; rw [← HVT.out, HP.out]
                  have d1 : decide ((v.span : Int) < 16777216) = false := decide_eq_false (by omega)
                  clear hv hq HQ
                  go_wp2
                  go_roundg (k - (j + 1))
                  case measure => omega
                  case rel => exact ⟨j + 1, t, lo, Y, tz, aY, cY, rfl, by omega, by go_num, by rw [HVT.out], rfl, rfl, HST.out, by rw [← HVT.out]; exact HLO3.out, by rw [← HVT.out]; exact HTZ.out, by rw [← HVT.out]; exact HY.out, by rw [← HTP.out]; exact hO⟩
        · obtain rfl : j = k := by omega
          have HRT : Hid (Go.Kc.enc n (Go.Kc.prs l) = r) := by
            have h := HRR.out
            rw [List.take_of_length_le (by rw [Go.Kc.prs_length, HLN.out]; omega)] at h
            exact h
          have hXm : X ≤ j + 1 := by
            obtain ⟨_, _, _, h4⟩ := Go.Kc.enc_facts HW.out
            rw [HRT.out, Go.Kc.prs_length, HLN.out] at h4
            rw [← HXX.out]; omega
          have HTE : Hid (Go.Kc.be (1 + (r.k + 4)) (r.V * 256 ^ 4 / 4294967296) = T) := by
            show _ = _
            rw [← HT.out]
            unfold Go.Kc.encT
            rw [HRT.out, show 1 + (r.k + 4) = 5 + r.k by omega, show (256 : Nat) ^ 4 = 4294967296 by decide, Nat.mul_div_cancel _ (by decide)]
          have HME : Hid (X + 4 = M) := by
            show _ = _
            rw [← HTM.out, ← HT.out, Go.Kc.encT_length, HRT.out, ← HXX.out]; omega
          clear HRR HRT
          go_wp2
          go_loopg [11, 12, 106] 4 (fun q s11 s12 c wr => ∃ (i lo Y : Nat) (tz : List (BitVec 8)) (aY : Option Addr) (cY : Nat), q = 4 - i ∧ i ≤ 4 ∧ c = .int .i64 (i : Int) ∧ s11 = .int .u64 (lo : Int) ∧ s12 = .slice aY Y cY ∧ Hid (r.V * 256 ^ i % 4294967296 = lo) ∧ Hid (Go.Kc.be (1 + (r.k + i)) (r.V * 256 ^ i / 4294967296) = tz) ∧ Hid (X + i = Y) ∧
            Own wn wr [.sl 5 1 (.slice aY Y cY) Y (u8s tz), .sl 3 1 (.slice a1 n c1) n (i64s r.p)])
          case atStart => exact ⟨0, low, X, tx, aX, cX, rfl, by omega, rfl, rfl, rfl, by show _ = _; rw [Nat.pow_zero, Nat.mul_one, HLO.out], by show _ = _; rw [Nat.pow_zero, Nat.mul_one, Nat.add_zero, HTX.out], rfl, hO⟩
          case round =>
            obtain ⟨i, lo, Y, tz, aY, cY, rfl, hi, rfl, rfl, rfl, HLI, HTZ, HYI, hO1⟩ := hrel
            clear hO
            have hO := hO1
            clear hO1
            by_cases hi4 : i < 4
            · obtain ⟨oc, hoc⟩ : ∃ oc, BitVec.ofNat 8 (lo / 16777216) = oc := ⟨_, rfl⟩
              obtain ⟨R, hRR⟩ : ∃ R, lo % 16777216 = R := ⟨_, rfl⟩
              have hlo : lo < 4294967296 := by rw [← HLI.out]; exact Nat.mod_lt _ (by decide)
              have hoN : oc.toNat = lo / 16777216 := by rw [← hoc, BitVec.toNat_ofNat]; omega
              have hol := oc.isLt
              have hRl : R < 16777216 := by omega
              have f1 : (lo : Int).tdiv 16777216 = (oc.toNat : Int) := by rw [hoN]; rfl
              have f1' : (lo : Int) / 16777216 = (oc.toNat : Int) := by rw [hoN]; rfl
              have f2 : IntKind.u8.wrap (oc.toNat : Int) = (oc.toNat : Int) := by rw [IntKind.wrap_u8']; omega
              have f3 : (lo : Int).tmod 16777216 = (R : Int) := by rw [← hRR]; rfl
              have f3' : (lo : Int) % 16777216 = (R : Int) := by rw [← hRR]; rfl
              have f4 : IntKind.u64.wrap ((R : Int) * 256) = (R : Int) * 256 := by simp [IntKind.wrap, IntKind.bits, IntKind.signed]; omega
              have hb0 : decide ((i : Int) < 4) = true := decide_eq_true (by omega)
              have HNX : Hid (Go.Kc.be (1 + (r.k + (i + 1))) (r.V * 256 ^ (i + 1) / 4294967296) = tz ++ [oc]) := by
                show _ = _
                rw [← Nat.add_assoc r.k i 1, Nat.pow_succ, ← Nat.mul_assoc, ← Go.Kc.be_more, HTZ.out, HLI.out, hoc]
              have HUA : Hid (u8s (tz ++ [oc]) = u8s tz ++ u8s [oc]) := by
                show _ = _
                unfold u8s
                rw [List.map_append]
              have HLX : Hid (r.V * 256 ^ (i + 1) % 4294967296 = R * 256) := by
                have h := HLI.out
                show _ = _
                rw [Nat.pow_succ, ← Nat.mul_assoc]
                generalize r.V * 256 ^ i = z at *
                omega
              have hyk : Y ≤ 1048585 := by have h1 := HYI.out; omega
              clear hoc hRR hlo hoN hRl
              go_wp2_with (first
                | ((with_reducible refine gBuild (T := 34) ?_); refine own_build hO 34 1 _ eu8 (u8s [oc]).toArray (by omega) (by omega) (by kernel_rfl) rfl ?_; clear hO; intro g3 ww hO)
                | ((with_reducible refine gAppend ?_); refine own_append hO 1 _ _ 34 eu8 rfl rfl rfl (hO.rdAt 0 rfl) (u8s_one _) (Y + 1) (by omega) (by simp [maxLen]; omega) (by omega) ?_; clear hO; intro a2 c2 ww hO))
              go_roundg (4 - (i + 1))
              case measure => omega
              case rel => exact ⟨i + 1, R * 256, Y + 1, tz ++ [oc], a2, c2, rfl, by omega, by go_num, by go_num, rfl, HLX.out, HNX.out, by have := HYI.out; show _ = _; omega, by rw [HUA.out]; exact hO.tail⟩
            · obtain rfl : i = 4 := by omega
              obtain rfl : M = Y := by rw [← HME.out, HYI.out]
              obtain rfl : T = tz := by rw [← HTE.out, HTZ.out]
              go_wp2
              go_ret2
              exact ⟨aY, cY, rfl, hO.below, hO.row 0 rfl⟩
end Go.Proofs.Ytnkpjmcgecdkfaa
