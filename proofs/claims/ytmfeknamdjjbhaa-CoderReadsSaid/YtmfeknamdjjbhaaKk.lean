/- Walks: the document's SameBits, Start. -/
import Derived.Test.YtmfeknamdjjbhaaKj
import Derived.Test.YtmfeknamdjjbhaaKi
import Derived.Test.YtmfeknamdjjbhaaKcc
namespace Go.Own
open Go.RowKit
section
variable {P : Program}
/-- three results: a slot, a block, a slot -/
theorem res_tct {fn : Func} {p u v : Tmp} {ty : TypeId} (h : fn.results = #[.tmp v, .cell p ty, .tmp u]) (tmps : Array Value) (w : World) (g : Nat) (t : TypeId) (cs : Array Value) (fr : Nat × Nat) (d : TypeDesc)
    (hp : tmps.getD p undef = .pointer (some ⟨g, 0, none⟩)) (hg : w.heap[g]? = some (.cells cs t fr))
    (hu : P.underlying ty = some d) (hd : (match d with | .struct _ | .array _ _ => true | _ => false) = true) (hi : (P.info? ty).map (·.size) = some cs.size) :
    (results fn tmps).run P w = .ok (.tuple #[tmps.getD v undef, .agg cs, tmps.getD u undef]) w := by
  have hp' : tmps[p]?.getD undef = .pointer (some ⟨g, 0, none⟩) := by simpa using hp
  simp [results, h, hp', asAddr, run_loadVar_row w g t ty cs fr d hg hu hd hi]
end
end Go.Own
namespace Go.Proofs.Ytmfeknamdjjbhaa
open Go.RowKit Go.Own Go.Bv Go.Ord Go.Eq Go.Opn Go.Pb

theorem blv_length (l : List Bool) : (blv l).length = l.length := by simp [blv]
theorem take_sameb {l r : List Bool} {k : Nat} (h : l.take k = r.take k) {s : Bool} (h1 : l[k]? = some s) (h2 : r[k]? = some s) : l.take (k + 1) = r.take (k + 1) := by
  rw [List.take_add_one, List.take_add_one, h, h1, h2]

set_option maxHeartbeats 2000000 in
set_option maxRecDepth 100000 in
theorem sbits_calls (a1 a2 : Option Addr) (n1 c1 n2 c2 : Nat) (l r : List Bool) (w : World) (h1 : Rd w 1 a1 n1 c1 (blv l)) (h2 : Rd w 1 a2 n2 c2 (blv r)) :
    Calls Try.prog 20 #[.slice a1 n1 c1, .slice a2 n2 c2] w fun e w' => e = .returned (.bool (decide (l = r))) ∧ Below w.heap.size w w' := by
  have hO := Own.start w
  have hl1 : l.length = n1 := by have := h1.len; rw [blv_length] at this; omega
  have hl2 : r.length = n2 := by have := h2.len; rw [blv_length] at this; omega
  have HR1 := Lib.hid h1
  have HR2 := Lib.hid h2
  have hm := h1.max
  have hle := h1.le
  unfold maxLen at hm
  clear h1 h2
  by_cases hn : n1 = n2
  · subst hn
    have HL1 := Lib.hid hl1
    have HL2 := Lib.hid hl2
    generalize hW : w = wn at hO HR1 HR2 ⊢
    clear hW w hl1 hl2
    obtain ⟨B, hB⟩ : ∃ B, decide (l = r) = B := ⟨_, rfl⟩
    have HB := Lib.hid hB
    rw [hB]
    clear hB
    go_enter Try.func20, Try.ntmps20
    go_wp2
    go_loopg [13] n1 (fun m c wr => ∃ k : Nat, m = n1 - k ∧ k ≤ n1 ∧ c = .int .i64 (k : Int) ∧ l.take k = r.take k ∧ Own wn wr [])
    case atStart => exact ⟨0, rfl, by omega, rfl, rfl, hO⟩
    case round =>
      obtain ⟨k, rfl, hk, rfl, hE, hO1⟩ := hrel
      clear hO
      have hO := hO1
      have HE := Lib.hid hE
      clear hO1 hE
      by_cases c1 : k < n1
      · have d1 : decide ((k : Int) < (n1 : Int)) = true := by simp; omega
        have hs := List.getElem?_eq_getElem (l := l) (i := k) (by rw [HL1.out]; exact c1)
        have ht := List.getElem?_eq_getElem (l := r) (i := k) (by rw [HL2.out]; exact c1)
        have hs2 := blv_get l k (by rw [HL1.out]; exact c1)
        have ht2 := blv_get r k (by rw [HL2.out]; exact c1)
        generalize l[k]'(by rw [HL1.out]; exact c1) = s at hs hs2
        generalize r[k]'(by rw [HL2.out]; exact c1) = t at ht ht2
        have HS := Lib.hid hs
        have HT := Lib.hid ht
        have HS2 := Lib.hid hs2
        have HT2 := Lib.hid ht2
        clear hs ht hs2 ht2
        obtain ⟨b1, o1, rfl⟩ := HR1.out.place (by omega)
        obtain ⟨b2, o2, rfl⟩ := HR2.out.place (by omega)
        by_cases c2 : s = t
        · subst c2
          have HE2 := Lib.hid (take_sameb HE.out HS.out HT.out)
          go_wp2
          refine wp_region_text (by kernel_rfl) (by kernel_rfl) ?_
          replace hO := hO.drew
          generalize World.drew _ = wd at hO ⊢
          go_wp2_with (first
            | ((with_reducible refine gLoad (T := 4) ?_); first | refine ld_rd (hO.rd HR1.out) rfl HS2.out (tA rfl) ?_ | refine ld_rd (hO.rd HR2.out) rfl HT2.out (tA rfl) ?_)
            | ((with_reducible refine gI ?_); refine wpI_step rfl rfl (by kernel_rfl) ?_; intro K hK; have HK := Lib.hid hK; clear hK) | ((with_reducible refine gI ?_); first | refine wpI_skip rfl ?_ | refine wpI_want rfl ?_) | ((with_reducible refine gOnlyK0 HK.out ?_); clear HK K; first | (refine wpI_act (by simp only [Act.put, List.setIfInBounds_toArray, List.set_cons_succ, List.set_cons_zero]; rfl) ?_) | skip) | (with_reducible refine wpI_nil ?_))
          go_roundg (n1 - (k + 1))
          case measure => omega
          case rel => exact ⟨k + 1, rfl, by omega, by go_num, HE2.out, hO⟩
        · have d3 : (s == t) = false := by simpa using c2
          have HBF : Hid (B = false) := by
            rw [← HB.out]
            exact decide_eq_false fun h => c2 (by have h3 := HS.out; rw [h, HT.out] at h3; exact (Option.some.inj h3).symm)
          go_wp2
          refine wp_region_text (by kernel_rfl) (by kernel_rfl) ?_
          replace hO := hO.drew
          generalize World.drew _ = wd at hO ⊢
          go_wp2_with (first
            | ((with_reducible refine gLoad (T := 4) ?_); first | refine ld_rd (hO.rd HR1.out) rfl HS2.out (tA rfl) ?_ | refine ld_rd (hO.rd HR2.out) rfl HT2.out (tA rfl) ?_)
            | ((with_reducible refine gI ?_); refine wpI_step rfl rfl (by kernel_rfl) ?_; intro K hK; have HK := Lib.hid hK; clear hK) | ((with_reducible refine gI ?_); first | refine wpI_skip rfl ?_ | refine wpI_want rfl ?_) | ((with_reducible refine gOnlyK0 HK.out ?_); clear HK K; first | (refine wpI_act (by simp only [Act.put, List.setIfInBounds_toArray, List.set_cons_succ, List.set_cons_zero]; rfl) ?_) | skip) | (with_reducible refine wpI_nil ?_))
          go_ret
          exact ⟨by rw [HBF.out]; rfl, hO.below⟩
      · obtain rfl : k = n1 := by omega
        have HBT : Hid (B = true) := by
          rw [← HB.out]
          refine decide_eq_true ?_
          have h := HE.out
          rw [List.take_of_length_le (by rw [HL1.out]; exact Nat.le_refl _), List.take_of_length_le (by rw [HL2.out]; exact Nat.le_refl _)] at h
          exact h
        go_wp2
        go_ret
        exact ⟨by rw [HBT.out]; rfl, hO.below⟩
  · have d1 : ((n1 : Int) == (n2 : Int)) = false := by simp; omega
    have hd : decide (l = r) = false := decide_eq_false fun h => hn (by rw [← hl1, ← hl2, h])
    rw [hd]
    generalize hW : w = wn at hO ⊢
    clear hW w hd hn hl1 hl2 HR1 HR2
    go_enter Try.func20, Try.ntmps20
    go_wp2
    go_ret
    exact ⟨rfl, hO.below⟩

def rgC (pS : Value) (span code used : Nat) : Array Value := #[pS, .int .u32 (span : Int), .int .u32 (code : Int), .int .i64 (used : Int)]
theorem irgz : (Try.prog.info? 38).bind (·.zero) = some (.agg (rgC (.slice none 0 0) 0 0 0)) := by kernel_rfl
theorem irg (pS : Value) (span code used : Nat) : (Try.prog.info? 38).map (·.size) = some (rgC pS span code used).size := by
  show _ = some 4
  kernel_rfl

set_option maxHeartbeats 4000000 in
set_option maxRecDepth 100000 in
theorem rstart_ok (n : Nat) (hn : n ≤ 1024) (a : Option Addr) (m cap : Nat) (b : List (BitVec 8)) (w : World) (hR : Rd w 1 a m cap (u8s b)) (ho : Go.Kc.mayOpen b) (V : Nat) (hV : Go.Kc.val ((b.drop 1).take 4) = V) :
    Calls Try.prog 13 #[.int .i64 (n : Int), .slice a m cap] w fun e w' => ∃ a' c', e = .returned (.tuple #[.agg (rgC (.slice a' n c') 4294967295 V 5), .int .i64 0]) ∧ Below w.heap.size w w' ∧ w'.ownsRow w.heap.size 3 1 (.slice a' n c') n (i64s (List.replicate n 1024)) := by
  have hb : b.length = m := by have := hR.len; rw [u8s_length] at this; omega
  obtain ⟨h5, h0, hV2⟩ := ho
  have hO := Own.start w
  have hnT : newT (n : Int) = List.replicate n 1024 := by unfold newT; rw [if_pos (by omega), Int.toNat_natCast]
  have hnE : newE (n : Int) = 0 := by unfold newE; rw [if_pos (by omega)]
  have HNEW := Lib.hid (fun w => rNew_calls (n : Int) w n (List.replicate n 1024) 0 (by rw [hnT, List.length_replicate]) hnT hnE)
  have hg0 : (u8s b)[0]? = some (.int .u8 0) := by
    have h : 0 < b.length := by omega
    rw [u8s_get b 0 h]
    have h0' : b[0] = 0#8 := by
      have e : b.getD 0 0 = b[0] := by simp [h]
      rw [← e]; exact h0
    rw [h0']; rfl
  obtain ⟨ba, off, rfl⟩ := hR.place (by omega)
  have hcut := hR.cut 1 4 (by omega)
  have HG0 := Lib.hid hg0
  have HR := Lib.hid hR
  have HC := Lib.hid hcut
  have HV := Lib.hid hV
  have HB := Lib.hid hb
  have HV2 : Hid (V ≠ 4294967295) := by rw [← hV]; exact hV2
  have hmc : m ≤ cap := hR.le
  have hm5 : 5 ≤ m := by omega
  have hmm := Nat.le_trans hR.le hR.max
  unfold maxLen at hmm
  have d1 : decide ((m : Int) < 5) = false := decide_eq_false (by omega)
  clear hR hb h0 hg0 hnT hnE hV hV2 h5 hcut
  generalize hWW : w = wn at hO HR HC ⊢
  clear hWW w
  go_enter Try.func13, Try.ntmps13
  go_wp2_with (first
    | ((with_reducible refine gG ?_); refine wpList_want rfl ?_)
    | ((with_reducible refine gAlloc ?_); refine own_alloc hO _ _ irgz ?_; clear hO; intro zb ww hO)
    | (go_at_call 29; refine (HNEW.out _).mono ?_; rintro e ww ⟨a1, c1, rfl, hb, hr⟩; replace hO := hO.addRow hb hr; clear hb hr)
    | ((with_reducible refine gLoad (T := 5) ?_); refine ld_rd (hO.rd HR.out) rfl HG0.out (tA rfl) ?_))
  clear d1
  go_loopg [8, 33] 4 (fun q s8 c wr => ∃ (j code : Nat), q = 4 - j ∧ j ≤ 4 ∧ c = .int .i64 (j : Int) ∧ s8 = .int .u32 (code : Int) ∧ Hid (Go.Kc.val ((b.drop 1).take j) = code) ∧
    Own wn wr [.sl 3 1 (.slice a1 n c1) n (i64s (List.replicate n 1024)), .blk zb (.cells (rgC (.slice none 0 0) 0 0 0) 38 (0,0))])
  case atStart => exact ⟨0, 0, rfl, by omega, rfl, rfl, rfl, hO⟩
  case round =>
    obtain ⟨j, code, rfl, hj, rfl, rfl, HCD, hO1⟩ := hrel
    clear hO
    have hO := hO1
    clear hO1
    by_cases hj4 : j < 4
    · have hb0 : decide ((j : Int) < 4) = true := decide_eq_true (by omega)
      have hlt : 1 + j < b.length := by rw [HB.out]; omega
      have hx : (u8s ((b.drop 1).take 4))[j]? = some (.int .u8 ((b.getD (1 + j) 0).toNat : Int)) := by
        have hjl : j < ((b.drop 1).take 4).length := by simp; omega
        rw [u8s_get _ j hjl, List.getElem_take, List.getElem_drop]
        simp [hlt]
      have hx2 : ((u8s b).drop 1).take 4 = u8s ((b.drop 1).take 4) := by unfold u8s; rw [List.map_take, List.map_drop]
      rw [← hx2] at hx
      obtain ⟨C, hC⟩ : ∃ C, code * 256 + (b.getD (1 + j) 0).toNat = C := ⟨_, rfl⟩
      have HN : Hid (Go.Kc.val ((b.drop 1).take (j + 1)) = C) := by
        show _ = _
        rw [Go.Kc.be4 j hlt, HCD.out, hC]
      have hcl : code < 16777216 := by rw [← HCD.out]; exact Go.Kc.lt4 b j (by omega)
      have hxl := (b.getD (1 + j) 0).isLt
      generalize b.getD (1 + j) 0 = x at hx hC hxl
      have e1 : IntKind.u32.wrap ((code : Int) * 256) = (code : Int) * 256 := by simp [IntKind.wrap, IntKind.bits, IntKind.signed]; omega
      have e2 : IntKind.u32.wrap (x.toNat : Int) = (x.toNat : Int) := by simp [IntKind.wrap, IntKind.bits, IntKind.signed]; omega
      have e3 : IntKind.u32.wrap ((code : Int) * 256 + (x.toNat : Int)) = (C : Int) := by simp [IntKind.wrap, IntKind.bits, IntKind.signed]; omega
      have HX := Lib.hid hx
      clear hx hC hcl hlt hx2
      go_wp2_with (first
        | ((with_reducible refine gLoad (T := 5) ?_); refine ld_rd (hO.rd HC.out) rfl HX.out (tA rfl) ?_))
      go_roundg (4 - (j + 1))
      case measure => omega
      case rel => exact ⟨j + 1, C, rfl, by omega, by go_num, rfl, HN.out, hO⟩
    · obtain rfl : j = 4 := by omega
      obtain rfl : code = V := by rw [← HCD.out, HV.out]
      have d3 : ((code : Int) == 4294967295) = false := by have := HV2.out; simp; omega
      go_wp2_with (first
        | ((with_reducible refine gBld (T := 38) ?_); refine own_bld (rgC (.slice a1 n c1) 4294967295 code 5) (by kernel_rfl) ?_)
        | ((with_reducible refine gStore ?_); first | (refine stX hO 0 rfl rfl rfl rfl rfl (tS rfl) ?_; clear hO; intro ww hO) | (refine stC hO 0 rfl rfl rfl (ltb rfl) rfl (tS rfl) ?_; clear hO; intro ww hO) | (refine stX hO 1 rfl rfl rfl rfl rfl (tS rfl) ?_; clear hO; intro ww hO) | (refine stC hO 1 rfl rfl rfl (ltb rfl) rfl (tS rfl) ?_; clear hO; intro ww hO)))
      refine bodyPost_ret (res_ct rfl _ _ zb 38 (rgC (.slice a1 n c1) 4294967295 code 5) (0,0) _ rfl (hO.blk 1 rfl) Try.underlying38 rfl (irg _ _ _ _)) rfl ⟨a1, c1, rfl, hO.below, hO.row 0 rfl⟩

set_option maxHeartbeats 4000000 in
set_option maxRecDepth 100000 in
theorem rstart_max (n : Nat) (hn : n ≤ 1024) (a : Option Addr) (m cap : Nat) (b : List (BitVec 8)) (w : World) (hR : Rd w 1 a m cap (u8s b)) (h5 : 5 ≤ b.length) (h0 : b.getD 0 0 = 0#8) (hV : Go.Kc.val ((b.drop 1).take 4) = 4294967295) :
    Calls Try.prog 13 #[.int .i64 (n : Int), .slice a m cap] w fun e w' => e = .returned (.tuple #[.agg (rgC (.slice none 0 0) 0 0 0), .int .i64 2]) ∧ Below w.heap.size w w' := by
  have hb : b.length = m := by have := hR.len; rw [u8s_length] at this; omega
  have hO := Own.start w
  have hnT : newT (n : Int) = List.replicate n 1024 := by unfold newT; rw [if_pos (by omega), Int.toNat_natCast]
  have hnE : newE (n : Int) = 0 := by unfold newE; rw [if_pos (by omega)]
  have HNEW := Lib.hid (fun w => rNew_calls (n : Int) w n (List.replicate n 1024) 0 (by rw [hnT, List.length_replicate]) hnT hnE)
  have hg0 : (u8s b)[0]? = some (.int .u8 0) := by
    have h : 0 < b.length := by omega
    rw [u8s_get b 0 h]
    have h0' : b[0] = 0#8 := by
      have e : b.getD 0 0 = b[0] := by simp [h]
      rw [← e]; exact h0
    rw [h0']; rfl
  obtain ⟨ba, off, rfl⟩ := hR.place (by omega)
  have hcut := hR.cut 1 4 (by omega)
  have HG0 := Lib.hid hg0
  have HR := Lib.hid hR
  have HC := Lib.hid hcut
  have HV := Lib.hid hV
  have HB := Lib.hid hb
  have hmc : m ≤ cap := hR.le
  have hm5 : 5 ≤ m := by omega
  have hmm := Nat.le_trans hR.le hR.max
  unfold maxLen at hmm
  have d1 : decide ((m : Int) < 5) = false := decide_eq_false (by omega)
  clear hR hb h0 hg0 hnT hnE hV h5 hcut
  generalize hWW : w = wn at hO HR HC ⊢
  clear hWW w
  go_enter Try.func13, Try.ntmps13
  go_wp2_with (first
    | ((with_reducible refine gG ?_); refine wpList_want rfl ?_)
    | ((with_reducible refine gAlloc ?_); refine own_alloc hO _ _ irgz ?_; clear hO; intro zb ww hO)
    | (go_at_call 29; refine (HNEW.out _).mono ?_; rintro e ww ⟨a1, c1, rfl, hb, hr⟩; replace hO := hO.addRow hb hr; clear hb hr)
    | ((with_reducible refine gLoad (T := 5) ?_); refine ld_rd (hO.rd HR.out) rfl HG0.out (tA rfl) ?_))
  clear d1
  go_loopg [8, 33] 4 (fun q s8 c wr => ∃ (j code : Nat), q = 4 - j ∧ j ≤ 4 ∧ c = .int .i64 (j : Int) ∧ s8 = .int .u32 (code : Int) ∧ Hid (Go.Kc.val ((b.drop 1).take j) = code) ∧
    Own wn wr [.sl 3 1 (.slice a1 n c1) n (i64s (List.replicate n 1024)), .blk zb (.cells (rgC (.slice none 0 0) 0 0 0) 38 (0,0))])
  case atStart => exact ⟨0, 0, rfl, by omega, rfl, rfl, rfl, hO⟩
  case round =>
    obtain ⟨j, code, rfl, hj, rfl, rfl, HCD, hO1⟩ := hrel
    clear hO
    have hO := hO1
    clear hO1
    by_cases hj4 : j < 4
    · have hb0 : decide ((j : Int) < 4) = true := decide_eq_true (by omega)
      have hlt : 1 + j < b.length := by rw [HB.out]; omega
      have hx : (u8s ((b.drop 1).take 4))[j]? = some (.int .u8 ((b.getD (1 + j) 0).toNat : Int)) := by
        have hjl : j < ((b.drop 1).take 4).length := by simp; omega
        rw [u8s_get _ j hjl, List.getElem_take, List.getElem_drop]
        simp [hlt]
      have hx2 : ((u8s b).drop 1).take 4 = u8s ((b.drop 1).take 4) := by unfold u8s; rw [List.map_take, List.map_drop]
      rw [← hx2] at hx
      obtain ⟨C, hC⟩ : ∃ C, code * 256 + (b.getD (1 + j) 0).toNat = C := ⟨_, rfl⟩
      have HN : Hid (Go.Kc.val ((b.drop 1).take (j + 1)) = C) := by
        show _ = _
        rw [Go.Kc.be4 j hlt, HCD.out, hC]
      have hcl : code < 16777216 := by rw [← HCD.out]; exact Go.Kc.lt4 b j (by omega)
      have hxl := (b.getD (1 + j) 0).isLt
      generalize b.getD (1 + j) 0 = x at hx hC hxl
      have e1 : IntKind.u32.wrap ((code : Int) * 256) = (code : Int) * 256 := by simp [IntKind.wrap, IntKind.bits, IntKind.signed]; omega
      have e2 : IntKind.u32.wrap (x.toNat : Int) = (x.toNat : Int) := by simp [IntKind.wrap, IntKind.bits, IntKind.signed]; omega
      have e3 : IntKind.u32.wrap ((code : Int) * 256 + (x.toNat : Int)) = (C : Int) := by simp [IntKind.wrap, IntKind.bits, IntKind.signed]; omega
      have HX := Lib.hid hx
      clear hx hC hcl hlt hx2
      go_wp2_with (first
        | ((with_reducible refine gLoad (T := 5) ?_); refine ld_rd (hO.rd HC.out) rfl HX.out (tA rfl) ?_))
      go_roundg (4 - (j + 1))
      case measure => omega
      case rel => exact ⟨j + 1, C, rfl, by omega, by go_num, rfl, HN.out, hO⟩
    · obtain rfl : j = 4 := by omega
      have hc4 : code = 4294967295 := by rw [← HCD.out, HV.out]
      subst hc4
      clear HCD HV
      go_wp2_with (first
        | ((with_reducible refine gBld (T := 38) ?_); refine own_bld (rgC (.slice none 0 0) 0 0 0) (by kernel_rfl) ?_)
        | ((with_reducible refine gStore ?_); first | (refine stX hO 0 rfl rfl rfl rfl rfl (tS rfl) ?_; clear hO; intro ww hO) | (refine stC hO 0 rfl rfl rfl (ltb rfl) rfl (tS rfl) ?_; clear hO; intro ww hO) | (refine stX hO 1 rfl rfl rfl rfl rfl (tS rfl) ?_; clear hO; intro ww hO) | (refine stC hO 1 rfl rfl rfl (ltb rfl) rfl (tS rfl) ?_; clear hO; intro ww hO)))
      refine bodyPost_ret (res_ct rfl _ _ zb 38 (rgC (.slice none 0 0) 0 0 0) (0,0) _ rfl (hO.blk 1 rfl) Try.underlying38 rfl (irg _ _ _ _)) rfl ⟨rfl, hO.below⟩

set_option maxHeartbeats 4000000 in
set_option maxRecDepth 100000 in
theorem rstart_bad (x : Int) (a : Option Addr) (m cap : Nat) (b : List (BitVec 8)) (w : World) (hR : Rd w 1 a m cap (u8s b)) (E : Int) (hE : Go.Kc.opE x b = E) (h0 : E ≠ 0) :
    Calls Try.prog 13 #[.int .i64 x, .slice a m cap] w fun e w' => e = .returned (.tuple #[.agg (rgC (.slice none 0 0) 0 0 0), .int .i64 E]) ∧ Below w.heap.size w w' := by
  have hb : b.length = m := by have := hR.len; rw [u8s_length] at this; omega
  have hO := Own.start w
  by_cases hx : 0 ≤ x ∧ x ≤ 1024
  · obtain ⟨n, rfl⟩ : ∃ n : Nat, x = (n : Int) := ⟨x.toNat, by omega⟩
    have hnT : newT (n : Int) = List.replicate n 1024 := by unfold newT; rw [if_pos (by omega), Int.toNat_natCast]
    have hnE : newE (n : Int) = 0 := by unfold newE; rw [if_pos (by omega)]
    have HNEW := Lib.hid (fun w => rNew_calls (n : Int) w n (List.replicate n 1024) 0 (by rw [hnT, List.length_replicate]) hnT hnE)
    have hmo : ¬ Go.Kc.mayOpen b := by
      intro h
      unfold Go.Kc.opE at hE
      rw [if_pos hx, if_pos h] at hE
      exact h0 hE.symm
    have e1 : E = 2 := by rw [← hE]; unfold Go.Kc.opE; rw [if_pos hx, if_neg hmo]
    subst e1
    by_cases h5 : m < 5
    · have d1 : decide ((m : Int) < 5) = true := decide_eq_true (by omega)
      clear hE hnT hnE hR hx hb hmo h0
      generalize hWW : w = wn at hO ⊢
      clear hWW w
      go_enter Try.func13, Try.ntmps13
      go_wp2_with (first
        | ((with_reducible refine gG ?_); refine wpList_want rfl ?_) | ((with_reducible refine gAlloc ?_); refine own_alloc hO _ _ irgz ?_; clear hO; intro zb ww hO) | ((with_reducible refine gBld (T := 38) ?_); refine own_bld (rgC (.slice none 0 0) 0 0 0) (by kernel_rfl) ?_) | ((with_reducible refine gStore ?_); first | (refine stX hO 0 rfl rfl rfl rfl rfl (tS rfl) ?_; clear hO; intro ww hO) | (refine stC hO 0 rfl rfl rfl (ltb rfl) rfl (tS rfl) ?_; clear hO; intro ww hO) | (refine stX hO 1 rfl rfl rfl rfl rfl (tS rfl) ?_; clear hO; intro ww hO) | (refine stC hO 1 rfl rfl rfl (ltb rfl) rfl (tS rfl) ?_; clear hO; intro ww hO))
        | (go_at_call 29; refine (HNEW.out _).mono ?_; rintro e ww ⟨a1, c1, rfl, hb, hr⟩; replace hO := hO.addRow hb hr; clear hb hr))
      refine bodyPost_ret (res_ct rfl _ _ zb 38 (rgC (.slice none 0 0) 0 0 0) (0,0) _ rfl (hO.blk 1 rfl) Try.underlying38 rfl (irg _ _ _ _)) rfl ?_
      exact ⟨rfl, hO.below⟩
    · by_cases hz : b.getD 0 0 = 0#8
      · have hV : Go.Kc.val ((b.drop 1).take 4) = 4294967295 := by
          apply Classical.byContradiction
          intro hne
          exact hmo ⟨by omega, hz, hne⟩
        exact rstart_max n (by omega) a m cap b w hR (by omega) hz hV
      · have d1 : decide ((m : Int) < 5) = false := decide_eq_false (by omega)
        have h0b : 0 < b.length := by omega
        have hg0 : (u8s b)[0]? = some (.int .u8 ((b.getD 0 0).toNat : Int)) := by
          rw [u8s_get b 0 h0b]; simp [h0b]
        have hzz : ((b.getD 0 0).toNat : Int) ≠ 0 := by
          intro h; exact hz (BitVec.eq_of_toNat_eq (by simpa using h))
        generalize b.getD 0 0 = c0 at hg0 hzz
        have dz : ((c0.toNat : Int) == 0) = false := by simpa using hzz
        have HG0 := Lib.hid hg0
        have HR := Lib.hid hR
        obtain ⟨ba, off, rfl⟩ := hR.place (by omega)
        have hm5 : 0 < m := by omega
        clear hE hnT hnE hR hx hb hmo h0 hz h0b hg0 hzz
        generalize hWW : w = wn at hO HR ⊢
        clear hWW w
        go_enter Try.func13, Try.ntmps13
        go_wp2_with (first
          | ((with_reducible refine gG ?_); refine wpList_want rfl ?_) | ((with_reducible refine gAlloc ?_); refine own_alloc hO _ _ irgz ?_; clear hO; intro zb ww hO) | ((with_reducible refine gBld (T := 38) ?_); refine own_bld (rgC (.slice none 0 0) 0 0 0) (by kernel_rfl) ?_) | ((with_reducible refine gStore ?_); first | (refine stX hO 0 rfl rfl rfl rfl rfl (tS rfl) ?_; clear hO; intro ww hO) | (refine stC hO 0 rfl rfl rfl (ltb rfl) rfl (tS rfl) ?_; clear hO; intro ww hO) | (refine stX hO 1 rfl rfl rfl rfl rfl (tS rfl) ?_; clear hO; intro ww hO) | (refine stC hO 1 rfl rfl rfl (ltb rfl) rfl (tS rfl) ?_; clear hO; intro ww hO))
          | (go_at_call 29; refine (HNEW.out _).mono ?_; rintro e ww ⟨a1, c1, rfl, hb, hr⟩; replace hO := hO.addRow hb hr; clear hb hr)
          | ((with_reducible refine gLoad (T := 5) ?_); refine ld_rd (hO.rd HR.out) rfl HG0.out (tA rfl) ?_))
        refine bodyPost_ret (res_ct rfl _ _ zb 38 (rgC (.slice none 0 0) 0 0 0) (0,0) _ rfl (hO.blk 1 rfl) Try.underlying38 rfl (irg _ _ _ _)) rfl ?_
        exact ⟨rfl, hO.below⟩
  · have e1 : E = 1 := by rw [← hE]; unfold Go.Kc.opE; rw [if_neg hx]
    subst e1
    have hnT : newT x = [] := by unfold newT; rw [if_neg hx]
    have hnE : newE x = 1 := by unfold newE; rw [if_neg hx]
    have HNEW := Lib.hid (fun w => rNew_calls x w 0 [] 1 (by rw [hnT]; rfl) hnT hnE)
    clear hE hnT hnE hR hx hb h0
    generalize hWW : w = wn at hO ⊢
    clear hWW w
    go_enter Try.func13, Try.ntmps13
    go_wp2_with (first
      | ((with_reducible refine gG ?_); refine wpList_want rfl ?_) | ((with_reducible refine gAlloc ?_); refine own_alloc hO _ _ irgz ?_; clear hO; intro zb ww hO) | ((with_reducible refine gBld (T := 38) ?_); refine own_bld (rgC (.slice none 0 0) 0 0 0) (by kernel_rfl) ?_) | ((with_reducible refine gStore ?_); first | (refine stX hO 0 rfl rfl rfl rfl rfl (tS rfl) ?_; clear hO; intro ww hO) | (refine stC hO 0 rfl rfl rfl (ltb rfl) rfl (tS rfl) ?_; clear hO; intro ww hO) | (refine stX hO 1 rfl rfl rfl rfl rfl (tS rfl) ?_; clear hO; intro ww hO) | (refine stC hO 1 rfl rfl rfl (ltb rfl) rfl (tS rfl) ?_; clear hO; intro ww hO))
      | (go_at_call 29; refine (HNEW.out _).mono ?_; rintro e ww ⟨a1, c1, rfl, hb, hr⟩; replace hO := hO.addRow hb hr; clear hb hr))
    refine bodyPost_ret (res_ct rfl _ _ zb 38 (rgC (.slice none 0 0) 0 0 0) (0,0) _ rfl (hO.blk 1 rfl) Try.underlying38 rfl (irg _ _ _ _)) rfl ?_
    exact ⟨rfl, hO.below⟩

end Go.Proofs.Ytmfeknamdjjbhaa
