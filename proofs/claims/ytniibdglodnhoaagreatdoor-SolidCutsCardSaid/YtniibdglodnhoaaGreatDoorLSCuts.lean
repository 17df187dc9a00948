/- The law SolidCuts. -/
import Derived.Test.YtniibdglodnhoaaGreatDoorU10
namespace Go.Proofs.YtniibdglodnhoaaGreatDoor
open Go.RowKit Go.Own Go.Bv Go.Ord Go.Eq Go.Opn Go.Pb Go.Sl

theorem inc_u8 (x : BitVec 8) : IntKind.u8.wrap ((x.toNat : Int) + 1) = (((x + 1#8).toNat : Nat) : Int) := by simp [IntKind.wrap, IntKind.bits, IntKind.signed, BitVec.toNat_add]
theorem cuts_fi : flatInt Tryz.prog 29 = false := by kernel_rfl
set_option maxHeartbeats 8000000 in
set_option maxRecDepth 100000 in
theorem scuts_walk (key : St) (a : Option Addr) (n cap : Nat) (b : List (BitVec 8)) (a2 : Option Addr) (m c2 : Nat) (l : List Pc) (w : World) (hR : Rd w 1 a n cap (u8s b)) (hL : Rd w 3 a2 m c2 (pcs l)) (hT : Turns w) :
    Calls Tryz.prog 4 #[.agg key.C, .slice a n cap, .slice a2 m c2] w fun e w' => e = .returned (.bool true) ∧ Below w.heap.size w w' := by
  have hO := Own.start w
  have HR := Lib.hid hR
  have HL := Lib.hid hL
  have HT := Lib.hid hT
  by_cases h1 : 200 < n
  · have d1 : decide ((200 : Int) < (n : Int)) = true := decide_eq_true (by omega)
    clear hR hL hT h1
    generalize hW : w = wn at hO HT HR HL ⊢
    clear hW w
    go_enter Tryz.func4, Tryz.ntmps4
    go_wp2_with (first
      | ((with_reducible refine gBox ?_); first | (refine bxA hO rfl ?_; clear hO; intro bk ww hO) | (refine bx1 hO rfl rfl ?_; clear hO; intro bk ww hO))
      | (go_at_call 5; refine (slive_calls _ (HT.out.own hO)).mono ?_; rintro e ww ⟨rfl, hb⟩; replace hO := hO.call hb; clear hb))
    go_ret
    exact ⟨rfl, hO.below⟩
  have d1 : decide ((200 : Int) < (n : Int)) = false := decide_eq_false (by omega)
  by_cases h2 : 20 < m
  · have d2 : decide ((20 : Int) < (m : Int)) = true := decide_eq_true (by omega)
    clear hR hL hT h1 h2
    generalize hW : w = wn at hO HT HR HL ⊢
    clear hW w
    go_enter Tryz.func4, Tryz.ntmps4
    go_wp2_with (first
      | ((with_reducible refine gBox ?_); first | (refine bxA hO rfl ?_; clear hO; intro bk ww hO) | (refine bx1 hO rfl rfl ?_; clear hO; intro bk ww hO))
      | (go_at_call 5; refine (slive_calls _ (HT.out.own hO)).mono ?_; rintro e ww ⟨rfl, hb⟩; replace hO := hO.call hb; clear hb))
    go_ret
    exact ⟨rfl, hO.below⟩
  have d2 : decide ((20 : Int) < (m : Int)) = false := decide_eq_false (by omega)
  have hll : l.length = m := by have := hL.len; rw [pcs_length] at this; omega
  have HLL := Lib.hid hll
  obtain ⟨E, hE⟩ : ∃ E, teE key b l = E := ⟨_, rfl⟩
  have G1 := Lib.hid (fun w h1 h2 hT => test_calls key a n cap b a2 m c2 l w h1 h2 hT E hE)
  have G2 := Lib.hid (fun w h1 h2 => rtest_calls key a n cap b a2 m c2 l w h1 h2 E hE)
  have hn : n ≤ 200 := by omega
  have hm20 : m ≤ 20 := by omega
  clear hR hL hT h1 h2 hll hE
  generalize hW : w = wn at hO HT HR HL ⊢
  clear hW w
  go_enter Tryz.func4, Tryz.ntmps4
  go_wp2_with (first
    | ((with_reducible refine gBox ?_); first | (refine bxA hO rfl ?_; clear hO; intro bk ww hO) | (refine bx1 hO rfl rfl ?_; clear hO; intro bk ww hO))
    | ((with_reducible refine Go.Bva.gCnv (s := 29) (t := 9) ?_); refine Go.Bva.step_val (run_value rfl (run_bytes_string _ Tryz.underlying29 Tryz.underlying5 Tryz.underlying9 (hO.rd HR.out))) ?_)
    | (go_at_call 5; refine (slive_calls _ (HT.out.own hO)).mono ?_; rintro e ww ⟨rfl, hb⟩; replace hO := hO.call hb; clear hb))
  go_loopg [30] m (fun q c wr => ∃ k : Nat, q = m - k ∧ k ≤ m ∧ c = .int .i64 (k : Int) ∧ Own wn wr [.blk bk (.cells key.C 24 (0,0))])
  case atStart => exact ⟨0, rfl, by omega, rfl, hO⟩
  case round =>
    obtain ⟨k, rfl, hk, rfl, hO1⟩ := hrel
    clear hO
    have hO := hO1
    clear hO1
    by_cases hlt : k < m
    · have d0 : decide ((k : Int) < (m : Int)) = true := decide_eq_true (by omega)
      have hkl : k < l.length := by rw [HLL.out]; exact hlt
      have hx : l[k]? = some l[k] := List.getElem?_eq_getElem hkl
      generalize l[k] = t at *
      obtain ⟨ba, off, rfl⟩ := HL.out.place (by omega)
      obtain ⟨E2, hE2⟩ : ∃ x, cutE b t = x := ⟨_, rfl⟩
      obtain ⟨T2, hT2⟩ : ∃ x, cutT b t = x := ⟨_, rfl⟩
      obtain ⟨M2, hM2⟩ : ∃ x, T2.length = x := ⟨_, rfl⟩
      have HX := Lib.hid hx
      have G3 := Lib.hid (fun w h => cut_calls a n cap b t w h (by omega) E2 T2 M2 hE2 hT2 hM2)
      have G4 := Lib.hid (fun w h => rcut_calls a n cap b t w h (by omega) E2 T2 M2 hE2 hT2 hM2)
      have HM2 := Lib.hid hM2
      clear hx hE2 hT2 hM2 hkl
      go_wp2_with (first
        | ((with_reducible refine gG ?_); refine wpList_want rfl ?_)
        | ((with_reducible refine gLoad (d := some 33) ?_); refine ld_pc (hO.rd HL.out) HX.out rfl (tA rfl) ipc ?_)
        | ((with_reducible refine gAlloc (T := 44) ?_); refine own_alloc hO _ _ ipcz ?_; clear hO; intro pb ww hO)
        | ((with_reducible refine gStore (T := 44) ?_); refine stX hO 0 rfl rfl rfl rfl rfl ipc ?_; clear hO; intro ww hO)
        | ((with_reducible refine gLoad (d := some 36) ?_); refine ldX hO 0 rfl rfl (tA rfl) ipc ?_)
        | ((with_reducible refine gLoad (d := some 42) ?_); refine ldX hO 1 rfl rfl (tA rfl) ipc ?_)
        | (go_at_call 15; refine (G3.out _ (hO.rd HR.out)).mono ?_; rintro e ww ⟨a5, c5, rfl, hb, hr⟩; replace hO := hO.addRow hb hr; clear hb hr)
        | (go_at_call 16; refine (G4.out _ (hO.rd HR.out)).mono ?_; rintro e ww ⟨a6, c6, rfl, hb, hr⟩; replace hO := hO.addRow hb hr; clear hb hr)
        | (go_at_call 11; refine (sames_refl _ _ _ _ _ T2 _ (hO.rdAt 1 rfl) (hO.rdAt 0 rfl)).mono ?_; rintro e ww ⟨rfl, rfl⟩))
      replace hO : Own wn _ [.sl 5 1 (.slice a5 M2 c5) M2 (u8s T2), .blk bk (.cells key.C 24 (0,0))] := hO.sub (List.Sublist.cons _ (List.Sublist.cons_cons _ (List.Sublist.cons _ (List.Sublist.cons_cons _ (List.nil_sublist _)))))
      have hM6 : M2 ≤ 9223372036854775807 := by have h1 := (hO.rdAt 0 rfl).le; have h2 := (hO.rdAt 0 rfl).max; unfold maxLen at h2; omega
      go_loopg [57] M2 (fun q c wr => ∃ (j : Nat) (Z : List (BitVec 8)), q = M2 - j ∧ j ≤ M2 ∧ c = .int .i64 (j : Int) ∧ Hid (Z.length = M2) ∧ Own wn wr [.sl 5 1 (.slice a5 M2 c5) M2 (u8s Z), .blk bk (.cells key.C 24 (0,0))])
      case atStart => exact ⟨0, T2, rfl, by omega, rfl, HM2.out, hO⟩
      case round =>
        obtain ⟨j, Z, rfl, hj, rfl, HZ, hO1⟩ := hrel
        clear hO
        have hO := hO1
        clear hO1
        by_cases hlt2 : j < M2
        · have d9 : decide ((j : Int) < (M2 : Int)) = true := decide_eq_true (by omega)
          obtain ⟨g5, rfl⟩ := hO.slPlace 0 rfl (by omega)
          have hjz : j < Z.length := by rw [HZ.out]; exact hlt2
          have hz : (u8s Z)[j]? = some (.int .u8 (Z[j].toNat : Int)) := by unfold u8s; rw [List.getElem?_map, List.getElem?_eq_getElem hjz]; rfl
          generalize Z[j] = z at hz
          have HV := Lib.hid hz
          have ei := inc_u8 z
          obtain ⟨z', hz'⟩ : ∃ z', z + 1#8 = z' := ⟨_, rfl⟩
          rw [hz'] at ei
          have HSET : Hid ((u8s Z).set j (.int .u8 (z'.toNat : Int)) = u8s (Z.set j z')) := by show _ = _; rw [u8s_set]
          have HZ2 : Hid ((Z.set j z').length = M2) := by show _ = _; rw [List.length_set]; exact HZ.out
          clear hz hz' hjz
          go_wp2_with (first
            | ((with_reducible refine gLoad (d := some 63) ?_); refine ld_sl hO 0 rfl rfl HV.out (tA rfl) ?_)
            | ((with_reducible refine gStore (T := 5) ?_); refine own_setElem hO 0 5 _ _ (.int .u8 (z'.toNat : Int)) rfl rfl rfl (by omega) iu8s_3 rfl ?_; clear hO; intro ww hO; rw [HSET.out] at hO))
          go_roundg (M2 - (j + 1))
          case measure => omega
          case rel => exact ⟨j + 1, _, rfl, by omega, by go_num, HZ2.out, hO⟩
        · obtain rfl : j = M2 := by omega
          have d9 : decide ((j : Int) < (j : Int)) = false := decide_eq_false (by omega)
          go_wp2
          go_roundg (m - (k + 1))
          case measure => omega
          case rel => exact ⟨k + 1, rfl, by omega, by go_num, hO.tail⟩
    · obtain rfl : k = m := by omega
      have d0 : decide ((k : Int) < (k : Int)) = false := decide_eq_false (by omega)
      go_wp2
      refine wp_region_textS (fun w' => Own wn w' [.blk bk (.cells key.C 24 (0,0))]) (fun op => match op with | .load _ _ => true | .convert _ _ _ => true | _ => false) (by kernel_rfl) (by kernel_rfl) hO.drew ?_
      replace hO := hO.drew
      generalize World.drew _ = wd at hO ⊢
      go_wp2_with (first
        | (((with_reducible refine gIL ?_); first | refine wpI_ldS (fun w' hS => hS.blk 0 rfl) rfl rfl (tA rfl) (tS rfl) ?_); first | (refine wpI_act (by simp only [Act.put, List.setIfInBounds_toArray, List.set_cons_succ, List.set_cons_zero]; rfl) ?_) | skip)
        | ((with_reducible refine gIC ?_); refine wpI_steady (.string (strB b)) rfl rfl (ok_convS cuts_fi) (fun w' hS => run_value rfl (run_bytes_string w' Tryz.underlying29 Tryz.underlying5 Tryz.underlying9 (hS.rd HR.out))) ?_; first | (refine wpI_act (by simp only [Act.put, List.setIfInBounds_toArray, List.set_cons_succ, List.set_cons_zero]; rfl) ?_) | skip)
        | (go_at_call 17; refine (G1.out _ (hO.rd HR.out) (hO.rd HL.out) (HT.out.own hO)).mono ?_; rintro e ww ⟨rfl, hb⟩; replace hO := hO.call hb; clear hb)
        | (go_at_call 18; refine (G2.out _ (hO.rd HR.out) (hO.rd HL.out)).mono ?_; rintro e ww ⟨rfl, hb⟩; replace hO := hO.call hb; clear hb)
        | ((with_reducible refine gI ?_); refine wpI_step rfl rfl (by kernel_rfl) ?_; intro K hK; have HK := Lib.hid hK; clear hK) | ((with_reducible refine gI ?_); first | refine wpI_skip rfl ?_ | refine wpI_want rfl ?_) | ((with_reducible refine gOnlyK HK.out ?_ ?_); exact hO; clear HK K; first | (refine wpI_act (by simp only [Act.put, List.setIfInBounds_toArray, List.set_cons_succ, List.set_cons_zero]; rfl) ?_) | skip) | (with_reducible refine wpI_nil ?_))
      go_ret
      exact ⟨rfl, hO.below⟩
end Go.Proofs.YtniibdglodnhoaaGreatDoor
