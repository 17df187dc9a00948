/- Walks: the document's answer for layer 8: octets, Octets, four. -/
import Derived.Test.YtekiloagckkneaaDoorP
import Derived.Test.YtekiloagckkneaaDoorG
import Derived.Test.YtekiloagckkneaaDoorT
namespace Go.Proofs.YtekiloagckkneaaDoor
open Go.RowKit Go.Own Go.Bv Go.Ord Go.Eq

set_option maxHeartbeats 1000000 in
set_option maxRecDepth 100000 in
theorem oct4_calls (s : BitVec 32) (w : World) :
    Calls Tryd.prog 42 #[.int .u32 (s.toNat : Int)] w fun e w' => ∃ g, e = .returned (.slice (some ⟨g, 0, none⟩) 4 4) ∧ Below w.heap.size w w' ∧ w'.ownsRow w.heap.size 5 1 (.slice (some ⟨g, 0, none⟩) 4 4) 4 (u8s (octs4 s)) := by
  have hO := Own.start w
  rw [octs4_eq]
  have b1 := lt32 s
  have b0 := nn s
  generalize hW : w = wn at hO ⊢
  clear hW w
  go_enter Tryd.func42, Tryd.ntmps42
  go_wp2_with ((with_reducible refine gBuild ?_); refine own_build hO 28 4 _ eu8 #[.int .u8 ((s.toNat : Int) % 256), .int .u8 ((s.toNat : Int) / 256 % 256), .int .u8 ((s.toNat : Int) / 65536 % 256), .int .u8 ((s.toNat : Int) / 16777216)] (by omega) (by omega) (by simp [go_sem, Instr.fill]) rfl ?_; clear hO; intro g w1 hO)
  go_ret
  exact ⟨g, rfl, hO.below, hO.row 0 rfl⟩

def octsK (s : St) (k : Nat) : List (BitVec 8) := (s.l.take k).flatMap octs4
theorem octsK_all (s : St) : octsK s 4 = s.octs := by simp [octsK, St.l, St.octs]
theorem octsK_len (s : St) (k : Nat) (hk : k ≤ 4) : (octsK s k).length = 4 * k := by
  obtain rfl | rfl | rfl | rfl | rfl : k = 0 ∨ k = 1 ∨ k = 2 ∨ k = 3 ∨ k = 4 := by omega
  all_goals rfl
theorem octsK_succ (s : St) (k : Nat) (hk : k < 4) : octsK s (k + 1) = octsK s k ++ octs4 (s.w k) := by
  obtain rfl | rfl | rfl | rfl : k = 0 ∨ k = 1 ∨ k = 2 ∨ k = 3 := by omega
  all_goals rfl

theorem arr_index (s : St) (w : World) {k : Nat} (hk : k < 4) : (Instr.index 24 (.agg s.C) (.int .i64 (k : Int))).run Tryd.prog w = .ok (.int .u32 ((s.w k).toNat : Int)) w := by
  obtain rfl | rfl | rfl | rfl : k = 0 ∨ k = 1 ∨ k = 2 ∨ k = 3 := by omega
  all_goals kernel_rfl

set_option maxHeartbeats 2000000 in
set_option maxRecDepth 100000 in
theorem rocts_calls (s : St) (w : World) :
    Calls Tryd.prog 34 #[.agg s.C] w fun e w' => ∃ a c, e = .returned (.slice a 16 c) ∧ Below w.heap.size w w' ∧ w'.ownsRow w.heap.size 5 1 (.slice a 16 c) 16 (u8s s.octs) := by
  have hO := Own.start w
  generalize hW : w = wn at hO ⊢
  clear hW w
  go_enter Tryd.func34, Tryd.ntmps34
  go_wp2_with (first
    | ((with_reducible refine gBox ?_); refine own_box hO 24 _ _ rfl ?_; clear hO; intro b w1 hO; replace hO : Own wn w1 [.blk b (.cells s.C 24 (0,0))] := hO)
    | ((with_reducible refine gLoad ?_); first | refine ld_blk hO 0 rfl rfl rfl (tA rfl) ?_ | refine ld_all hO 0 rfl rfl (tA rfl) (tS rfl) ?_))
  replace hO : Own wn w1 [.sl 5 1 (.slice none 0 0) 0 [], .blk b (.cells s.C 24 (0,0))] := hO.add (Below.refl _ _) (World.ownsRow_nil _ _ _ _)
  go_loopg [3, 7] 4 (fun m v c wr => ∃ (k : Nat) (a : Option Addr) (cp : Nat), m = 4 - k ∧ k ≤ 4 ∧ c = .int .i64 k ∧ v = .slice a (4 * k) cp ∧ Own wn wr [.sl 5 1 (.slice a (4 * k) cp) (4 * k) (u8s (octsK s k)), .blk b (.cells s.C 24 (0,0))])
  case atStart => exact ⟨0, none, 0, rfl, by omega, rfl, rfl, hO⟩
  case round =>
    obtain ⟨k, a, cp, rfl, hk, rfl, rfl, hO1⟩ := hrel
    clear hO
    have hO := hO1
    clear hO1
    by_cases hlt : k < 4
    · have hb0 : decide ((k : Int) < 4) = true := by simp; omega
      have HS := Lib.hid (octsK_succ s k hlt)
      have HV : Hid (s.C.toList[k]? = some (.int .u32 ((s.w k).toNat : Int))) := by
        show _ = _
        obtain rfl | rfl | rfl | rfl : k = 0 ∨ k = 1 ∨ k = 2 ∨ k = 3 := by omega
        all_goals rfl
      have hix := fun w : World => arr_index s w hlt
      go_wp2_with (first
        | (go_at_call 42; refine (oct4_calls _ _).mono ?_; rintro e ww ⟨g, rfl, hb, hr⟩; replace hO := hO.addRow hb hr; clear hb hr)
        | ((with_reducible refine gAppend ?_); refine own_append hO 1 _ _ 28 eu8 rfl rfl rfl (hO.rdAt 0 rfl) (u8s_one _) (4 * k + 4) rfl (by simp [maxLen]; omega) (by omega) ?_; clear hO; intro a2 c2 w4 hO))
      go_roundg (4 - (k + 1))
      case measure => omega
      case rel =>
        refine ⟨k + 1, a2, c2, rfl, by omega, by go_num, rfl, ?_⟩
        rw [HS.out, u8s_append]
        exact hO.sub (List.Sublist.cons _ (List.Sublist.refl _))
    · obtain rfl : k = 4 := by omega
      rw [octsK_all] at hO
      go_wp2
      go_ret
      exact ⟨a, cp, rfl, hO.below, hO.row 0 rfl⟩

theorem of4_int (x y z t : BitVec 8) : ((of4 x y z t).toNat : Int) = (x.toNat : Int) + 256 * (y.toNat : Int) + 65536 * (z.toNat : Int) + 16777216 * (t.toNat : Int) := by
  have h := octs4_eq (of4 x y z t)
  rw [octs4_of4] at h
  simp only [u8s, List.map_cons, List.map_nil, List.cons.injEq, Value.int.injEq, true_and, and_true] at h
  obtain ⟨h0, h1, h2, h3⟩ := h
  omega

set_option maxHeartbeats 1000000 in
set_option maxRecDepth 100000 in
theorem four_calls (b off cap : Nat) (x0 x1 x2 x3 : BitVec 8) (w : World) (hR : Rd w 1 (some ⟨b, off, none⟩) 4 cap (u8s [x0, x1, x2, x3])) :
    Calls Tryd.prog 43 #[.slice (some ⟨b, off, none⟩) 4 cap] w fun e w' => e = .returned (.int .u32 ((of4 x0 x1 x2 x3).toNat : Int)) ∧ Below w.heap.size w w' := by
  have hO := Own.start w
  have HR := Lib.hid hR
  clear hR
  have HF := Lib.hid (of4_int x0 x1 x2 x3)
  have l0 := lt8 x0
  have l1 := lt8 x1
  have l2 := lt8 x2
  have l3 := lt8 x3
  have n0 := nn x0
  have n1 := nn x1
  have n2 := nn x2
  have n3 := nn x3
  generalize hW : w = wn at hO HR ⊢
  clear hW w
  go_enter Tryd.func43, Tryd.ntmps43
  go_wp2
  refine wp_region_text (by kernel_rfl) (by kernel_rfl) ?_
  replace hO := hO.drew
  generalize World.drew _ = wd at hO ⊢
  have c0 : wd.cell? ⟨b, off, none⟩ = some (.int .u8 (x0.toNat : Int)) := (hO.rd HR.out).cells rfl 0 _ rfl
  have c1 : wd.cell? ⟨b, off + 1, none⟩ = some (.int .u8 (x1.toNat : Int)) := (hO.rd HR.out).cells rfl 1 _ rfl
  have c2 : wd.cell? ⟨b, off + 2, none⟩ = some (.int .u8 (x2.toNat : Int)) := (hO.rd HR.out).cells rfl 2 _ rfl
  have c3 : wd.cell? ⟨b, off + 3, none⟩ = some (.int .u8 (x3.toNat : Int)) := (hO.rd HR.out).cells rfl 3 _ rfl
  go_wp2_with (first | ((with_reducible refine gI ?_); refine wpI_step rfl rfl (by kernel_rfl) ?_; intro K hK; have HK := Lib.hid hK; clear hK) | ((with_reducible refine gI ?_); first | refine wpI_skip rfl ?_ | refine wpI_want rfl ?_) | ((with_reducible refine gOnlyK0 HK.out ?_); clear HK K; first | (refine wpI_act (by simp only [Act.put, List.setIfInBounds_toArray, List.set_cons_succ, List.set_cons_zero]; rfl) ?_) | skip) | (with_reducible refine wpI_nil ?_))
  go_ret
  exact ⟨by rw [HF.out]; rfl, hO.below⟩
end Go.Proofs.YtekiloagckkneaaDoor
