/- Walks: RotateLeft32, add, sub, Perm, Back. -/
import Derived.Test.YtniibdglodnhoaaGreatDoorP
import Derived.Test.YtniibdglodnhoaaGreatDoorPn
namespace Go.Proofs.YtniibdglodnhoaaGreatDoor
open Go.RowKit Go.Own Go.Bv Go.Ord Go.Eq

set_option maxHeartbeats 1000000 in
theorem rot_calls (x : BitVec 32) (k : Int) (n : Nat) (hk : (k = 16 ∧ n = 16) ∨ (k = 12 ∧ n = 12) ∨ (k = 8 ∧ n = 8) ∨ (k = 7 ∧ n = 7) ∨ (k = -16 ∧ n = 16) ∨ (k = -12 ∧ n = 20) ∨ (k = -8 ∧ n = 24) ∨ (k = -7 ∧ n = 25)) (w : World) :
    Calls Tryz.prog 126 #[.int .u32 (x.toNat : Int), .int .i64 k] w fun e w' => e = .returned (.int .u32 ((rot x n).toNat : Int)) ∧ w = w' := by
  have hf := rot_fact x n
  obtain ⟨R, hR⟩ : ∃ R, rot x n = R := ⟨_, rfl⟩
  rw [hR] at hf ⊢
  clear hR
  rcases hk with ⟨rfl, rfl⟩ | ⟨rfl, rfl⟩ | ⟨rfl, rfl⟩ | ⟨rfl, rfl⟩ | ⟨rfl, rfl⟩ | ⟨rfl, rfl⟩ | ⟨rfl, rfl⟩ | ⟨rfl, rfl⟩
  all_goals
    have hb : Go.bits .and .u64 16 31 = 16 ∧ Go.bits .and .u64 12 31 = 12 ∧ Go.bits .and .u64 8 31 = 8 ∧ Go.bits .and .u64 7 31 = 7 ∧ Go.bits .and .u64 (IntKind.u64.wrap (-16)) 31 = 16 ∧ Go.bits .and .u64 (IntKind.u64.wrap (-12)) 31 = 20 ∧ Go.bits .and .u64 (IntKind.u64.wrap (-8)) 31 = 24 ∧ Go.bits .and .u64 (IntKind.u64.wrap (-7)) 31 = 25 := by decide +kernel
    obtain ⟨hb1, hb2, hb3, hb4, hb5, hb6, hb7, hb8⟩ := hb
    simp at hf
    go_enter Tryz.func126, Tryz.ntmps126
    go_wp2
    go_ret
    exact ⟨rfl, rfl⟩

theorem iu32agg : aggT Tryz.prog 22 = some false := by kernel_rfl
theorem cell_set {w0 w : World} {L : List Res} {i b z x : Nat} {s : St} {v u : Value} {T : TypeId} (hO : Own w0 w (L.set i (.blk b (.cells (s.C.setIfInBounds z v) T (0,0))))) (hil : i < L.length) (hx : (s.C.setIfInBounds z v)[x]? = some u) : w.cell? ⟨b, x, none⟩ = some u := by
  rw [cell_of_row w b _ _ _ _ (hO.blk i (List.getElem?_set_self hil))]; exact hx

/-- a call that turns one block of the caller's: the i-th of its list -/
def Turned (w0 : World) (L : List Res) (i b : Nat) (s : St) (e : Ending) (w' : World) : Prop :=
  e = .returned (.tuple #[]) ∧ Own w0 w' (L.set i (.blk b (.cells s.C 24 (0,0))))

set_option maxHeartbeats 2000000 in
set_option maxRecDepth 100000 in
theorem addA_calls (w0 w : World) (L : List Res) (hO : Own w0 w L) (i b : Nat) (s : St) (hi : L[i]? = some (.blk b (.cells s.C 24 (0,0)))) (t : Nat) (ht : t = 16 ∨ t = 8) :
    Calls Tryz.prog 122 #[.pointer (some ⟨b, 0, none⟩), .int .i64 0, .int .i64 1, .int .i64 3, .int .i64 (t : Int)] w (Turned w0 L i b (s.addA t)) := by
  obtain ⟨x0, x1, x2, x3⟩ := s
  have hil : i < L.length := (List.getElem?_eq_some_iff.1 hi).1
  obtain ⟨y, hy, hy2⟩ : ∃ y : BitVec 32, ((x0.toNat : Int) + (x1.toNat : Int)) % 4294967296 = (y.toNat : Int) ∧ y = x0 + x1 := ⟨_, add32 x0 x1, rfl⟩
  obtain ⟨z, hz, hz2⟩ : ∃ z : BitVec 32, Go.bits .xor .u32 (x3.toNat : Int) (y.toNat : Int) = (z.toNat : Int) ∧ z = x3 ^^^ y := ⟨_, xor32 x3 y, rfl⟩
  have hs : St.addA t ⟨x0, x1, x2, x3⟩ = ⟨y, x1, x2, rot z t⟩ := by simp [St.addA, hy2, hz2]
  rw [hs]
  clear hs hy2 hz2
  have HI := Lib.hid hi
  clear hi
  go_enter Tryz.func122, Tryz.ntmps122
  go_wp2
  refine wp_region_text (by kernel_rfl) (by kernel_rfl) ?_
  replace hO := hO.drew
  generalize w.drew = wd at hO ⊢
  have c0 : wd.cell? ⟨b, 0, none⟩ = some (.int .u32 (x0.toNat : Int)) := cell_of_row wd b _ _ _ _ (hO.blk i HI.out)
  have c1 : wd.cell? ⟨b, 1, none⟩ = some (.int .u32 (x1.toNat : Int)) := cell_of_row wd b _ _ _ _ (hO.blk i HI.out)
  go_wp2_with (first
    | ((with_reducible refine gI ?_); refine wpI_step rfl rfl (by first | exact ok_int rfl rfl | exact ok_bool rfl rfl | exact ok_str rfl rfl | exact ok_conv rfl | rfl) ?_; intro _ _) | ((with_reducible refine gI ?_); first | refine wpI_skip rfl ?_ | refine wpI_want rfl ?_) | (with_reducible refine gOnly0 ?_) | (with_reducible refine wpI_nil ?_)
    | ((with_reducible refine gStore ?_); refine own_store hO i 22 _ _ b 0 _ 24 (.int .u32 (((x0.toNat : Int) + (x1.toNat : Int)) % 4294967296)) HI.out rfl rfl (by show _ < 4; omega) iu32s rfl ?_; clear hO c0 c1; intro w2 hO))
  rw [hy] at hO
  clear hy
  replace hO : Own w0 w2 (L.set i (.blk b (.cells (St.mk y x1 x2 x3).C 24 (0,0)))) := by simpa [St.C] using hO
  have HJ : Hid ((L.set i (.blk b (.cells (St.mk y x1 x2 x3).C 24 (0,0))))[i]? = some (.blk b (.cells (St.mk y x1 x2 x3).C 24 (0,0)))) := List.getElem?_set_self hil
  refine wp_region_text (by kernel_rfl) (by kernel_rfl) ?_
  replace hO := hO.drew
  generalize w2.drew = we at hO ⊢
  have c0 : we.cell? ⟨b, 0, none⟩ = some (.int .u32 (y.toNat : Int)) := cell_of_row we b _ _ _ _ (hO.blk i HJ.out)
  have c1 : we.cell? ⟨b, 3, none⟩ = some (.int .u32 (x3.toNat : Int)) := cell_of_row we b _ _ _ _ (hO.blk i HJ.out)
  go_wp2_with (first
    | ((with_reducible refine gI ?_); refine wpI_step rfl rfl (by first | exact ok_int rfl rfl | exact ok_bool rfl rfl | exact ok_str rfl rfl | exact ok_conv rfl | rfl) ?_; intro _ _) | ((with_reducible refine gI ?_); first | refine wpI_skip rfl ?_ | refine wpI_want rfl ?_) | (with_reducible refine gOnly0 ?_) | (with_reducible refine wpI_nil ?_)
    | (go_at_call 126; refine (rot_calls z _ t (by rcases ht with rfl | rfl <;> simp) _).mono ?_; rintro e w3 ⟨rfl, rfl⟩)
    | ((with_reducible refine gStore ?_); refine own_store hO i 22 _ _ b 3 _ 24 (.int .u32 ((rot z t).toNat : Int)) HJ.out rfl rfl (by show _ < 4; omega) iu32s rfl ?_; clear hO c0 c1; intro w4 hO))
  replace hO : Own w0 w4 (L.set i (.blk b (.cells (St.mk (y) (x1) (x2) (rot z t)).C 24 (0,0)))) := by simpa [St.C, List.set_set] using hO
  exact bodyPost_end (results_none rfl _ _ _) rfl ⟨rfl, hO⟩

set_option maxHeartbeats 2000000 in
set_option maxRecDepth 100000 in
theorem addB_calls (w0 w : World) (L : List Res) (hO : Own w0 w L) (i b : Nat) (s : St) (hi : L[i]? = some (.blk b (.cells s.C 24 (0,0)))) (t : Nat) (ht : t = 12 ∨ t = 7) :
    Calls Tryz.prog 122 #[.pointer (some ⟨b, 0, none⟩), .int .i64 2, .int .i64 3, .int .i64 1, .int .i64 (t : Int)] w (Turned w0 L i b (s.addB t)) := by
  obtain ⟨x0, x1, x2, x3⟩ := s
  have hil : i < L.length := (List.getElem?_eq_some_iff.1 hi).1
  obtain ⟨y, hy, hy2⟩ : ∃ y : BitVec 32, ((x2.toNat : Int) + (x3.toNat : Int)) % 4294967296 = (y.toNat : Int) ∧ y = x2 + x3 := ⟨_, add32 x2 x3, rfl⟩
  obtain ⟨z, hz, hz2⟩ : ∃ z : BitVec 32, Go.bits .xor .u32 (x1.toNat : Int) (y.toNat : Int) = (z.toNat : Int) ∧ z = x1 ^^^ y := ⟨_, xor32 x1 y, rfl⟩
  have hs : St.addB t ⟨x0, x1, x2, x3⟩ = ⟨x0, rot z t, y, x3⟩ := by simp [St.addB, hy2, hz2]
  rw [hs]
  clear hs hy2 hz2
  have HI := Lib.hid hi
  clear hi
  go_enter Tryz.func122, Tryz.ntmps122
  go_wp2
  refine wp_region_text (by kernel_rfl) (by kernel_rfl) ?_
  replace hO := hO.drew
  generalize w.drew = wd at hO ⊢
  have c0 : wd.cell? ⟨b, 2, none⟩ = some (.int .u32 (x2.toNat : Int)) := cell_of_row wd b _ _ _ _ (hO.blk i HI.out)
  have c1 : wd.cell? ⟨b, 3, none⟩ = some (.int .u32 (x3.toNat : Int)) := cell_of_row wd b _ _ _ _ (hO.blk i HI.out)
  go_wp2_with (first
    | ((with_reducible refine gI ?_); refine wpI_step rfl rfl (by first | exact ok_int rfl rfl | exact ok_bool rfl rfl | exact ok_str rfl rfl | exact ok_conv rfl | rfl) ?_; intro _ _) | ((with_reducible refine gI ?_); first | refine wpI_skip rfl ?_ | refine wpI_want rfl ?_) | (with_reducible refine gOnly0 ?_) | (with_reducible refine wpI_nil ?_)
    | ((with_reducible refine gStore ?_); refine own_store hO i 22 _ _ b 2 _ 24 (.int .u32 (((x2.toNat : Int) + (x3.toNat : Int)) % 4294967296)) HI.out rfl rfl (by show _ < 4; omega) iu32s rfl ?_; clear hO c0 c1; intro w2 hO))
  rw [hy] at hO
  clear hy
  replace hO : Own w0 w2 (L.set i (.blk b (.cells (St.mk x0 x1 y x3).C 24 (0,0)))) := by simpa [St.C] using hO
  have HJ : Hid ((L.set i (.blk b (.cells (St.mk x0 x1 y x3).C 24 (0,0))))[i]? = some (.blk b (.cells (St.mk x0 x1 y x3).C 24 (0,0)))) := List.getElem?_set_self hil
  refine wp_region_text (by kernel_rfl) (by kernel_rfl) ?_
  replace hO := hO.drew
  generalize w2.drew = we at hO ⊢
  have c0 : we.cell? ⟨b, 2, none⟩ = some (.int .u32 (y.toNat : Int)) := cell_of_row we b _ _ _ _ (hO.blk i HJ.out)
  have c1 : we.cell? ⟨b, 1, none⟩ = some (.int .u32 (x1.toNat : Int)) := cell_of_row we b _ _ _ _ (hO.blk i HJ.out)
  go_wp2_with (first
    | ((with_reducible refine gI ?_); refine wpI_step rfl rfl (by first | exact ok_int rfl rfl | exact ok_bool rfl rfl | exact ok_str rfl rfl | exact ok_conv rfl | rfl) ?_; intro _ _) | ((with_reducible refine gI ?_); first | refine wpI_skip rfl ?_ | refine wpI_want rfl ?_) | (with_reducible refine gOnly0 ?_) | (with_reducible refine wpI_nil ?_)
    | (go_at_call 126; refine (rot_calls z _ t (by rcases ht with rfl | rfl <;> simp) _).mono ?_; rintro e w3 ⟨rfl, rfl⟩)
    | ((with_reducible refine gStore ?_); refine own_store hO i 22 _ _ b 1 _ 24 (.int .u32 ((rot z t).toNat : Int)) HJ.out rfl rfl (by show _ < 4; omega) iu32s rfl ?_; clear hO c0 c1; intro w4 hO))
  replace hO : Own w0 w4 (L.set i (.blk b (.cells (St.mk (x0) (rot z t) (y) (x3)).C 24 (0,0)))) := by simpa [St.C, List.set_set] using hO
  exact bodyPost_end (results_none rfl _ _ _) rfl ⟨rfl, hO⟩

end Go.Proofs.YtniibdglodnhoaaGreatDoor
