/- Walks: perm.Perm, perm.Back, and the document's. -/
import Derived.Test.YtniibdglodnhoaaGreatDoorPd
namespace Go.Proofs.YtniibdglodnhoaaGreatDoor
open Go.RowKit Go.Own Go.Bv Go.Ord Go.Eq

/-- the turns lie where the program's own initialiser laid them -/
def Turns (w : World) : Prop :=
  w.cell? ⟨0, 0, none⟩ = some (.int .i64 16) ∧ w.cell? ⟨0, 1, none⟩ = some (.int .i64 12) ∧ w.cell? ⟨0, 2, none⟩ = some (.int .i64 8) ∧ w.cell? ⟨0, 3, none⟩ = some (.int .i64 7)
theorem Turns.own {w0 w : World} {L : List Res} (h : Turns w0) (hO : Own w0 w L) : Turns w :=
  ⟨hO.oldcell h.1, hO.oldcell h.2.1, hO.oldcell h.2.2.1, hO.oldcell h.2.2.2⟩

theorem key_fact (k : Nat) : ∃ K : BitVec 32, ((k : Int) + 1) * 2654435769 % 4294967296 = (K.toNat : Int) ∧ K = St.key (k + 1) := by
  refine ⟨_, ?_, rfl⟩
  unfold St.key
  rw [BitVec.toNat_mul, BitVec.toNat_ofNat, Int.natCast_emod, Int.natCast_mul, Int.natCast_emod]
  show _ = ((((k + 1 : Nat) : Int) % 4294967296) * 2654435769) % 4294967296
  omega

set_option maxHeartbeats 2000000 in
set_option maxRecDepth 100000 in
theorem perm_calls (s : St) (w : World) (hT : Turns w) :
    Calls Tryz.prog 114 #[.agg s.C] w fun e w' => e = .returned (.agg s.perm.C) ∧ Below w.heap.size w w' := by
  have hO := Own.start w
  have HT := Lib.hid hT
  clear hT
  generalize hW : w = wn at hO HT ⊢
  clear hW w
  go_enter Tryz.func114, Tryz.ntmps114
  go_wp2_with (first
    | ((with_reducible refine gBox ?_); refine own_box hO 24 _ _ rfl ?_; clear hO; intro b w1 hO; replace hO : Own wn w1 [.blk b (.cells s.C 24 (0,0))] := hO)
    | ((with_reducible refine gAlloc ?_); refine own_alloc hO 24 _ iwz ?_; clear hO; intro r w2 hO))
  go_loopg [4] 8 (fun m c wr => ∃ k : Nat, m = 8 - k ∧ k ≤ 8 ∧ c = .int .u32 k ∧ Own wn wr [.blk r (.cells St.zero.C 24 (0,0)), .blk b (.cells (s.rounds k).C 24 (0,0))])
  case atStart => exact ⟨0, rfl, by omega, rfl, hO⟩
  case round =>
    obtain ⟨k, rfl, hk, rfl, hO1⟩ := hrel
    clear hO
    by_cases hlt : k < 8
    · have hb0 : decide ((k : Int) < 8) = true := by simp; omega
      have HS : Hid (s.rounds (k + 1) = St.turn k (St.addB 7 (St.addA 8 (St.addB 12 (St.addA 16 (s.rounds k)))))) := rfl
      generalize s.rounds k = u at *
      obtain ⟨K, hK, hK2⟩ := key_fact k
      have HK2 := Lib.hid hK2
      clear hK2
      have q := hO1.oldcell HT.out.1
      go_wp2_with (first
        | (go_at_call 122; (with_reducible refine gCall #[_, _, _, _, .int .i64 16] ?_); refine (addA_calls wn _ _ hO1 1 b u rfl 16 (.inl rfl)).mono ?_; clear q hO1; rintro e w3 ⟨rfl, hO1⟩; generalize St.addA 16 u = u1 at *; have q := hO1.oldcell HT.out.2.1)
        | (go_at_call 122; (with_reducible refine gCall #[_, _, _, _, .int .i64 12] ?_); refine (addB_calls wn _ _ hO1 1 b u1 rfl 12 (.inl rfl)).mono ?_; clear q hO1; rintro e w4 ⟨rfl, hO1⟩; generalize St.addB 12 u1 = u2 at *; have q := hO1.oldcell HT.out.2.2.1)
        | (go_at_call 122; (with_reducible refine gCall #[_, _, _, _, .int .i64 8] ?_); refine (addA_calls wn _ _ hO1 1 b u2 rfl 8 (.inr rfl)).mono ?_; clear q hO1; rintro e w5 ⟨rfl, hO1⟩; generalize St.addA 8 u2 = u3 at *; have q := hO1.oldcell HT.out.2.2.2)
        | (go_at_call 122; (with_reducible refine gCall #[_, _, _, _, .int .i64 7] ?_); refine (addB_calls wn _ _ hO1 1 b u3 rfl 7 (.inr rfl)).mono ?_; clear q hO1; rintro e w6 ⟨rfl, hO1⟩; generalize St.addB 7 u3 = u4 at *; have c0 : w6.cell? ⟨b, 0, none⟩ = some (.int .u32 (u4.a.toNat : Int)) := cell_of_row w6 b _ _ _ _ (hO1.blk 1 rfl); have c1 : w6.cell? ⟨b, 1, none⟩ = some (.int .u32 (u4.b.toNat : Int)) := cell_of_row w6 b _ _ _ _ (hO1.blk 1 rfl); have c2 : w6.cell? ⟨b, 2, none⟩ = some (.int .u32 (u4.c.toNat : Int)) := cell_of_row w6 b _ _ _ _ (hO1.blk 1 rfl); have c3 : w6.cell? ⟨b, 3, none⟩ = some (.int .u32 (u4.d.toNat : Int)) := cell_of_row w6 b _ _ _ _ (hO1.blk 1 rfl); obtain ⟨V, hV, hV2⟩ : ∃ V : BitVec 32, Go.bits .xor .u32 (u4.a.toNat : Int) (K.toNat : Int) = (V.toNat : Int) ∧ V = u4.a ^^^ K := ⟨_, xor32 u4.a K, rfl⟩; have HV2 := Lib.hid hV2; clear hV2)
        | ((with_reducible refine gStore ?_); refine own_storeAll hO1 1 24 _ _ b u4.C (St.mk u4.b u4.c u4.d V).C 24 _ rfl rfl rfl rfl (iws' _) rfl rfl ?_; clear hO1 c0 c1 c2 c3; intro w7 hO1))
      go_roundg (8 - (k + 1))
      case measure => omega
      case rel =>
        refine ⟨k + 1, rfl, by omega, by go_num, ?_⟩
        have e : s.rounds (k + 1) = St.mk u4.b u4.c u4.d V := by rw [HS.out, HV2.out, HK2.out]; rfl
        rw [e]
        exact hO1
    · obtain rfl : k = 8 := by omega
      go_wp2_with (first
        | ((with_reducible refine gLoad ?_); refine own_loadAll 24 _ b (s.rounds 8).C 24 (0,0) (hO1.blk 1 rfl) rfl iwu (iws' _) ?_)
        | ((with_reducible refine gStore ?_); refine own_storeAll hO1 0 24 _ _ r St.zero.C (s.rounds 8).C 24 _ rfl rfl rfl rfl (iws' _) rfl rfl ?_; clear hO1; intro w7 hO1))
      refine bodyPost_ret (results_cell_row rfl _ _ r 24 (s.rounds 8).C (0,0) _ rfl (hO1.blk 0 rfl) Tryz.underlying24 rfl (iws' _)) rfl ⟨rfl, hO1.below⟩

end Go.Proofs.YtniibdglodnhoaaGreatDoor
