/- The walk of perm.Squeeze. -/
import Derived.Test.YtekiloagckkneaaDoorPi
namespace Go.Proofs.YtekiloagckkneaaDoor
open Go.RowKit Go.Own Go.Bv Go.Ord Go.Eq

/-- what Squeeze hands back: octets in a block of its own -/
def SqRet (w : World) (s : St) (n : Nat) (e : Ending) (w' : World) : Prop :=
  ∃ g C, e = .returned (.tuple #[.slice (some ⟨g, 0, none⟩) n n, .int .i64 0]) ∧ Below w.heap.size w w' ∧ Res.holds w.heap.size w' (.blk g (.cells C 5 (0,0))) ∧ C.toList.take n = u8s (s.squeeze n)

theorem sq_next (s : St) (k : Nat) : s.sqK (k + 1) = s.sqK k ++ (octs4 (St.permN k s).a ++ octs4 (St.permN k s).b) := rfl
theorem octs_first (s : St) : (u8s s.octs).take (8 * 1) = u8s (octs4 s.a ++ octs4 s.b) := rfl
theorem sq_take (s : St) (n k : Nat) (C : List Value) (h : C.take (8 * k) = u8s (s.sqK k)) (hn : n ≤ 8 * k) : C.take n = u8s (s.squeeze n) := by
  rw [St.squeeze_of s hn, u8s_take, ← h, List.take_take, Nat.min_eq_left hn]

set_option maxHeartbeats 2000000 in
set_option maxRecDepth 100000 in
theorem squeeze_calls (s : St) (n : Nat) (hn : n ≤ 131072) (w : World) (hT : Turns w) :
    Calls Tryd.prog 28 #[.agg s.C, .int .i64 (n : Int)] w (SqRet w s n) := by
  have hO := Own.start w
  have HT := Lib.hid hT
  clear hT
  generalize hW : w = wn at hO HT ⊢
  clear hW w
  have hb0 : decide ((n : Int) < 0) = false := by simp
  have hb1 : decide ((131072 : Int) < (n : Int)) = false := by simp; omega
  go_enter Tryd.func28, Tryd.ntmps28
  go_wp2_with (first
    | ((with_reducible refine gBox ?_); refine own_box hO 24 _ _ rfl ?_; clear hO; intro b w1 hO; replace hO : Own wn w1 [.blk b (.cells s.C 24 (0,0))] := hO)
    | ((with_reducible refine gMake ?_); refine own_make0 hO _ _ 28 eu8 (n + 8) rfl rfl (by simp) (by omega) (by simp [maxLen]; omega) ?_; clear hO; intro g w2 hO))
  go_loopg [6] (n + 1) (fun m v wr => ∃ k g cp, m = (n + 1) - 8 * k ∧ 8 * k < n + 8 ∧ v = .slice (some ⟨g, 0, none⟩) (8 * k) cp ∧ Own wn wr [.sl 5 1 (.slice (some ⟨g, 0, none⟩) (8 * k) cp) (8 * k) (u8s (s.sqK k)), .blk b (.cells (St.permN k s).C 24 (0,0))])
  case atStart => exact ⟨0, g, n + 8, rfl, by omega, rfl, hO⟩
  case round =>
    obtain ⟨k, g, cp, rfl, hk, rfl, hO1⟩ := hrel
    clear hO
    have hO := hO1
    clear hO1
    by_cases hlt : 8 * k < n
    · have hb2 : decide (((8 * k : Nat) : Int) < (n : Int)) = true := by simp; omega
      have HS := Lib.hid (sq_next s k)
      have HP : Hid (St.permN (k + 1) s = (St.permN k s).perm) := rfl
      generalize St.permN k s = u at *
      have d16 : ¬ (16 : Nat) = 8 := by decide
      go_wp2_with (first
        | ((with_reducible refine gLoad ?_); first | refine ld_blk hO 0 rfl rfl rfl (tA rfl) ?_ | refine ld_all hO 0 rfl rfl (tA rfl) (tS rfl) ?_ | refine ld_blk hO 1 rfl rfl rfl (tA rfl) ?_ | refine ld_all hO 1 rfl rfl (tA rfl) (tS rfl) ?_ | refine ld_blk hO 2 rfl rfl rfl (tA rfl) ?_ | refine ld_all hO 2 rfl rfl (tA rfl) (tS rfl) ?_ | refine ld_blk hO 3 rfl rfl rfl (tA rfl) ?_ | refine ld_all hO 3 rfl rfl (tA rfl) (tS rfl) ?_)
        | ((with_reducible refine gStore ?_); first | (refine st_blk hO 0 rfl rfl rfl (ltb rfl) rfl (tS rfl) ?_; clear hO; intro ww hO) | (refine st_all hO 0 rfl rfl rfl rfl rfl rfl (tS rfl) ?_; clear hO; intro ww hO) | (refine st_blk hO 1 rfl rfl rfl (ltb rfl) rfl (tS rfl) ?_; clear hO; intro ww hO) | (refine st_all hO 1 rfl rfl rfl rfl rfl rfl (tS rfl) ?_; clear hO; intro ww hO) | (refine st_blk hO 2 rfl rfl rfl (ltb rfl) rfl (tS rfl) ?_; clear hO; intro ww hO) | (refine st_all hO 2 rfl rfl rfl rfl rfl rfl (tS rfl) ?_; clear hO; intro ww hO) | (refine st_blk hO 3 rfl rfl rfl (ltb rfl) rfl (tS rfl) ?_; clear hO; intro ww hO) | (refine st_all hO 3 rfl rfl rfl rfl rfl rfl (tS rfl) ?_; clear hO; intro ww hO))
        | (go_at_call 32; refine (octets_calls _ _).mono ?_; rintro e ww ⟨g2, rfl, hb, hr⟩; replace hO := hO.addRow hb hr; clear hb hr)
        | (go_at_call 40; refine (perm_calls _ _ (HT.out.own hO)).mono ?_; rintro e ww ⟨rfl, hb⟩; replace hO := hO.call hb; clear hb)
        | ((with_reducible refine gAppend ?_); refine own_append hO 1 _ _ 28 eu8 rfl rfl rfl ((hO.rdAt 0 rfl).take 8 (by omega)) (by rw [octs_first]; exact u8s_one _) (8 * k + 8) rfl (by simp [maxLen]; omega) (by omega) ?_; clear hO; intro a2 c2 w4 hO; obtain ⟨g3, rfl⟩ := hO.slPlace 1 rfl (by omega)))
      go_roundg ((n + 1) - 8 * (k + 1))
      case measure => omega
      case rel =>
        refine ⟨k + 1, g3, c2, rfl, by omega, rfl, ?_⟩
        rw [HS.out, HP.out, u8s_append]
        exact hO.sub (List.Sublist.cons _ (List.Sublist.refl _))
    · have hb2 : decide (((8 * k : Nat) : Int) < (n : Int)) = false := by simp; omega
      obtain ⟨C, hg1, hg2, hC, hcp, hcm⟩ := blk_of_row (hO.row 0 rfl)
      have HF := Lib.hid (sq_take s n k _ hC (by omega))
      have hle : n ≤ cp := by omega
      clear hC
      go_wp2
      go_ret2
      exact ⟨g, C, rfl, hO.below, ⟨hg1, hg2⟩, HF.out⟩
end Go.Proofs.YtekiloagckkneaaDoor
