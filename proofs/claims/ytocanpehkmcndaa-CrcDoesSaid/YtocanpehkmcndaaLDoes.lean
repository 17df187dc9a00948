/- The walk of CrcDoes. -/
import Derived.Test.YtocanpehkmcndaaR
namespace Go.Proofs.Ytocanpehkmcndaa
open Go.RowKit Go.Own Go.Bv Go.Ord Go.Eq

theorem inc8 (x : BitVec 8) : ∃ y : BitVec 8, ((x.toNat : Int) + 1) % 256 = (y.toNat : Int) := ⟨x + 1, by rw [BitVec.toNat_add]; simp⟩

theorem openT_le (bs : List (BitVec 8)) : (openT bs).length ≤ bs.length := by
  unfold openT; split <;> simp

set_option maxHeartbeats 2000000 in
set_option maxRecDepth 100000 in
theorem does_walk (r : BitVec 32) (a : Option Addr) (n cap : Nat) (bs : List (BitVec 8)) (w : World) (hR : Rd w 1 a n cap (u8s bs)) :
    Calls Try.prog 5 #[.int .u32 (r.toNat : Int), .slice a n cap] w fun e w' => e = .returned (.bool true) ∧ Below w.heap.size w w' := by
  have hO := Own.start w
  have hlen : bs.length = n := by have := hR.len; rw [u8s_length] at this; omega
  have HR := Lib.hid hR
  clear hR
  by_cases h5 : n ≤ 500
  · have hx := openT_le bs
    obtain ⟨xs, hxs⟩ : ∃ xs, openT bs = xs := ⟨_, rfl⟩
    obtain ⟨E, hE⟩ : ∃ E, openE bs = E := ⟨_, rfl⟩
    obtain ⟨m, hm⟩ : ∃ m, xs.length = m := ⟨_, rfl⟩
    have hm5 : m ≤ 500 := by rw [← hm, ← hxs]; omega
    have HX := Lib.hid hxs
    have HE := Lib.hid hE
    have HM := Lib.hid hm
    have HL := Lib.hid hlen
    clear hx hxs hE hm hlen
    generalize hW : w = wn at hO HR ⊢
    clear hW w
    go_enter Try.func5, Try.ntmps5
    go_wp2_with (first
      | (go_at_call 8; refine (live_calls _).mono ?_; rintro e w1 ⟨rfl, hb⟩; replace hO := hO.call hb; clear hb; have hcv := fun w' (h : Below wn.heap.size wn w') => run_bytes_string (P := Try.prog) w' Try.underlying22 Try.underlying5 Try.underlying9 (HR.out.below h); have hcv1 := hcv _ hO.below)
      | (go_at_call 11; refine (open_calls _ _ _ bs _ (hO.rd HR.out) (by omega)).mono ?_; rw [HX.out, HE.out]; unfold RetSE; rw [HM.out]; clear hcv1; rintro e w2 ⟨a1, c1, rfl, hb, hr⟩; replace hO := hO.addRow hb hr; clear hb hr)
      | (go_at_call 12; refine (ropen_calls _ _ _ bs _ (hO.rd HR.out) (by omega)).mono ?_; rw [HX.out, HE.out]; unfold RetSE; rw [HM.out]; rintro e w3 ⟨a2, c2, rfl, hb, hr⟩; replace hO := hO.addRow hb hr; clear hb hr)
      | (go_at_call 10; refine (seal_calls _ _ _ bs _ (hO.rd HR.out) (by omega)).mono ?_; rintro e w4 ⟨a3, c3, rfl, hb, hr⟩; replace hO := hO.addRow hb hr; clear hb hr)
      | (go_at_call 13; refine (step_calls r _ _ _ bs _ (hO.rd HR.out)).mono ?_; rintro e w5 ⟨rfl, hb⟩; replace hO := hO.call hb; clear hb)
      | (go_at_call 14; refine (rstep_calls r _ _ _ bs _ (hO.rd HR.out)).mono ?_; rintro e w6 ⟨rfl, hb⟩; subst hb)
      | (go_at_call 9; refine (sum_calls _ _ _ bs _ (hO.rd HR.out)).mono ?_; rintro e w7 ⟨rfl, hb⟩; replace hO := hO.call hb; clear hb)
      | (go_at_call 15; refine (rsum_calls _ _ _ bs _ (hO.rd HR.out)).mono ?_; rintro e w8 ⟨rfl, rfl⟩)
      | (go_at_call 17; refine (rseal_calls _ _ _ bs _ (hO.rd HR.out) (by omega)).mono ?_; rintro e w9 ⟨a4, c4, rfl, hb, hr⟩; replace hO := hO.addRow hb hr; clear hb hr)
      | (go_at_call 16; (with_reducible refine gCall #[.slice _ (n + 4) _, _] ?_); refine (same_calls _ _ _ _ _ _ (bs ++ octs4 (Crc.sum bs)) (bs ++ octs4 (Crc.sum bs)) _ (hO.rdAt 1 rfl) (hO.rdAt 0 rfl)).mono ?_; rw [decide_eq_true rfl]; rintro e w10 ⟨rfl, rfl⟩)
      | (go_at_call 16; refine (same_calls _ _ _ _ _ _ xs xs _ (hO.rdAt 3 rfl) (hO.rdAt 2 rfl)).mono ?_; rw [decide_eq_true rfl]; rintro e w11 ⟨rfl, rfl⟩))
    have hO2 : Own wn _ [.sl 5 1 (.slice a3 (n + 4) c3) (n + 4) (u8s (bs ++ octs4 (Crc.sum bs))), .sl 5 1 (.slice a1 m c1) m (u8s xs)] := hO.sub (by simp)
    clear hO
    have HS : Hid ((bs ++ octs4 (Crc.sum bs)).length = n + 4) := by show _ = _; rw [List.length_append, HL.out]; rfl
    generalize bs ++ octs4 (Crc.sum bs) = zs at hO2 HS
    go_loopg [66] (n + 4) (fun v c wr => ∃ (k : Nat) (ys : List (BitVec 8)), v = n + 4 - k ∧ k ≤ n + 4 ∧ c = .int .i64 k ∧ Hid (ys.length = n + 4) ∧ Own wn wr [.sl 5 1 (.slice a3 (n + 4) c3) (n + 4) (u8s ys), .sl 5 1 (.slice a1 m c1) m (u8s xs)])
    case atStart => exact ⟨0, zs, rfl, by omega, rfl, HS, hO2⟩
    case round =>
      obtain ⟨k, ys, rfl, hk, rfl, HY, hO⟩ := hrel
      clear hO2 HS
      by_cases hlt : k < n + 4
      · have hb0 : decide ((k : Int) < (n : Int) + 4) = true := by simp; omega
        obtain ⟨g, c9, he, _, _⟩ := hO.slForm 0 rfl (by omega)
        injection he with he1 _ he3
        subst he1 he3
        have hky : k < ys.length := by rw [HY.out]; exact hlt
        have HG := Lib.hid (u8s_get ys k hky)
        generalize ys[k] = t at HG
        obtain ⟨y, hy⟩ := inc8 t
        have hcell : wr.cell? ⟨g, k, none⟩ = some (.int .u8 (t.toNat : Int)) := (hO.slCell 0 rfl (by omega)).trans HG.out
        have HS : Hid ((u8s ys).set k (.int .u8 (((t.toNat : Int) + 1) % 256)) = u8s (ys.set k y)) := by show _ = _; rw [hy]; simp [u8s]
        go_wp2_with (first
          | ((with_reducible refine gStore ?_); refine own_setElem hO 0 5 _ _ (.int .u8 (((t.toNat : Int) + 1) % 256)) rfl rfl rfl (by omega) iu8s rfl ?_; clear hO hcell; intro w3 hO))
        go_roundg (n + 4 - (k + 1))
        case measure => omega
        case rel =>
          refine ⟨k + 1, ys.set k y, rfl, by omega, by go_num, ?_, by rw [← HS.out]; exact hO⟩
          show _ = _
          rw [List.length_set]; exact HY.out
      · obtain rfl : k = n + 4 := by omega
        have hb0 : decide (((n + 4 : Nat) : Int) < (n : Int) + 4) = false := by simp
        replace hO := hO.sub (L' := [.sl 5 1 (.slice a1 m c1) m (u8s xs)]) (by simp)
        go_wp2
        go_loopg [78] m (fun v c wr => ∃ (k : Nat) (ys : List (BitVec 8)), v = m - k ∧ k ≤ m ∧ c = .int .i64 k ∧ Hid (ys.length = m) ∧ Own wn wr [.sl 5 1 (.slice a1 m c1) m (u8s ys)])
        case atStart => exact ⟨0, xs, rfl, by omega, rfl, HM, hO⟩
        case round =>
          clear hO
          obtain ⟨k, ys, rfl, hk, rfl, HY, hO⟩ := hrel
          by_cases hlt : k < m
          · have hb0 : decide ((k : Int) < (m : Int)) = true := by simp; omega
            obtain ⟨g, c9, he, _, _⟩ := hO.slForm 0 rfl (by omega)
            injection he with he1 _ he3
            subst he1 he3
            have hky : k < ys.length := by rw [HY.out]; exact hlt
            have HG := Lib.hid (u8s_get ys k hky)
            generalize ys[k] = t at HG
            obtain ⟨y, hy⟩ := inc8 t
            have hcell : wr.cell? ⟨g, k, none⟩ = some (.int .u8 (t.toNat : Int)) := (hO.slCell 0 rfl (by omega)).trans HG.out
            have HS : Hid ((u8s ys).set k (.int .u8 (((t.toNat : Int) + 1) % 256)) = u8s (ys.set k y)) := by show _ = _; rw [hy]; simp [u8s]
            go_wp2_with (first
              | ((with_reducible refine gStore ?_); refine own_setElem hO 0 5 _ _ (.int .u8 (((t.toNat : Int) + 1) % 256)) rfl rfl rfl (by omega) iu8s rfl ?_; clear hO hcell; intro w3 hO))
            go_roundg (m - (k + 1))
            case measure => omega
            case rel =>
              refine ⟨k + 1, ys.set k y, rfl, by omega, by go_num, ?_, by rw [← HS.out]; exact hO⟩
              show _ = _
              rw [List.length_set]; exact HY.out
          · obtain rfl : k = m := by omega
            have hcv1 := hcv _ hO.below
            go_wp2
            go_ret
            exact ⟨rfl, hO.below⟩
  · clear hlen
    generalize hW : w = wn at hO HR ⊢
    clear hW w
    go_enter Try.func5, Try.ntmps5
    go_wp2_with (go_at_call 8; refine (live_calls _).mono ?_; rintro e w1 ⟨rfl, hb⟩; replace hO := hO.call hb; clear hb)
    go_ret
    exact ⟨rfl, hO.below⟩
end Go.Proofs.Ytocanpehkmcndaa
