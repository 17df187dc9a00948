/- Walk: the laws' places. -/
import Derived.Test.YtmfeknamdjjbhaaKv
namespace Go.Proofs.Ytmfeknamdjjbhaa
open Go.RowKit Go.Own Go.Bv Go.Ord Go.Eq Go.Opn Go.Pb

def ats (l : List Bt) : List Int := l.map Bt.at_
theorem ats_next {l : List Bt} {k : Nat} {x : Bt} (hx : l[k]? = some x) : i64s (ats (l.take (k + 1))) = i64s (ats (l.take k)) ++ i64s [x.at_] := by
  obtain ⟨h1, e1⟩ := List.getElem?_eq_some_iff.1 hx
  unfold ats i64s
  rw [List.take_succ_eq_append_getElem h1, e1, List.map_append, List.map_append]; rfl

set_option maxHeartbeats 4000000 in
set_option maxRecDepth 100000 in
theorem places_calls (a : Option Addr) (m cap : Nat) (l : List Bt) (w : World) (hR : Rd w 2 a m cap (bts l)) (hm : m ≤ 1000000) :
    Calls Try.prog 21 #[.slice a m cap] w fun e w' => ∃ a' c', e = .returned (.slice a' m c') ∧ Below w.heap.size w w' ∧ w'.ownsRow w.heap.size 3 1 (.slice a' m c') m (i64s (ats l)) := by
  have hO := Own.start w
  have hlen : l.length = m := by have := hR.len; rw [bts_length] at this; omega
  have HR := Lib.hid hR
  have HL := Lib.hid hlen
  clear hR hlen
  generalize hW : w = wn at hO HR ⊢
  clear hW w
  go_enter Try.func21, Try.ntmps21
  go_wp2
  go_loopg [3, 8] m (fun q s3 c wr => ∃ (k : Nat) (aO : Option Addr) (cO : Nat), q = m - k ∧ k ≤ m ∧ c = .int .i64 (k : Int) ∧ s3 = .slice aO k cO ∧ Own wn wr [.sl 3 1 (.slice aO k cO) k (i64s (ats (l.take k)))])
  case atStart => exact ⟨0, none, 0, rfl, by omega, rfl, rfl, hO.addRow (Below.refl _ _) (World.ownsRow_nil _ _ _ _)⟩
  case round =>
    obtain ⟨k, aO, cO, rfl, hk, rfl, rfl, hO1⟩ := hrel
    clear hO
    have hO := hO1
    clear hO1
    by_cases hlt : k < m
    · have hb0 : decide ((k : Int) < (m : Int)) = true := decide_eq_true (by omega)
      have hkl : k < l.length := by rw [HL.out]; exact hlt
      obtain ⟨ba, off, rfl⟩ := HR.out.place (by omega)
      have hx := List.getElem?_eq_getElem hkl
      have hnx := ats_next hx
      generalize l[k] = x at hx hnx
      have HX := Lib.hid hx
      have HN := Lib.hid hnx
      clear hx hnx hkl
      obtain ⟨p, bb⟩ := x
      dsimp only at HN
      go_wp2_with (first
        | ((with_reducible refine gAlloc (T := 25) ?_); refine own_alloc hO _ _ ibtz ?_; clear hO; intro bx ww hO)
        | ((with_reducible refine gLoad (T := 25) ?_); refine ld_bt (hO.rd HR.out) HX.out rfl (by omega) (tA rfl) (tS rfl) ?_)
        | ((with_reducible refine gLoad ?_); first | refine ldX hO 0 rfl rfl (tA rfl) (tS rfl) ?_ | refine ldC hO 0 rfl rfl (tA rfl) rfl ?_)
        | ((with_reducible refine gStore ?_); first | (refine stX hO 0 rfl rfl rfl rfl rfl (tS rfl) ?_; clear hO; intro ww hO) | (refine stC hO 0 rfl rfl rfl (ltb rfl) rfl (tS rfl) ?_; clear hO; intro ww hO))
        | ((with_reducible refine gBuild ?_); refine own_build hO 32 1 _ ei64 (i64s [p]).toArray (by omega) (by omega) (by kernel_rfl) rfl ?_; clear hO; intro g ww hO)
        | ((with_reducible refine gAppend ?_); refine own_append hO 2 _ _ 32 ei64 rfl rfl rfl (hO.rdAt 0 rfl) (i64s_one _) (k + 1) rfl (by simp [maxLen]; omega) (by omega) ?_; clear hO; intro a2 c2 ww hO))
      go_roundg (m - (k + 1))
      case measure => omega
      case rel => exact ⟨k + 1, a2, c2, rfl, by omega, by go_num, rfl, by rw [HN.out]; exact hO.tail.tail⟩
    · obtain rfl : k = m := by omega
      have HT : Hid (l.take k = l) := by show _ = _; rw [List.take_of_length_le (by rw [HL.out]; omega)]
      rw [HT.out] at hO
      go_wp2
      go_ret
      exact ⟨aO, cO, rfl, hO.below, hO.row 0 rfl⟩
end Go.Proofs.Ytmfeknamdjjbhaa
