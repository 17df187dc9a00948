/- Walks: derive.fits, Go, Start. -/
import Derived.Test.YtbgefpmnncaifaaDoorPi
import Derived.Test.YtbgefpmnncaifaaDoorDm
import Derived.Test.YtbgefpmnncaifaaDoorH
namespace Go.Proofs.YtbgefpmnncaifaaDoor
open Go.RowKit Go.Own Go.Bv Go.Ord Go.Eq

theorem ebb : Elem Tryd.prog 42 25 (.slice none 0 0) 1 24 := ⟨Tryd.underlying42, by kernel_rfl, rfl, by decide⟩

set_option maxHeartbeats 1000000 in
set_option maxRecDepth 100000 in
theorem fits_calls (a : Option Addr) (n cap : Nat) (l : List Sl) (w : World) (hR : Rd w 1 a n cap (sls l)) (hl : ∀ x ∈ l, x.n ≤ maxLen) :
    Calls Tryd.prog 17 #[.slice a n cap] w fun e w' => e = .returned (.int .i64 (fitsE l)) ∧ w = w' := by
  have hlen : l.length = n := by have := hR.len; rw [sls_length] at this; omega
  have hmax : n ≤ maxLen := Nat.le_trans hR.le hR.max
  unfold maxLen at hmax
  have HR := Lib.hid hR
  have HL := Lib.hid hlen
  have HM := Lib.hid hl
  clear hR hlen hl
  go_enter Tryd.func17, Tryd.ntmps17
  go_wp2
  go_loopg [7] n (fun m c wr => ∃ k : Nat, m = n - k ∧ k ≤ n ∧ c = .int .i64 k ∧ Hid (fitsB (l.take k) = true) ∧ wr = w)
  case atStart => exact ⟨0, rfl, by omega, rfl, rfl, rfl⟩
  case round =>
    obtain ⟨k, rfl, hk, rfl, HA, rfl⟩ := hrel
    by_cases hlt : k < n
    · have hb0 : decide ((k : Int) < (n : Int)) = true := by simp; omega
      have hkl : k < l.length := by rw [HL.out]; exact hlt
      obtain ⟨ba, off, rfl⟩ := HR.out.place (by omega)
      have HV := Lib.hid (sls_get l k hkl)
      have HN : Hid (l[k].n ≤ 64 → fitsB (l.take (k + 1)) = true) := fun h => fits_next hkl HA.out h
      have HB : Hid (64 < l[k].n → fitsB l = false) := fun h => fits_hit hkl h
      have hm := HM.out _ (List.getElem_mem hkl)
      unfold maxLen at hm
      generalize l[k] = x at *
      by_cases hx : x.n ≤ 64
      · have hb1 : decide ((64 : Int) < (x.n : Int)) = false := by simp; omega
        go_wp2_with (first | ((with_reducible refine gLoad ?_); refine ld_rd (HR.out) rfl (HV.out) (tA rfl) ?_))
        go_roundg (n - (k + 1))
        case measure => omega
        case rel => exact ⟨k + 1, rfl, by omega, by go_num, HN.out hx, rfl⟩
      · have hb1 : decide ((64 : Int) < (x.n : Int)) = true := by simp; omega
        go_wp2_with (first | ((with_reducible refine gLoad ?_); refine ld_rd (HR.out) rfl (HV.out) (tA rfl) ?_))
        go_ret
        exact ⟨by rw [fitsE_no (HB.out (by omega))]; rfl, rfl⟩
    · obtain rfl : k = n := by omega
      go_wp2
      go_ret
      have := HA.out
      rw [List.take_of_length_le (by rw [HL.out]; omega)] at this
      exact ⟨by rw [fitsE_ok this]; rfl, rfl⟩

theorem rd_le {w : World} {sz n cap : Nat} {a : Option Addr} {xs : List Value} (h : Rd w sz a n cap xs) : n ≤ maxLen := Nat.le_trans h.le h.max

set_option maxHeartbeats 2000000 in
set_option maxRecDepth 100000 in
theorem go_ok (s : St) (a : Option Addr) (n cap : Nat) (bs : List (BitVec 8)) (r : Nat) (w : World) (hR : Rd w 1 a n cap (u8s bs)) (hn : n ≤ 64) (hr : r ≤ 4096) (hT : Turns w) :
    Calls Tryd.prog 9 #[.agg s.C, .slice a n cap, .int .i64 (r : Int)] w fun e w' => e = .returned (.tuple #[.agg (s.goN bs r).C, .int .i64 0]) ∧ Below w.heap.size w w' := by
  have hO := Own.start w
  have HF : Hid (fitsE [⟨a, n, cap⟩] = 0) := fitsE_ok (by simp [fitsB, hn])
  have HM : Hid (∀ x ∈ [Sl.mk a n cap], x.n ≤ maxLen) := fun x hx => by simp at hx; subst hx; exact rd_le hR
  have HR := Lib.hid hR
  have HT := Lib.hid hT
  have d0 : decide ((r : Int) < 0) = false := by simp
  have d1 : decide ((4096 : Int) < (r : Int)) = false := by simp; omega
  clear hR hT
  generalize hW : w = wn at hO HR HT ⊢
  clear hW w
  go_enter Tryd.func9, Tryd.ntmps9
  go_wp2_with (first
    | ((with_reducible refine gBox ?_); first | (refine bxA hO rfl ?_; clear hO; intro b ww hO) | (refine bx1 hO rfl rfl ?_; clear hO; intro b ww hO))
    | ((with_reducible refine gAlloc ?_); refine own_alloc hO _ _ iwz ?_; clear hO; intro rr ww hO)
    | ((with_reducible refine gBuild ?_); refine own_build hO 42 1 _ ebb #[.slice a n cap] (by omega) (by omega) (by simp [go_sem, Instr.fill]) rfl ?_; clear hO; intro g w2 hO)
    | (go_at_call 17; refine (fits_calls _ _ _ [⟨a, n, cap⟩] _ (hO.rdAt 0 rfl) HM.out).mono ?_; rw [HF.out]; rintro e ww ⟨rfl, rfl⟩))
  replace hO : Own wn _ [.blk rr (.cells St.zero.C 24 (0,0)), .blk b (.cells s.C 24 (0,0))] := hO.tail
  go_loopg [7, 23] r (fun m e c wr => ∃ k : Nat, m = r - k ∧ k ≤ r ∧ e = .int .i64 0 ∧ c = .int .i64 (k : Int) ∧ Own wn wr [.blk rr (.cells St.zero.C 24 (0,0)), .blk b (.cells (s.goN bs k).C 24 (0,0))])
  case atStart => exact ⟨0, rfl, by omega, rfl, rfl, hO⟩
  case round =>
    obtain ⟨k, rfl, hk, rfl, rfl, hO1⟩ := hrel
    clear hO
    have hO := hO1
    clear hO1
    by_cases hlt : k < r
    · have hb0 : decide ((k : Int) < (r : Int)) = true := by simp; omega
      have HS : Hid (s.goN bs (k + 1) = (s.goN bs k).absorb bs) := rfl
      generalize s.goN bs k = u at *
      obtain ⟨v, hv⟩ : ∃ v, u.absorb bs = v := ⟨_, rfl⟩
      have HV := Lib.hid hv
      clear hv
      go_wp2_with (first
        | ((with_reducible refine gLoad ?_); first | refine ldX hO 0 rfl rfl (tA rfl) (tS rfl) ?_ | refine ldC hO 0 rfl rfl (tA rfl) rfl ?_ | refine ldX hO 1 rfl rfl (tA rfl) (tS rfl) ?_ | refine ldC hO 1 rfl rfl (tA rfl) rfl ?_)
        | ((with_reducible refine gStore ?_); first | (refine stX hO 0 rfl rfl rfl rfl rfl (tS rfl) ?_; clear hO; intro ww hO) | (refine stC hO 0 rfl rfl rfl (ltb rfl) rfl (tS rfl) ?_; clear hO; intro ww hO) | (refine stX hO 1 rfl rfl rfl rfl rfl (tS rfl) ?_; clear hO; intro ww hO) | (refine stC hO 1 rfl rfl rfl (ltb rfl) rfl (tS rfl) ?_; clear hO; intro ww hO))
        | (go_at_call 18; refine (absorb1_calls u _ _ _ bs _ (hO.rd HR.out) (HT.out.own hO) (by omega)).mono ?_; rw [HV.out]; rintro e ww ⟨rfl, hb⟩; replace hO := hO.call hb; clear hb))
      go_roundg (r - (k + 1))
      case measure => omega
      case rel => exact ⟨k + 1, rfl, by omega, rfl, by go_num, by rw [HS.out, HV.out]; exact hO⟩
    · obtain rfl : k = r := by omega
      obtain ⟨u, hu⟩ : ∃ u, s.goN bs k = u := ⟨_, rfl⟩
      rw [hu] at hO
      have HU := Lib.hid hu
      clear hu
      go_wp2_with (first
        | ((with_reducible refine gLoad ?_); first | refine ldX hO 0 rfl rfl (tA rfl) (tS rfl) ?_ | refine ldC hO 0 rfl rfl (tA rfl) rfl ?_ | refine ldX hO 1 rfl rfl (tA rfl) (tS rfl) ?_ | refine ldC hO 1 rfl rfl (tA rfl) rfl ?_)
        | ((with_reducible refine gStore ?_); first | (refine stX hO 0 rfl rfl rfl rfl rfl (tS rfl) ?_; clear hO; intro ww hO) | (refine stC hO 0 rfl rfl rfl (ltb rfl) rfl (tS rfl) ?_; clear hO; intro ww hO) | (refine stX hO 1 rfl rfl rfl rfl rfl (tS rfl) ?_; clear hO; intro ww hO) | (refine stC hO 1 rfl rfl rfl (ltb rfl) rfl (tS rfl) ?_; clear hO; intro ww hO)))
      refine bodyPost_ret (res_ct rfl _ _ rr 24 u.C (0,0) _ rfl (hO.blk 0 rfl) Tryd.underlying24 rfl (iws' _)) rfl ⟨by rw [HU.out]; rfl, hO.below⟩

set_option maxHeartbeats 1000000 in
set_option maxRecDepth 100000 in
theorem go_long (s : St) (a : Option Addr) (n cap : Nat) (r : Int) (w : World) (hc : n ≤ maxLen) (hn : 64 < n) :
    Calls Tryd.prog 9 #[.agg s.C, .slice a n cap, .int .i64 r] w fun e w' => e = .returned (.tuple #[.agg St.zero.C, .int .i64 3]) ∧ Below w.heap.size w w' := by
  have hO := Own.start w
  have HF : Hid (fitsE [⟨a, n, cap⟩] = 3) := fitsE_no (by simp [fitsB]; omega)
  have HM : Hid (∀ x ∈ [Sl.mk a n cap], x.n ≤ maxLen) := fun x hx => by simp at hx; subst hx; exact hc
  clear hc
  generalize hW : w = wn at hO ⊢
  clear hW w
  go_enter Tryd.func9, Tryd.ntmps9
  go_wp2_with (first
    | ((with_reducible refine gBox ?_); first | (refine bxA hO rfl ?_; clear hO; intro b ww hO) | (refine bx1 hO rfl rfl ?_; clear hO; intro b ww hO))
    | ((with_reducible refine gAlloc ?_); refine own_alloc hO _ _ iwz ?_; clear hO; intro rr ww hO)
    | ((with_reducible refine gStore ?_); first | (refine stX hO 0 rfl rfl rfl rfl rfl (tS rfl) ?_; clear hO; intro ww hO) | (refine stC hO 0 rfl rfl rfl (ltb rfl) rfl (tS rfl) ?_; clear hO; intro ww hO) | (refine stX hO 1 rfl rfl rfl rfl rfl (tS rfl) ?_; clear hO; intro ww hO) | (refine stC hO 1 rfl rfl rfl (ltb rfl) rfl (tS rfl) ?_; clear hO; intro ww hO) | (refine stX hO 2 rfl rfl rfl rfl rfl (tS rfl) ?_; clear hO; intro ww hO) | (refine stC hO 2 rfl rfl rfl (ltb rfl) rfl (tS rfl) ?_; clear hO; intro ww hO))
    | ((with_reducible refine gBuild ?_); refine own_build hO 42 1 _ ebb #[.slice a n cap] (by omega) (by omega) (by simp [go_sem, Instr.fill]) rfl ?_; clear hO; intro g w2 hO)
    | (go_at_call 17; refine (fits_calls _ _ _ [⟨a, n, cap⟩] _ (hO.rdAt 0 rfl) HM.out).mono ?_; rw [HF.out]; rintro e ww ⟨rfl, rfl⟩))
  refine bodyPost_ret (res_ct rfl _ _ rr 24 St.zero.C (0,0) _ rfl (hO.blk 1 rfl) Tryd.underlying24 rfl (iws' _)) rfl ⟨rfl, hO.below⟩

set_option maxHeartbeats 1000000 in
set_option maxRecDepth 100000 in
theorem go_arg (s : St) (a : Option Addr) (n cap : Nat) (r : Int) (w : World) (hc : n ≤ maxLen) (hn : n ≤ 64) (hr : r < 0 ∨ 4096 < r) :
    Calls Tryd.prog 9 #[.agg s.C, .slice a n cap, .int .i64 r] w fun e w' => e = .returned (.tuple #[.agg St.zero.C, .int .i64 1]) ∧ Below w.heap.size w w' := by
  have HF : Hid (fitsE [⟨a, n, cap⟩] = 0) := fitsE_ok (by simp [fitsB, hn])
  have HM : Hid (∀ x ∈ [Sl.mk a n cap], x.n ≤ maxLen) := fun x hx => by simp at hx; subst hx; exact hc
  clear hc
  rcases hr with hr | hr
  · have hO := Own.start w
    generalize hW : w = wn at hO ⊢
    clear hW w
    have d0 : decide (r < 0) = true := by simp; omega
    go_enter Tryd.func9, Tryd.ntmps9
    go_wp2_with (first
      | ((with_reducible refine gBox ?_); first | (refine bxA hO rfl ?_; clear hO; intro b ww hO) | (refine bx1 hO rfl rfl ?_; clear hO; intro b ww hO))
      | ((with_reducible refine gAlloc ?_); refine own_alloc hO _ _ iwz ?_; clear hO; intro rr ww hO)
      | ((with_reducible refine gStore ?_); first | (refine stX hO 0 rfl rfl rfl rfl rfl (tS rfl) ?_; clear hO; intro ww hO) | (refine stC hO 0 rfl rfl rfl (ltb rfl) rfl (tS rfl) ?_; clear hO; intro ww hO) | (refine stX hO 1 rfl rfl rfl rfl rfl (tS rfl) ?_; clear hO; intro ww hO) | (refine stC hO 1 rfl rfl rfl (ltb rfl) rfl (tS rfl) ?_; clear hO; intro ww hO) | (refine stX hO 2 rfl rfl rfl rfl rfl (tS rfl) ?_; clear hO; intro ww hO) | (refine stC hO 2 rfl rfl rfl (ltb rfl) rfl (tS rfl) ?_; clear hO; intro ww hO))
      | ((with_reducible refine gBuild ?_); refine own_build hO 42 1 _ ebb #[.slice a n cap] (by omega) (by omega) (by simp [go_sem, Instr.fill]) rfl ?_; clear hO; intro g w2 hO)
      | (go_at_call 17; refine (fits_calls _ _ _ [⟨a, n, cap⟩] _ (hO.rdAt 0 rfl) HM.out).mono ?_; rw [HF.out]; rintro e ww ⟨rfl, rfl⟩))
    refine bodyPost_ret (res_ct rfl _ _ rr 24 St.zero.C (0,0) _ rfl (hO.blk 1 rfl) Tryd.underlying24 rfl (iws' _)) rfl ⟨rfl, hO.below⟩
  · have hO := Own.start w
    generalize hW : w = wn at hO ⊢
    clear hW w
    have d0 : decide (r < 0) = false := by simp; omega
    have d1 : decide (4096 < r) = true := by simp; omega
    go_enter Tryd.func9, Tryd.ntmps9
    go_wp2_with (first
      | ((with_reducible refine gBox ?_); first | (refine bxA hO rfl ?_; clear hO; intro b ww hO) | (refine bx1 hO rfl rfl ?_; clear hO; intro b ww hO))
      | ((with_reducible refine gAlloc ?_); refine own_alloc hO _ _ iwz ?_; clear hO; intro rr ww hO)
      | ((with_reducible refine gStore ?_); first | (refine stX hO 0 rfl rfl rfl rfl rfl (tS rfl) ?_; clear hO; intro ww hO) | (refine stC hO 0 rfl rfl rfl (ltb rfl) rfl (tS rfl) ?_; clear hO; intro ww hO) | (refine stX hO 1 rfl rfl rfl rfl rfl (tS rfl) ?_; clear hO; intro ww hO) | (refine stC hO 1 rfl rfl rfl (ltb rfl) rfl (tS rfl) ?_; clear hO; intro ww hO) | (refine stX hO 2 rfl rfl rfl rfl rfl (tS rfl) ?_; clear hO; intro ww hO) | (refine stC hO 2 rfl rfl rfl (ltb rfl) rfl (tS rfl) ?_; clear hO; intro ww hO))
      | ((with_reducible refine gBuild ?_); refine own_build hO 42 1 _ ebb #[.slice a n cap] (by omega) (by omega) (by simp [go_sem, Instr.fill]) rfl ?_; clear hO; intro g w2 hO)
      | (go_at_call 17; refine (fits_calls _ _ _ [⟨a, n, cap⟩] _ (hO.rdAt 0 rfl) HM.out).mono ?_; rw [HF.out]; rintro e ww ⟨rfl, rfl⟩))
    refine bodyPost_ret (res_ct rfl _ _ rr 24 St.zero.C (0,0) _ rfl (hO.blk 1 rfl) Tryd.underlying24 rfl (iws' _)) rfl ⟨rfl, hO.below⟩

set_option maxHeartbeats 1000000 in
set_option maxRecDepth 100000 in
theorem start_long (a1 : Option Addr) (n1 c1 : Nat) (a2 : Option Addr) (n2 c2 : Nat) (w : World) (h1 : n1 ≤ maxLen) (h2 : n2 ≤ maxLen) (hn : 64 < n1 ∨ 64 < n2) :
    Calls Tryd.prog 10 #[.slice a1 n1 c1, .slice a2 n2 c2] w fun e w' => e = .returned (.tuple #[.agg St.zero.C, .int .i64 3]) ∧ Below w.heap.size w w' := by
  have hO := Own.start w
  have HF : Hid (fitsE [⟨a1, n1, c1⟩, ⟨a2, n2, c2⟩] = 3) := fitsE_no (by simp [fitsB]; omega)
  have HM : Hid (∀ x ∈ [Sl.mk a1 n1 c1, Sl.mk a2 n2 c2], x.n ≤ maxLen) := fun x hx => by simp at hx; rcases hx with rfl | rfl <;> assumption
  clear h1 h2
  generalize hW : w = wn at hO ⊢
  clear hW w
  go_enter Tryd.func10, Tryd.ntmps10
  go_wp2_with (first
    | ((with_reducible refine gAlloc ?_); refine own_alloc hO _ _ iwz ?_; clear hO; intro rr ww hO)
    | ((with_reducible refine gLoad ?_); first | refine ldX hO 0 rfl rfl (tA rfl) (tS rfl) ?_ | refine ldC hO 0 rfl rfl (tA rfl) rfl ?_ | refine ldX hO 1 rfl rfl (tA rfl) (tS rfl) ?_ | refine ldC hO 1 rfl rfl (tA rfl) rfl ?_)
    | ((with_reducible refine gStore ?_); first | (refine stX hO 0 rfl rfl rfl rfl rfl (tS rfl) ?_; clear hO; intro ww hO) | (refine stC hO 0 rfl rfl rfl (ltb rfl) rfl (tS rfl) ?_; clear hO; intro ww hO) | (refine stX hO 1 rfl rfl rfl rfl rfl (tS rfl) ?_; clear hO; intro ww hO) | (refine stC hO 1 rfl rfl rfl (ltb rfl) rfl (tS rfl) ?_; clear hO; intro ww hO))
    | ((with_reducible refine gBuild ?_); refine own_build hO 42 2 _ ebb #[.slice a1 n1 c1, .slice a2 n2 c2] (by omega) (by omega) (by simp [go_sem, Instr.fill]) rfl ?_; clear hO; intro g w2 hO)
    | (go_at_call 17; refine (fits_calls _ _ _ [⟨a1, n1, c1⟩, ⟨a2, n2, c2⟩] _ (hO.rdAt 0 rfl) HM.out).mono ?_; rw [HF.out]; rintro e ww ⟨rfl, rfl⟩))
  refine bodyPost_ret (res_ct rfl _ _ rr 24 St.zero.C (0,0) _ rfl (hO.blk 1 rfl) Tryd.underlying24 rfl (iws' _)) rfl ⟨rfl, hO.below⟩

def stK (word salt : List (BitVec 8)) : Nat → St
  | 0 => St.zero
  | 1 => St.zero.absorb salt
  | _ => (St.zero.absorb salt).absorb word

set_option maxHeartbeats 2000000 in
set_option maxRecDepth 100000 in
theorem start_ok (a1 : Option Addr) (n1 c1 : Nat) (word : List (BitVec 8)) (a2 : Option Addr) (n2 c2 : Nat) (salt : List (BitVec 8)) (w : World) (hR1 : Rd w 1 a1 n1 c1 (u8s word)) (hR2 : Rd w 1 a2 n2 c2 (u8s salt)) (h1 : n1 ≤ 64) (h2 : n2 ≤ 64) (hT : Turns w) :
    Calls Tryd.prog 10 #[.slice a1 n1 c1, .slice a2 n2 c2] w fun e w' => e = .returned (.tuple #[.agg (St.startOf word salt).C, .int .i64 0]) ∧ Below w.heap.size w w' := by
  have hO := Own.start w
  have HF : Hid (fitsE [⟨a1, n1, c1⟩, ⟨a2, n2, c2⟩] = 0) := fitsE_ok (by simp [fitsB]; omega)
  have HM : Hid (∀ x ∈ [Sl.mk a1 n1 c1, Sl.mk a2 n2 c2], x.n ≤ maxLen) := fun x hx => by
    simp at hx
    rcases hx with rfl | rfl
    · exact rd_le hR1
    · exact rd_le hR2
  obtain ⟨u1, e1⟩ : ∃ u, St.zero.absorb salt = u := ⟨_, rfl⟩
  obtain ⟨u2, e2⟩ : ∃ u, u1.absorb word = u := ⟨_, rfl⟩
  have HS : Hid (St.startOf word salt = u2) := by show _ = _; unfold St.startOf; rw [e1, e2]
  rw [HS.out]
  obtain ⟨z, e0⟩ : ∃ u, St.zero = u := ⟨_, rfl⟩
  rw [e0] at e1
  have H1 := Lib.hid e1
  have H2 := Lib.hid e2
  have iwz' := iwz
  rw [e0] at iwz'
  have IWZ := Lib.hid iwz'
  have HR1 := Lib.hid hR1
  have HR2 := Lib.hid hR2
  have HT := Lib.hid hT
  clear hR1 hR2 hT e0 e1 e2 iwz'
  generalize hW : w = wn at hO HR1 HR2 HT ⊢
  clear hW w
  have i0 : ∀ w, (Instr.index 40 (.agg #[.slice a2 n2 c2, .slice a1 n1 c1]) (.int .i64 0)).run Tryd.prog w = .ok (.slice a2 n2 c2) w := fun _ => by kernel_rfl
  have i1 : ∀ w, (Instr.index 40 (.agg #[.slice a2 n2 c2, .slice a1 n1 c1]) (.int .i64 1)).run Tryd.prog w = .ok (.slice a1 n1 c1) w := fun _ => by kernel_rfl
  go_enter Tryd.func10, Tryd.ntmps10
  go_wp2_with (first
    | ((with_reducible refine gAlloc ?_); refine own_alloc hO _ _ IWZ.out ?_; clear hO; intro rr ww hO)
    | ((with_reducible refine gLoad ?_); first | refine ldX hO 0 rfl rfl (tA rfl) (tS rfl) ?_ | refine ldC hO 0 rfl rfl (tA rfl) rfl ?_ | refine ldX hO 1 rfl rfl (tA rfl) (tS rfl) ?_ | refine ldC hO 1 rfl rfl (tA rfl) rfl ?_)
    | ((with_reducible refine gStore ?_); first | (refine stX hO 0 rfl rfl rfl rfl rfl (tS rfl) ?_; clear hO; intro ww hO) | (refine stC hO 0 rfl rfl rfl (ltb rfl) rfl (tS rfl) ?_; clear hO; intro ww hO) | (refine stX hO 1 rfl rfl rfl rfl rfl (tS rfl) ?_; clear hO; intro ww hO) | (refine stC hO 1 rfl rfl rfl (ltb rfl) rfl (tS rfl) ?_; clear hO; intro ww hO))
    | ((with_reducible refine gBuild ?_); refine own_build hO 42 2 _ ebb #[.slice a1 n1 c1, .slice a2 n2 c2] (by omega) (by omega) (by simp [go_sem, Instr.fill]) rfl ?_; clear hO; intro g w2 hO)
    | (go_at_call 17; refine (fits_calls _ _ _ [⟨a1, n1, c1⟩, ⟨a2, n2, c2⟩] _ (hO.rdAt 0 rfl) HM.out).mono ?_; rw [HF.out]; rintro e ww ⟨rfl, rfl⟩))
  replace hO : Own wn _ [.blk rr (.cells z.C 24 (0,0))] := hO.tail
  go_loopg [5, 7, 19] 2 (fun m e s7 c wr => ∃ k : Nat, m = 2 - k ∧ k ≤ 2 ∧ e = .int .i64 0 ∧ c = .int .i64 (k : Int) ∧ Own wn wr [.blk rr (.cells (match k with | 0 => z | 1 => u1 | _ => u2).C 24 (0,0))])
  case atStart => exact ⟨0, rfl, by omega, rfl, rfl, hO⟩
  case round =>
    obtain ⟨k, rfl, hk, rfl, rfl, hO1⟩ := hrel
    clear hO
    have hO := hO1
    clear hO1
    obtain rfl | rfl | rfl : k = 0 ∨ k = 1 ∨ k = 2 := by omega
    · replace hO : Own wn wr [.blk rr (.cells z.C 24 (0,0))] := hO
      go_wp2_with (first
        | ((with_reducible refine gLoad ?_); first | refine ldX hO 0 rfl rfl (tA rfl) (tS rfl) ?_ | refine ldC hO 0 rfl rfl (tA rfl) rfl ?_)
        | ((with_reducible refine gStore ?_); first | (refine stX hO 0 rfl rfl rfl rfl rfl (tS rfl) ?_; clear hO; intro ww hO) | (refine stC hO 0 rfl rfl rfl (ltb rfl) rfl (tS rfl) ?_; clear hO; intro ww hO))
        | (go_at_call 18; refine (absorb1_calls z _ _ _ salt _ (hO.rd HR2.out) (HT.out.own hO) (by omega)).mono ?_; rw [H1.out]; rintro e ww ⟨rfl, hb⟩; replace hO := hO.call hb; clear hb))
      go_roundg 1
      case measure => omega
      case rel => exact ⟨1, rfl, by omega, rfl, by go_num, hO⟩
    · replace hO : Own wn wr [.blk rr (.cells u1.C 24 (0,0))] := hO
      go_wp2_with (first
        | ((with_reducible refine gLoad ?_); first | refine ldX hO 0 rfl rfl (tA rfl) (tS rfl) ?_ | refine ldC hO 0 rfl rfl (tA rfl) rfl ?_)
        | ((with_reducible refine gStore ?_); first | (refine stX hO 0 rfl rfl rfl rfl rfl (tS rfl) ?_; clear hO; intro ww hO) | (refine stC hO 0 rfl rfl rfl (ltb rfl) rfl (tS rfl) ?_; clear hO; intro ww hO))
        | (go_at_call 18; refine (absorb1_calls u1 _ _ _ word _ (hO.rd HR1.out) (HT.out.own hO) (by omega)).mono ?_; rw [H2.out]; rintro e ww ⟨rfl, hb⟩; replace hO := hO.call hb; clear hb))
      go_roundg 0
      case measure => omega
      case rel => exact ⟨2, rfl, by omega, rfl, by go_num, hO⟩
    · replace hO : Own wn wr [.blk rr (.cells u2.C 24 (0,0))] := hO
      go_wp2_with (first
        | ((with_reducible refine gLoad ?_); first | refine ldX hO 0 rfl rfl (tA rfl) (tS rfl) ?_ | refine ldC hO 0 rfl rfl (tA rfl) rfl ?_)
        | ((with_reducible refine gStore ?_); first | (refine stX hO 0 rfl rfl rfl rfl rfl (tS rfl) ?_; clear hO; intro ww hO) | (refine stC hO 0 rfl rfl rfl (ltb rfl) rfl (tS rfl) ?_; clear hO; intro ww hO)))
      refine bodyPost_ret (res_ct rfl _ _ rr 24 u2.C (0,0) _ rfl (hO.blk 0 rfl) Tryd.underlying24 rfl (iws' _)) rfl ⟨rfl, hO.below⟩
end Go.Proofs.YtbgefpmnncaifaaDoor
