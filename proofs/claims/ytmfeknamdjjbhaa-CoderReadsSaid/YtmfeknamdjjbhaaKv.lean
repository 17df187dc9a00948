/- Walk: coder.Decode of what is read to its end, and of what is not. -/
import Derived.Test.YtmfeknamdjjbhaaKs
import Derived.Test.YtmfeknamdjjbhaaKu
import Derived.OwnWalk
namespace Go.Kc
theorem rok_run {n : Nat} {b : List (BitVec 8)} (ho : mayOpen b) (pl : List Nat) (hw : ∀ x ∈ pl, x < n) : ∀ k, k ≤ pl.length → (∀ j (hj : j < k) (hl : j < pl.length), (rdN b (open_ n b) (pl.take j)).may b pl[j]) → Rok n b (rdN b (open_ n b) (pl.take k))
  | 0, _, _ => rok_open ho
  | k + 1, hk, h => by
    have ih := rok_run ho pl hw k (by omega) (fun j hj hl => h j (by omega) hl)
    rw [List.take_succ_eq_append_getElem (by omega), rdN_snoc]
    exact rok_next ih (hw _ (List.getElem_mem _)) (h k (by omega) (by omega))
end Go.Kc
namespace Go.Proofs.Ytmfeknamdjjbhaa
open Go.RowKit Go.Own Go.Bv Go.Ord Go.Eq Go.Opn Go.Pb

theorem ebool : Elem Try.prog 47 4 (.bool false) 1 1 := ⟨Try.underlying47, by kernel_rfl, rfl, by decide⟩
theorem ibools : (Try.prog.info? 4).map (·.size) = some 1 := by kernel_rfl
def blv (q : List Bool) : List Value := q.map Value.bool
theorem blv_get (q : List Bool) (k : Nat) (h : k < q.length) : (blv q)[k]? = some (.bool q[k]) := by simp [blv, h]
theorem made_bool (n : Nat) : (madeCells (Value.bool false).cells (n * 1)).toList = List.replicate n (Value.bool false) := by
  rw [Nat.mul_one]; exact toList_madeCells_one _ n
def natI (l : List Nat) : List Int := l.map fun (x : Nat) => (x : Int)

set_option maxHeartbeats 8000000 in
set_option maxRecDepth 100000 in
theorem dec_ok (n : Nat) (hn : n ≤ 1024) (a : Option Addr) (m cap : Nat) (b : List (BitVec 8)) (a3 : Option Addr) (N c3 : Nat) (pl : List Nat) (Q : List Bool) (w : World) (hR : Rd w 1 a m cap (u8s b)) (hA : Rd w 1 a3 N c3 (i64s (natI pl)))
    (hm : m ≤ 10000000) (hN : N ≤ 1000000) (hb : b.length = m) (ho : Go.Kc.mayOpen b) (hw : ∀ x ∈ pl, x < n) (hQ : Q.length = N)
    (hall : ∀ j (hj : j < pl.length) (hq : j < Q.length), (Go.Kc.rdN b (Go.Kc.open_ n b) (pl.take j)).set pl[j] = Q[j] ∧ (Go.Kc.rdN b (Go.Kc.open_ n b) (pl.take j)).may b pl[j]) (U : Nat) (hU : (Go.Kc.rdN b (Go.Kc.open_ n b) pl).used = U) :
    Calls Try.prog 18 #[.int .i64 (n : Int), .slice a m cap, .slice a3 N c3] w fun e w' => ∃ a' c', e = .returned (.tuple #[.slice a' N c', .int .i64 (U : Int), .int .i64 0]) ∧ Below w.heap.size w w' ∧ w'.ownsRow w.heap.size 4 1 (.slice a' N c') N (blv Q) := by
  have hO := Own.start w
  have hpl : pl.length = N := by have := hA.len; rw [i64s_length] at this; unfold natI at this; rw [List.length_map] at this; omega
  have hrok := fun k hk => Go.Kc.rok_run ho pl hw k hk fun j hj hl => (hall j hl (by omega)).2
  have HNR := Lib.hid (fun w h => newR_ok n hn a m cap b w h hm hb (by rw [← hb]; exact ho.1) ho.2.1 _ rfl)
  have HNV : Hid (¬ Go.Kc.val ((b.drop 1).take 4) = 4294967295) := ho.2.2
  have HR := Lib.hid hR
  have HA := Lib.hid hA
  have HPL := Lib.hid hpl
  have HQL := Lib.hid hQ
  have HROK := Lib.hid hrok
  have HALL := Lib.hid hall
  have HW := Lib.hid hw
  have HUU := Lib.hid hU
  have HM := Lib.hid hm
  have HB := Lib.hid hb
  clear hR hA hb ho hw hQ hall hU hpl hrok hm hn
  generalize hWW : w = wn at hO HR HA ⊢
  clear hWW w
  go_enter Try.func18, Try.ntmps18
  go_wp2_with (first
    | (go_at_call 12; refine (HNR.out _ (hO.rd HR.out)).mono ?_; rintro e ww hpost; unfold newPost at hpost; rw [if_neg HNV.out] at hpost; obtain ⟨rb, aP, cP, aB, cB, rfl, hK⟩ := hpost; replace hO := hO.join hK; clear hK)
    | ((with_reducible refine gMake ?_); refine own_make hO _ _ 47 ebool N rfl rfl rfl rfl (by omega) (by simp [maxLen]; omega) ?_; clear hO; intro g ww hO))
  have hO2 : Own wn ww [.blk rb (.cells (rC (.slice aP n cP) (.slice aB m cB) (Go.Kc.open_ n b).used (Go.Kc.open_ n b).span (Go.Kc.open_ n b).code) 67 (0,0)), .sl 5 1 (.slice aB m cB) m (u8s b), .sl 3 1 (.slice aP n cP) n (i64s (Go.Kc.open_ n b).p), .sl 4 1 (.slice (some ⟨g, 0, none⟩) N N) N (fillK (blv Q) (.bool false) 0)] := by
    rw [fillK_zero, show (blv Q).length = N by unfold blv; rw [List.length_map, HQL.out], ← made_bool]
    exact hO.perm (List.perm_append_comm (l₁ := [_]) (l₂ := [_, _, _]))
  clear hO
  have hO := hO2
  clear hO2
  go_loopg [28] N (fun q c wr => ∃ (k : Nat) (r : Go.Kc.Rr), q = N - k ∧ k ≤ N ∧ c = .int .i64 (k : Int) ∧ Hid (Go.Kc.rdN b (Go.Kc.open_ n b) (pl.take k) = r) ∧ Own wn wr [.blk rb (.cells (rC (.slice aP n cP) (.slice aB m cB) r.used r.span r.code) 67 (0,0)), .sl 5 1 (.slice aB m cB) m (u8s b), .sl 3 1 (.slice aP n cP) n (i64s r.p), .sl 4 1 (.slice (some ⟨g, 0, none⟩) N N) N (fillK (blv Q) (.bool false) k)])
  case atStart => exact ⟨0, Go.Kc.open_ n b, rfl, by omega, rfl, rfl, hO⟩
  case round =>
    obtain ⟨k, r, rfl, hk, rfl, HRR, hO1⟩ := hrel
    clear hO
    have hO := hO1
    clear hO1
    by_cases hlt : k < N
    · have hb0 : decide ((k : Int) < (N : Int)) = true := decide_eq_true (by omega)
      have hkl : k < pl.length := by rw [HPL.out]; exact hlt
      have hkq : k < Q.length := by rw [HQL.out]; exact hlt
      obtain ⟨b3, o3, rfl⟩ := HA.out.place (by omega)
      obtain ⟨s1, s2⟩ := HALL.out k hkl hkq
      have hrk := HROK.out k (by omega)
      rw [HRR.out] at s1 s2 hrk
      have hpn := HW.out _ (List.getElem_mem hkl)
      have hst : Go.Kc.rdN b (Go.Kc.open_ n b) (pl.take (k + 1)) = r.next b pl[k] := by
        rw [List.take_succ_eq_append_getElem hkl, Go.Kc.rdN_snoc, HRR.out]
      have hx : (i64s (natI pl))[k]? = some (.int .i64 ((pl[k] : Nat) : Int)) := by
        rw [i64s_get (natI pl) k (by unfold natI; rw [List.length_map]; exact hkl)]
        unfold natI
        rw [List.getElem_map]
      have hf := fillK_set (blv Q) (.bool false) _ k (blv_get Q k hkq)
      generalize pl[k] = p at s1 s2 hpn hst hx
      generalize Q[k] = qb at s1 hf
      obtain ⟨t, ht⟩ : ∃ t, r.next b p = t := ⟨_, rfl⟩
      rw [ht] at hst
      have HX := Lib.hid hx
      have HBT := Lib.hid s1
      have HMAY := Lib.hid s2
      have HRK := Lib.hid hrk
      have HP := Lib.hid hpn
      have HST := Lib.hid hst
      have HT := Lib.hid ht
      have HF := Lib.hid hf
      clear hx s1 s2 hrk hpn hst ht hf hkl hkq
      go_wp2_with (first
        | ((with_reducible refine gLoad ?_); refine ld_rd (hO.rd HA.out) rfl (HX.out) (tA rfl) ?_)
        | (go_at_call 14; refine (next_ok r b HRK.out HB.out HM.out p HP.out HMAY.out t HT.out hO).mono ?_; rw [HBT.out]; rintro e ww ⟨rfl, hO2⟩; clear hO; have hO := hO2; clear hO2)
        | ((with_reducible refine gStore ?_); refine own_setElem hO 3 4 _ _ _ rfl rfl rfl (by omega) ibools rfl ?_; clear hO; intro ww hO))
      go_roundg (N - (k + 1))
      case measure => omega
      case rel => exact ⟨k + 1, t, rfl, by omega, by go_num, HST, by rw [← HF.out]; exact hO⟩
    · obtain rfl : k = N := by omega
      have hu : r.used = U := by
        have h := HRR.out
        rw [List.take_of_length_le (by rw [HPL.out]; omega)] at h
        rw [← h, HUU.out]
      subst hu
      have HFA : Hid (fillK (blv Q) (.bool false) k = blv Q) := by
        have h := fillK_all (blv Q) (Value.bool false)
        rw [show (blv Q).length = k by unfold blv; rw [List.length_map, HQL.out]] at h
        exact h
      rw [HFA.out] at hO
      clear HROK HALL HUU HFA
      go_wp2
      refine wp_region_textS (fun w' => Own wn w' [.blk rb (.cells (rC (.slice aP n cP) (.slice aB m cB) r.used r.span r.code) 67 (0,0)), .sl 5 1 (.slice aB m cB) m (u8s b), .sl 3 1 (.slice aP n cP) n (i64s r.p), .sl 4 1 (.slice (some ⟨g, 0, none⟩) k k) k (blv Q)]) (fun op => match op with | .load _ _ => true | _ => false) (by kernel_rfl) (by kernel_rfl) hO.drew ?_
      replace hO := hO.drew
      generalize World.drew _ = wd at hO ⊢
      go_wp2_with (first
        | (((with_reducible refine gIL ?_); first | refine wpI_ldcS (fun w' hS => hS.blk 0 rfl) rfl rfl (tA rfl) rfl ?_); first | (refine wpI_act (by simp only [Act.put, List.setIfInBounds_toArray, List.set_cons_succ, List.set_cons_zero]; rfl) ?_) | skip)
        | ((with_reducible refine gI ?_); refine wpI_step rfl rfl (by kernel_rfl) ?_; intro K hK; have HK := Lib.hid hK; clear hK) | ((with_reducible refine gI ?_); first | refine wpI_skip rfl ?_ | refine wpI_want rfl ?_) | ((with_reducible refine gOnlyK HK.out ?_ ?_); exact hO; clear HK K; first | (refine wpI_act (by simp only [Act.put, List.setIfInBounds_toArray, List.set_cons_succ, List.set_cons_zero]; rfl) ?_) | skip) | (with_reducible refine wpI_nil ?_))
      go_ret3
      exact ⟨some ⟨g, 0, none⟩, k, rfl, hO.below, hO.row 3 rfl⟩
end Go.Proofs.Ytmfeknamdjjbhaa
