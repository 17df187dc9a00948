/- Walk: coder.Decode of a text that ends too early. -/
import Derived.Test.YtmfeknamdjjbhaaKf
namespace Go.Proofs.Ytmfeknamdjjbhaa
open Go.RowKit Go.Own Go.Bv Go.Ord Go.Eq Go.Opn Go.Pb

set_option maxHeartbeats 8000000 in
set_option maxRecDepth 100000 in
theorem dec_short (n : Nat) (hn : n ≤ 1024) (a : Option Addr) (m cap : Nat) (b : List (BitVec 8)) (a3 : Option Addr) (N c3 : Nat) (pl : List Nat) (w : World) (hR : Rd w 1 a m cap (u8s b)) (hA : Rd w 1 a3 N c3 (i64s (natI pl)))
    (hm : m ≤ 10000000) (hN : N ≤ 1000000) (hb : b.length = m) (ho : Go.Kc.mayOpen b) (hw : ∀ x ∈ pl, x < n) (j : Nat) (hj : j < pl.length)
    (hall : ∀ i (hi : i < j), (Go.Kc.rdN b (Go.Kc.open_ n b) (pl.take i)).may b (pl[i]'(by omega))) (hno : ¬ (Go.Kc.rdN b (Go.Kc.open_ n b) (pl.take j)).may b pl[j]) :
    Calls Try.prog 18 #[.int .i64 (n : Int), .slice a m cap, .slice a3 N c3] w fun e w' => e = .returned (.tuple #[.slice none 0 0, .int .i64 0, .int .i64 2]) ∧ Below w.heap.size w w' := by
  have hO := Own.start w
  have hpl : pl.length = N := by have := hA.len; rw [i64s_length] at this; unfold natI at this; rw [List.length_map] at this; omega
  have hrok := fun k (hk : k ≤ j) => Go.Kc.rok_run ho pl hw k (by omega) fun i hi hl => hall i (by omega)
  have HNR := Lib.hid (fun w h => newR_ok n hn a m cap b w h hm hb (by rw [← hb]; exact ho.1) ho.2.1 _ rfl)
  have HNV : Hid (¬ Go.Kc.val ((b.drop 1).take 4) = 4294967295) := ho.2.2
  have HR := Lib.hid hR
  have HA := Lib.hid hA
  have HPL := Lib.hid hpl
  have HROK := Lib.hid hrok
  have HALL := Lib.hid hall
  have HW := Lib.hid hw
  have HNO := Lib.hid hno
  have hjN : j < N := by omega
  have HM := Lib.hid hm
  have HB := Lib.hid hb
  clear hR hA hb ho hw hall hno hpl hrok hm hn
  generalize hWW : w = wn at hO HR HA ⊢
  clear hWW w
  go_enter Try.func18, Try.ntmps18
  go_wp2_with (first
    | (go_at_call 12; refine (HNR.out _ (hO.rd HR.out)).mono ?_; rintro e ww hpost; unfold newPost at hpost; rw [if_neg HNV.out] at hpost; obtain ⟨rb, aP, cP, aB, cB, rfl, hK⟩ := hpost; replace hO := hO.join hK; clear hK)
    | ((with_reducible refine gMake ?_); refine own_make hO _ _ 47 ebool N rfl rfl rfl rfl (by omega) (by simp [maxLen]; omega) ?_; clear hO; intro g ww hO))
  have hO2 : Own wn ww [.blk rb (.cells (rC (.slice aP n cP) (.slice aB m cB) (Go.Kc.open_ n b).used (Go.Kc.open_ n b).span (Go.Kc.open_ n b).code) 67 (0,0)), .sl 5 1 (.slice aB m cB) m (u8s b), .sl 3 1 (.slice aP n cP) n (i64s (Go.Kc.open_ n b).p), .sl 4 1 (.slice (some ⟨g, 0, none⟩) N N) N (madeCells (Value.bool false).cells (N * 1)).toList] := hO.perm (List.perm_append_comm (l₁ := [_]) (l₂ := [_, _, _]))
  clear hO
  have hO := hO2
  clear hO2
  go_loopg [28] N (fun q c wr => ∃ (k : Nat) (r : Go.Kc.Rr) (BV : List Value), q = N - k ∧ k ≤ j ∧ c = .int .i64 (k : Int) ∧ Hid (Go.Kc.rdN b (Go.Kc.open_ n b) (pl.take k) = r) ∧ Own wn wr [.blk rb (.cells (rC (.slice aP n cP) (.slice aB m cB) r.used r.span r.code) 67 (0,0)), .sl 5 1 (.slice aB m cB) m (u8s b), .sl 3 1 (.slice aP n cP) n (i64s r.p), .sl 4 1 (.slice (some ⟨g, 0, none⟩) N N) N BV])
  case atStart => exact ⟨0, Go.Kc.open_ n b, _, rfl, by omega, rfl, rfl, hO⟩
  case round =>
    obtain ⟨k, r, BV, rfl, hk, rfl, HRR, hO1⟩ := hrel
    clear hO
    have hO := hO1
    clear hO1
    have hlt : k < N := by omega
    have hb0 : decide ((k : Int) < (N : Int)) = true := decide_eq_true (by omega)
    have hkl : k < pl.length := by rw [HPL.out]; exact hlt
    obtain ⟨b3, o3, rfl⟩ := HA.out.place (by omega)
    have hrk := HROK.out k hk
    rw [HRR.out] at hrk
    have hpn := HW.out _ (List.getElem_mem hkl)
    have hx : (i64s (natI pl))[k]? = some (.int .i64 ((pl[k] : Nat) : Int)) := by
      rw [i64s_get (natI pl) k (by unfold natI; rw [List.length_map]; exact hkl)]
      unfold natI
      rw [List.getElem_map]
    by_cases hkj : k < j
    · have s2 := HALL.out k hkj
      rw [HRR.out] at s2
      have hst : Go.Kc.rdN b (Go.Kc.open_ n b) (pl.take (k + 1)) = r.next b pl[k] := by
        rw [List.take_succ_eq_append_getElem hkl, Go.Kc.rdN_snoc, HRR.out]
      generalize pl[k] = p at s2 hpn hst hx
      obtain ⟨t, ht⟩ : ∃ t, r.next b p = t := ⟨_, rfl⟩
      rw [ht] at hst
      obtain ⟨sb, hsb⟩ : ∃ x, r.set p = x := ⟨_, rfl⟩
      have HX := Lib.hid hx
      have HBT := Lib.hid hsb
      have HMAY := Lib.hid s2
      have HRK := Lib.hid hrk
      have HP := Lib.hid hpn
      have HST := Lib.hid hst
      have HT := Lib.hid ht
      clear hx hsb s2 hrk hpn hst ht hkl
      go_wp2_with (first
        | ((with_reducible refine gLoad ?_); refine ld_rd (hO.rd HA.out) rfl (HX.out) (tA rfl) ?_)
        | (go_at_call 14; refine (next_ok r b HRK.out HB.out HM.out p HP.out HMAY.out t HT.out hO).mono ?_; rw [HBT.out]; rintro e ww ⟨rfl, hO2⟩; clear hO; have hO := hO2; clear hO2)
        | ((with_reducible refine gStore ?_); refine own_setElem hO 3 4 _ _ _ rfl rfl rfl (by omega) ibools rfl ?_; clear hO; intro ww hO))
      go_roundg (N - (k + 1))
      case measure => omega
      case rel => exact ⟨k + 1, t, _, rfl, by omega, by go_num, HST, hO⟩
    · obtain rfl : k = j := by omega
      have s2 := HNO.out
      rw [HRR.out] at s2
      generalize pl[k] = p at s2 hpn hx
      have HX := Lib.hid hx
      have HMAY := Lib.hid s2
      have HRK := Lib.hid hrk
      have HP := Lib.hid hpn
      clear hx s2 hrk hpn hkl HALL HNO
      go_wp2_with (first
        | ((with_reducible refine gLoad ?_); refine ld_rd (hO.rd HA.out) rfl (HX.out) (tA rfl) ?_)
        | (go_at_call 14; refine (next_short r b HRK.out HB.out HM.out p HP.out HMAY.out hO).mono ?_; rintro e ww ⟨rfl, hO2⟩; clear hO; have hO := hO2; clear hO2)
        | ((with_reducible refine gStore ?_); refine own_setElem hO 3 4 _ _ _ rfl rfl rfl (by omega) ibools rfl ?_; clear hO; intro ww hO))
      go_ret3
      exact ⟨rfl, hO.below⟩
end Go.Proofs.Ytmfeknamdjjbhaa
