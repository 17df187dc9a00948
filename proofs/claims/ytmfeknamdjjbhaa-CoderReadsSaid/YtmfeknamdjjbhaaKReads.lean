/- The walk of CoderReads. -/
import Derived.Test.YtmfeknamdjjbhaaKz
namespace Go.Proofs.Ytmfeknamdjjbhaa
open Go.RowKit Go.Own Go.Bv Go.Ord Go.Eq Go.Opn Go.Pb

def badR (x : Int) (n N : Nat) : Prop := 500 < n ∨ 300 < N ∨ (60 < x ∧ x ≤ 1024)

set_option maxHeartbeats 8000000 in
set_option maxRecDepth 100000 in
theorem kreads_out (x : Int) (a2 : Option Addr) (n c2 : Nat) (a3 : Option Addr) (N c3 : Nat) (w : World) (h : badR x n N) :
    Calls Try.prog 4 #[.int .i64 x, .slice a2 n c2, .slice a3 N c3] w fun e w' => e = .returned (.bool true) ∧ Below w.heap.size w w' := by
  have hO := Own.start w
  generalize hW : w = wn at hO ⊢
  clear hW w
  obtain ⟨D2, hD2⟩ : ∃ D, decide ((500 : Int) < (n : Int)) = D := ⟨_, rfl⟩
  obtain ⟨D3, hD3⟩ : ∃ D, decide ((300 : Int) < (N : Int)) = D := ⟨_, rfl⟩
  obtain ⟨D5, hD5⟩ : ∃ D, decide ((60 : Int) < x) = D := ⟨_, rfl⟩
  obtain ⟨D6, hD6⟩ : ∃ D, decide (x ≤ 1024) = D := ⟨_, rfl⟩
  have hb : (D2 || D3 || (D5 && D6)) = true := by
    rw [← hD2, ← hD3, ← hD5, ← hD6]
    unfold badR at h
    simp
    omega
  clear h
  cases D2 <;> cases D3 <;> cases D5 <;> cases D6 <;> first
    | (exfalso; revert hb; decide)
    | (clear hb
       go_enter Try.func4, Try.ntmps4
       go_wp2_with (first
         | ((with_reducible refine gG ?_); refine wpList_want rfl ?_)
         | (go_at_call 9; refine (live_calls _).mono ?_; rintro e ww ⟨rfl, hb⟩; replace hO := hO.call hb; clear hb))
       go_ret
       exact ⟨rfl, hO.below⟩)
    | (exfalso; simp at hD2 hD3 hD5 hD6; omega)

set_option maxHeartbeats 8000000 in
set_option maxRecDepth 100000 in
theorem kreads_no (x : Int) (a2 : Option Addr) (n c2 : Nat) (b : List (BitVec 8)) (a3 : Option Addr) (N c3 : Nat) (w : World)
    (hB : Rd w 1 a2 n c2 (u8s b)) (h : ¬ badR x n N) (hE0 : Go.Kc.opE x b ≠ 0) :
    Calls Try.prog 4 #[.int .i64 x, .slice a2 n c2, .slice a3 N c3] w fun e w' => e = .returned (.bool true) ∧ Below w.heap.size w w' := by
  have hO := Own.start w
  have HB := Lib.hid hB
  obtain ⟨D5, hD5⟩ : ∃ D, decide ((60 : Int) < x) = D := ⟨_, rfl⟩
  obtain ⟨D6, hD6⟩ : ∃ D, decide (x ≤ 1024) = D := ⟨_, rfl⟩
  have d2 : decide ((500 : Int) < (n : Int)) = false := by unfold badR at h; simp; omega
  have d3 : decide ((300 : Int) < (N : Int)) = false := by unfold badR at h; simp; omega
  have hDD : (D5 = false ∨ D5 = true ∧ D6 = false) := by
    rw [← hD5, ← hD6]
    unfold badR at h
    simp only [decide_eq_false_iff_not, decide_eq_true_eq]
    omega
  have hn : n ≤ 10000000 := by unfold badR at h; omega
  obtain ⟨E, hE⟩ : ∃ E, Go.Kc.opE x b = E := ⟨_, rfl⟩
  rw [hE] at hE0
  have d0 : (E == 0) = false := by simpa using hE0
  have d0' : decide (E = 0) = false := by simpa using hE0
  have d0'' : (E = 0) = False := eq_false hE0
  have H1 := Lib.hid (fun aT cT w h => newR_bad x aT n cT b w h hn E hE hE0)
  have H2 := Lib.hid (fun w h => rstart_bad x a2 n c2 b w h E hE hE0)
  clear hB h hE hE0
  generalize hW : w = wn at hO HB ⊢
  clear hW w
  rcases hDD with rfl | ⟨rfl, rfl⟩
  all_goals
    go_enter Try.func4, Try.ntmps4
    go_wp2_with (first
      | ((with_reducible refine gG ?_); refine wpList_want rfl ?_)
      | (go_at_call 9; refine (live_calls _).mono ?_; rintro e ww ⟨rfl, hb⟩; replace hO := hO.call hb; clear hb)
      | ((with_reducible refine gAppendNil ?_); refine own_appendNil hO _ _ 26 eu8 rfl rfl (hO.rd HB.out) (u8s_one _) (by simp [maxLen]; omega) (by omega) ?_; clear hO; intro aT cT ww hO)
      | (go_at_call 12; refine (H1.out _ _ _ (hO.rdAt 0 rfl)).mono ?_; rintro e ww ⟨rfl, hb⟩; replace hO := hO.call hb; clear hb)
      | (go_at_call 13; refine (H2.out _ (hO.rd HB.out)).mono ?_; rintro e ww ⟨rfl, hb⟩; replace hO := hO.call hb; clear hb)
      | ((with_reducible refine gAlloc ?_); refine own_alloc hO _ _ irgz ?_; clear hO; intro xb ww hO)
      | ((with_reducible refine gStore ?_); first | (refine stX hO 0 rfl rfl rfl rfl rfl (tS rfl) ?_; clear hO; intro ww hO) | (refine stC hO 0 rfl rfl rfl (ltb rfl) rfl (tS rfl) ?_; clear hO; intro ww hO))
      | (go_at_call 14; refine (next_nil _ _).mono ?_; rintro e w1 ⟨rfl, rfl⟩)
      | (go_at_call 15; refine (used_nil _).mono ?_; rintro e w1 ⟨rfl, rfl⟩))
    go_ret
    exact ⟨rfl, hO.below⟩

def octs (vs : List Value) : Prop := ∀ k (h : k < vs.length), ∃ z, vs[k] = .int .u8 z
theorem octs_u8s (b : List (BitVec 8)) : octs (u8s b) := fun k h => ⟨_, Option.some.inj ((List.getElem?_eq_getElem h).symm.trans (u8s_get b k (by simpa [u8s_length] using h)))⟩
theorem octs_set {vs : List Value} (h : octs vs) (k : Nat) (z : Int) : octs (vs.set k (.int .u8 z)) := fun j hj => by
  rw [List.getElem_set]
  split
  · exact ⟨_, rfl⟩
  · exact h j (by simpa using hj)

set_option maxHeartbeats 1000000 in
theorem used_at {w0 w : World} {L : List Res} (hO : Own w0 w L) (i : Nat) {rb : Nat} {pS bS : Value} {used span code : Nat} (hi : L[i]? = some (.blk rb (.cells (rC pS bS used span code) 67 (0,0)))) :
    Calls Try.prog 15 #[.pointer (some ⟨rb, 0, none⟩)] w fun e w' => e = .returned (.int .i64 (used : Int)) ∧ w = w' := by
  go_enter Try.func15, Try.ntmps15
  go_wp2_with (first
    | ((with_reducible refine gLoad ?_); refine ldC hO i hi rfl (tA rfl) rfl ?_))
  go_ret
  exact ⟨rfl, rfl⟩

set_option maxHeartbeats 16000000 in
set_option maxRecDepth 100000 in
theorem kreads_in (x : Int) (a2 : Option Addr) (m c2 : Nat) (b : List (BitVec 8)) (a3 : Option Addr) (N c3 : Nat) (l : List Int) (w : World)
    (hB : Rd w 1 a2 m c2 (u8s b)) (hA : Rd w 1 a3 N c3 (i64s l)) (h : ¬ badR x m N) (hE0 : Go.Kc.opE x b = 0) :
    Calls Try.prog 4 #[.int .i64 x, .slice a2 m c2, .slice a3 N c3] w fun e w' => e = .returned (.bool true) ∧ Below w.heap.size w w' := by
  have hO := Own.start w
  have HBR := Lib.hid hB
  have HA := Lib.hid hA
  obtain ⟨n, rfl, hn, ho⟩ := Go.Kc.opE_ok hE0
  have hx6 : n ≤ 60 := by unfold badR at h; omega
  have d5 : decide ((60 : Int) < (n : Int)) = false := decide_eq_false (by omega)
  have d2 : decide ((500 : Int) < (m : Int)) = false := by unfold badR at h; simp; omega
  have d3 : decide ((300 : Int) < (N : Int)) = false := by unfold badR at h; simp; omega
  have hm5 : m ≤ 500 := by unfold badR at h; omega
  have hN3 : N ≤ 300 := by unfold badR at h; omega
  have hbl : b.length = m := by have := hB.len; rw [u8s_length] at this; omega
  have hpl : l.length = N := by have := hA.len; rw [i64s_length] at this; omega
  obtain ⟨V, hV⟩ : ∃ V, Go.Kc.val ((b.drop 1).take 4) = V := ⟨_, rfl⟩
  have hVn : V ≠ 4294967295 := by rw [← hV]; exact ho.2.2
  have H1 := Lib.hid (fun aT cT w h => newR_ok n hn aT m cT b w h (by omega) hbl (by rw [← hbl]; exact ho.1) ho.2.1 V hV)
  have H2 := Lib.hid (fun w h => rstart_ok n hn a2 m c2 b w h ho V hV)
  have HOP := Lib.hid (Go.Kc.rok_open (n := n) ho)
  have HVO : Hid ((Go.Kc.open_ n b).code = V) := hV
  have HVN : Hid (¬ V = 4294967295) := hVn
  have HB := Lib.hid hbl
  have HPL := Lib.hid hpl
  have HM : Hid (m ≤ 10000000) := by show _ ≤ _; omega
  have HNN := Lib.hid hn
  clear hB hA h hE0 hbl hpl hV hVn ho hn
  generalize hW : w = wn at hO HBR HA ⊢
  clear hW w
  go_enter Try.func4, Try.ntmps4
  go_wp2_with (first
    | ((with_reducible refine gG ?_); refine wpList_want rfl ?_)
    | (go_at_call 9; refine (live_calls _).mono ?_; rintro e ww ⟨rfl, hb⟩; replace hO := hO.call hb; clear hb)
    | ((with_reducible refine gAppendNil ?_); refine own_appendNil hO _ _ 26 eu8 rfl rfl (hO.rd HBR.out) (u8s_one _) (by simp [maxLen]; omega) (by omega) ?_; clear hO; intro aT cT ww hO)
    | (go_at_call 12; refine (H1.out _ _ _ (hO.rdAt 0 rfl)).mono ?_; rintro e ww hpost; unfold newPost at hpost; rw [if_neg HVN.out] at hpost; obtain ⟨rb, aP, cP, aB, cB, rfl, hK⟩ := hpost; replace hO := hO.join hK; clear hK)
    | (go_at_call 13; refine (H2.out _ (hO.rd HBR.out)).mono ?_; rintro e ww ⟨aQ, cQ, rfl, hb, hr⟩; replace hO := hO.addRow hb hr; clear hb hr)
    | ((with_reducible refine gAlloc ?_); refine own_alloc hO _ _ irgz ?_; clear hO; intro xb ww hO)
    | ((with_reducible refine gStore ?_); first | (refine stX hO 0 rfl rfl rfl rfl rfl (tS rfl) ?_; clear hO; intro ww hO) | (refine stC hO 0 rfl rfl rfl (ltb rfl) rfl (tS rfl) ?_; clear hO; intro ww hO)))
  have hO2 : Own wn ww (.sl 5 1 (.slice aT m cT) m (u8s b) :: [.blk rb (.cells (rC (.slice aP n cP) (.slice aB m cB) (Go.Kc.open_ n b).used (Go.Kc.open_ n b).span (Go.Kc.open_ n b).code) 67 (0,0)), .sl 5 1 (.slice aB m cB) m (u8s b), .sl 3 1 (.slice aP n cP) n (i64s (Go.Kc.open_ n b).p), .blk xb (.cells (rgC (.slice aQ n cQ) (Go.Kc.open_ n b).span (Go.Kc.open_ n b).code (Go.Kc.open_ n b).used) 38 (0,0)), .sl 3 1 (.slice aQ n cQ) n (i64s (Go.Kc.open_ n b).p)]) := by
    have h1 : Own wn ww ([.blk xb (.cells (rgC (.slice aQ n cQ) (Go.Kc.open_ n b).span (Go.Kc.open_ n b).code (Go.Kc.open_ n b).used) 38 (0,0)), .sl 3 1 (.slice aQ n cQ) n (i64s (Go.Kc.open_ n b).p)] ++ ([.blk rb (.cells (rC (.slice aP n cP) (.slice aB m cB) (Go.Kc.open_ n b).used (Go.Kc.open_ n b).span (Go.Kc.open_ n b).code) 67 (0,0)), .sl 5 1 (.slice aB m cB) m (u8s b), .sl 3 1 (.slice aP n cP) n (i64s (Go.Kc.open_ n b).p)] ++ [.sl 5 1 (.slice aT m cT) m (u8s b)])) := by rw [HVO.out]; exact hO
    refine h1.perm (List.perm_append_comm.trans ?_)
    exact (List.perm_append_comm (l₁ := [_, _, _]) (l₂ := [_])).append_right _
  clear hO
  have hO := hO2
  clear hO2 H1 H2
  obtain ⟨L2, hL2⟩ : ∃ L2 : List Res, L2 = [.blk rb (.cells (rC (.slice aP n cP) (.slice aB m cB) (Go.Kc.open_ n b).used (Go.Kc.open_ n b).span (Go.Kc.open_ n b).code) 67 (0,0)), .sl 5 1 (.slice aB m cB) m (u8s b), .sl 3 1 (.slice aP n cP) n (i64s (Go.Kc.open_ n b).p), .blk xb (.cells (rgC (.slice aQ n cQ) (Go.Kc.open_ n b).span (Go.Kc.open_ n b).code (Go.Kc.open_ n b).used) 38 (0,0)), .sl 3 1 (.slice aQ n cQ) n (i64s (Go.Kc.open_ n b).p)] := ⟨_, rfl⟩
  rw [← hL2] at hO
  have HL2 := Lib.hid hL2
  clear hL2
  go_loopg [89] m (fun q c wr => ∃ (k : Nat) (vs : List Value), q = m - k ∧ k ≤ m ∧ c = .int .i64 (k : Int) ∧ octs vs ∧ vs.length = m ∧ Own wn wr (.sl 5 1 (.slice aT m cT) m vs :: L2))
  case atStart => exact ⟨0, u8s b, rfl, by omega, rfl, octs_u8s b, by rw [u8s_length, HB.out], hO⟩
  case round =>
    obtain ⟨k, vs, rfl, hk, rfl, hoc, hvl, hO1⟩ := hrel
    clear hO
    have hO := hO1
    clear hO1
    by_cases hlt : k < m
    · have hb0 : decide ((k : Int) < (m : Int)) = true := decide_eq_true (by omega)
      obtain ⟨gT, rfl⟩ := hO.slPlace 0 rfl (by omega)
      obtain ⟨z, hz⟩ := hoc k (by omega)
      have hx : vs[k]? = some (.int .u8 z) := by rw [List.getElem?_eq_getElem (by omega), hz]
      have HX := Lib.hid hx
      have HOC := Lib.hid hoc
      have HVL := Lib.hid hvl
      clear hz hx hoc hvl
      go_wp2_with (first
        | ((with_reducible refine gLoad (T := 5) ?_); refine ld_sl hO 0 rfl rfl HX.out (tA rfl) ?_)
        | ((with_reducible refine gStore (T := 5) ?_); refine own_setElem hO 0 5 _ _ _ rfl rfl rfl (by omega) iu8x rfl ?_; clear hO; intro ww hO))
      go_roundg (m - (k + 1))
      case measure => omega
      case rel => exact ⟨k + 1, _, rfl, by omega, by go_num, octs_set HOC.out k _, by rw [List.length_set]; exact HVL.out, hO⟩
    · obtain rfl : k = m := by omega
      clear hoc hvl
      replace hO := hO.tail
      rw [HL2.out] at hO
      clear HL2
      go_wp2
      go_loopg [101] N (fun q c wr => ∃ (i : Nat) (s : Go.Kc.Rr) (aQ : Option Addr) (cQ : Nat), q = N - i ∧ i ≤ N ∧ c = .int .i64 (i : Int) ∧ Hid (Go.Kc.Rok n b s) ∧ Own wn wr [.blk rb (.cells (rC (.slice aP n cP) (.slice aB k cB) s.used s.span s.code) 67 (0,0)), .sl 5 1 (.slice aB k cB) k (u8s b), .sl 3 1 (.slice aP n cP) n (i64s s.p), .blk xb (.cells (rgC (.slice aQ n cQ) s.span s.code s.used) 38 (0,0)), .sl 3 1 (.slice aQ n cQ) n (i64s s.p)])
      case atStart => exact ⟨0, Go.Kc.open_ n b, aQ, cQ, rfl, by omega, rfl, HOP.out, hO⟩
      case round =>
        obtain ⟨i, s, aQ, cQ, rfl, hi, rfl, HS, hO1⟩ := hrel
        clear hO
        have hO := hO1
        clear hO1
        by_cases hin : i < N
        · have hb0 : decide ((i : Int) < (N : Int)) = true := decide_eq_true (by omega)
          have hil : i < l.length := by rw [HPL.out]; exact hin
          obtain ⟨b3, o3, rfl⟩ := HA.out.place (by omega)
          have hx := i64s_get l i hil
          generalize l[i] = p at hx
          have HX := Lib.hid hx
          clear hx hil
          rcases Go.Kc.nxtE_cases n b s p with h | ⟨h, a, rfl, ha, hno⟩ | ⟨h, hbad⟩
          · obtain ⟨a, rfl, ha, hmay⟩ := Go.Kc.nxtE_ok h
            obtain ⟨t, ht⟩ : ∃ t, s.next b a = t := ⟨_, rfl⟩
            obtain ⟨sb, hsb⟩ : ∃ x, s.set a = x := ⟨_, rfl⟩
            have HTK : Hid (Go.Kc.Rok n b t) := by rw [← ht]; exact Go.Kc.rok_next HS.out ha hmay
            have HBT := Lib.hid hsb
            have HMAY := Lib.hid hmay
            have HP := Lib.hid ha
            have HT := Lib.hid ht
            have dsb : (sb == sb) = true := by simp
            have dus : ((t.used : Int) == (t.used : Int)) = true := by simp
            clear h hsb hmay ha ht
            go_wp2_with (first
              | ((with_reducible refine gLoad ?_); refine ld_rd (hO.rd HA.out) rfl (HX.out) (tA rfl) ?_)
              | (go_at_call 14; refine (next_ok s b HS.out HB.out HM.out a HP.out HMAY.out t HT.out hO).mono ?_; rw [HBT.out]; rintro e ww ⟨rfl, hO2⟩; clear hO; have hO := hO2; clear hO2)
              | (go_at_call 16; refine (rnext_ok n HNN.out s b HS.out aQ cQ _ _ _ _ (hO.rdAt 4 rfl) (hO.rd HBR.out) HM.out a HP.out HMAY.out t HT.out).mono ?_; rw [HBT.out]; rintro e ww ⟨a5, c5, rfl, hb, hr⟩; replace hO := hO.addRow hb hr; clear hb hr)
              | ((with_reducible refine gAlloc ?_); refine own_alloc hO _ _ irgz ?_; clear hO; intro nx ww hO)
              | ((with_reducible refine gLoad ?_); first | refine ldX hO 0 rfl rfl (tA rfl) (tS rfl) ?_ | refine ldC hO 0 rfl rfl (tA rfl) rfl ?_ | refine ldX hO 1 rfl rfl (tA rfl) (tS rfl) ?_ | refine ldC hO 1 rfl rfl (tA rfl) rfl ?_ | refine ldX hO 2 rfl rfl (tA rfl) (tS rfl) ?_ | refine ldC hO 2 rfl rfl (tA rfl) rfl ?_ | refine ldX hO 3 rfl rfl (tA rfl) (tS rfl) ?_ | refine ldC hO 3 rfl rfl (tA rfl) rfl ?_ | refine ldX hO 4 rfl rfl (tA rfl) (tS rfl) ?_ | refine ldC hO 4 rfl rfl (tA rfl) rfl ?_ | refine ldX hO 5 rfl rfl (tA rfl) (tS rfl) ?_ | refine ldC hO 5 rfl rfl (tA rfl) rfl ?_)
              | ((with_reducible refine gStore ?_); first | (refine stX hO 0 rfl rfl rfl rfl rfl (tS rfl) ?_; clear hO; intro ww hO) | (refine stC hO 0 rfl rfl rfl (ltb rfl) rfl (tS rfl) ?_; clear hO; intro ww hO) | (refine stX hO 1 rfl rfl rfl rfl rfl (tS rfl) ?_; clear hO; intro ww hO) | (refine stC hO 1 rfl rfl rfl (ltb rfl) rfl (tS rfl) ?_; clear hO; intro ww hO) | (refine stX hO 2 rfl rfl rfl rfl rfl (tS rfl) ?_; clear hO; intro ww hO) | (refine stC hO 2 rfl rfl rfl (ltb rfl) rfl (tS rfl) ?_; clear hO; intro ww hO) | (refine stX hO 3 rfl rfl rfl rfl rfl (tS rfl) ?_; clear hO; intro ww hO) | (refine stC hO 3 rfl rfl rfl (ltb rfl) rfl (tS rfl) ?_; clear hO; intro ww hO) | (refine stX hO 4 rfl rfl rfl rfl rfl (tS rfl) ?_; clear hO; intro ww hO) | (refine stC hO 4 rfl rfl rfl (ltb rfl) rfl (tS rfl) ?_; clear hO; intro ww hO) | (refine stX hO 5 rfl rfl rfl rfl rfl (tS rfl) ?_; clear hO; intro ww hO) | (refine stC hO 5 rfl rfl rfl (ltb rfl) rfl (tS rfl) ?_; clear hO; intro ww hO)))
            replace hO : Own wn _ [.blk nx (.cells (rgC (.slice a5 n c5) t.span t.code t.used) 38 (0,0)), .sl 3 1 (.slice a5 n c5) n (i64s t.p), .blk rb (.cells (rC (.slice aP n cP) (.slice aB k cB) t.used t.span t.code) 67 (0,0)), .sl 5 1 (.slice aB k cB) k (u8s b), .sl 3 1 (.slice aP n cP) n (i64s t.p), .blk xb (.cells (rgC (.slice a5 n c5) t.span t.code t.used) 38 (0,0)), .sl 3 1 (.slice aQ n cQ) n (i64s s.p)] := hO
            refine wp_region_textS (fun w' => Own wn w' [.blk nx (.cells (rgC (.slice a5 n c5) t.span t.code t.used) 38 (0,0)), .sl 3 1 (.slice a5 n c5) n (i64s t.p), .blk rb (.cells (rC (.slice aP n cP) (.slice aB k cB) t.used t.span t.code) 67 (0,0)), .sl 5 1 (.slice aB k cB) k (u8s b), .sl 3 1 (.slice aP n cP) n (i64s t.p), .blk xb (.cells (rgC (.slice a5 n c5) t.span t.code t.used) 38 (0,0)), .sl 3 1 (.slice aQ n cQ) n (i64s s.p)]) (fun op => match op with | .load _ _ => true | _ => false) (by kernel_rfl) (by kernel_rfl) hO.drew ?_
            replace hO := hO.drew
            generalize World.drew _ = wd at hO ⊢
            go_wp2_with (first
              | (((with_reducible refine gIL ?_); first | refine wpI_ldcS (fun w' hS => hS.blk 0 rfl) rfl rfl (tA rfl) rfl ?_ | refine wpI_ldcS (fun w' hS => hS.blk 1 rfl) rfl rfl (tA rfl) rfl ?_ | refine wpI_ldcS (fun w' hS => hS.blk 2 rfl) rfl rfl (tA rfl) rfl ?_ | refine wpI_ldcS (fun w' hS => hS.blk 3 rfl) rfl rfl (tA rfl) rfl ?_ | refine wpI_ldcS (fun w' hS => hS.blk 4 rfl) rfl rfl (tA rfl) rfl ?_ | refine wpI_ldcS (fun w' hS => hS.blk 5 rfl) rfl rfl (tA rfl) rfl ?_); first | (refine wpI_act (by simp only [Act.put, List.setIfInBounds_toArray, List.set_cons_succ, List.set_cons_zero]; rfl) ?_) | skip)
              | (go_at_call 15; refine (used_at hO 2 rfl).mono ?_; rintro e w1 ⟨rfl, rfl⟩)
              | ((with_reducible refine gI ?_); refine wpI_step rfl rfl (by kernel_rfl) ?_; intro K hK; have HK := Lib.hid hK; clear hK) | ((with_reducible refine gI ?_); first | refine wpI_skip rfl ?_ | refine wpI_want rfl ?_) | ((with_reducible refine gOnlyK HK.out ?_ ?_); exact hO; clear HK K; first | (refine wpI_act (by simp only [Act.put, List.setIfInBounds_toArray, List.set_cons_succ, List.set_cons_zero]; rfl) ?_) | skip) | (with_reducible refine wpI_nil ?_))
            go_roundg (N - (i + 1))
            case measure => omega
            case rel =>
              have h2 : Own wn _ ([.sl 3 1 (.slice a5 n c5) n (i64s t.p)] ++ [.blk rb (.cells (rC (.slice aP n cP) (.slice aB k cB) t.used t.span t.code) 67 (0,0)), .sl 5 1 (.slice aB k cB) k (u8s b), .sl 3 1 (.slice aP n cP) n (i64s t.p), .blk xb (.cells (rgC (.slice a5 n c5) t.span t.code t.used) 38 (0,0))]) := hO.sub (List.Sublist.cons _ (List.Sublist.cons_cons _ (List.Sublist.cons_cons _ (List.Sublist.cons_cons _ (List.Sublist.cons_cons _ (List.Sublist.cons_cons _ (List.nil_sublist _)))))))
              exact ⟨i + 1, t, a5, c5, rfl, by omega, by go_num, HTK.out, h2.perm List.perm_append_comm⟩
          · have HMAY := Lib.hid hno
            have HP := Lib.hid ha
            clear h hno ha
            go_wp2_with (first
              | ((with_reducible refine gLoad ?_); refine ld_rd (hO.rd HA.out) rfl (HX.out) (tA rfl) ?_)
              | (go_at_call 14; refine (next_short s b HS.out HB.out HM.out a HP.out HMAY.out hO).mono ?_; rintro e ww ⟨rfl, hO2⟩; clear hO; have hO := hO2; clear hO2)
              | (go_at_call 16; refine (rnext_short n HNN.out s b HS.out aQ cQ _ _ _ _ (hO.rdAt 4 rfl) (hO.rd HBR.out) HM.out a HP.out HMAY.out).mono ?_; rintro e ww ⟨rfl, hb⟩; replace hO := hO.call hb; clear hb)
              | ((with_reducible refine gAlloc ?_); refine own_alloc hO _ _ irgz ?_; clear hO; intro nx ww hO)
              | ((with_reducible refine gLoad ?_); first | refine ldX hO 0 rfl rfl (tA rfl) (tS rfl) ?_ | refine ldC hO 0 rfl rfl (tA rfl) rfl ?_ | refine ldX hO 1 rfl rfl (tA rfl) (tS rfl) ?_ | refine ldC hO 1 rfl rfl (tA rfl) rfl ?_ | refine ldX hO 2 rfl rfl (tA rfl) (tS rfl) ?_ | refine ldC hO 2 rfl rfl (tA rfl) rfl ?_ | refine ldX hO 3 rfl rfl (tA rfl) (tS rfl) ?_ | refine ldC hO 3 rfl rfl (tA rfl) rfl ?_ | refine ldX hO 4 rfl rfl (tA rfl) (tS rfl) ?_ | refine ldC hO 4 rfl rfl (tA rfl) rfl ?_)
              | ((with_reducible refine gStore ?_); first | (refine stX hO 0 rfl rfl rfl rfl rfl (tS rfl) ?_; clear hO; intro ww hO) | (refine stC hO 0 rfl rfl rfl (ltb rfl) rfl (tS rfl) ?_; clear hO; intro ww hO) | (refine stX hO 1 rfl rfl rfl rfl rfl (tS rfl) ?_; clear hO; intro ww hO) | (refine stC hO 1 rfl rfl rfl (ltb rfl) rfl (tS rfl) ?_; clear hO; intro ww hO) | (refine stX hO 2 rfl rfl rfl rfl rfl (tS rfl) ?_; clear hO; intro ww hO) | (refine stC hO 2 rfl rfl rfl (ltb rfl) rfl (tS rfl) ?_; clear hO; intro ww hO) | (refine stX hO 3 rfl rfl rfl rfl rfl (tS rfl) ?_; clear hO; intro ww hO) | (refine stC hO 3 rfl rfl rfl (ltb rfl) rfl (tS rfl) ?_; clear hO; intro ww hO) | (refine stX hO 4 rfl rfl rfl rfl rfl (tS rfl) ?_; clear hO; intro ww hO) | (refine stC hO 4 rfl rfl rfl (ltb rfl) rfl (tS rfl) ?_; clear hO; intro ww hO)))
            replace hO : Own wn _ [.blk nx (.cells (rgC (.slice aQ n cQ) s.span s.code s.used) 38 (0,0)), .blk rb (.cells (rC (.slice aP n cP) (.slice aB k cB) s.used s.span s.code) 67 (0,0)), .sl 5 1 (.slice aB k cB) k (u8s b), .sl 3 1 (.slice aP n cP) n (i64s s.p), .blk xb (.cells (rgC (.slice aQ n cQ) s.span s.code s.used) 38 (0,0)), .sl 3 1 (.slice aQ n cQ) n (i64s s.p)] := hO
            refine wp_region_textS (fun w' => Own wn w' [.blk nx (.cells (rgC (.slice aQ n cQ) s.span s.code s.used) 38 (0,0)), .blk rb (.cells (rC (.slice aP n cP) (.slice aB k cB) s.used s.span s.code) 67 (0,0)), .sl 5 1 (.slice aB k cB) k (u8s b), .sl 3 1 (.slice aP n cP) n (i64s s.p), .blk xb (.cells (rgC (.slice aQ n cQ) s.span s.code s.used) 38 (0,0)), .sl 3 1 (.slice aQ n cQ) n (i64s s.p)]) (fun op => match op with | .load _ _ => true | _ => false) (by kernel_rfl) (by kernel_rfl) hO.drew ?_
            replace hO := hO.drew
            generalize World.drew _ = wd at hO ⊢
            go_wp2_with (first
              | (((with_reducible refine gIL ?_); first | refine wpI_ldcS (fun w' hS => hS.blk 0 rfl) rfl rfl (tA rfl) rfl ?_ | refine wpI_ldcS (fun w' hS => hS.blk 1 rfl) rfl rfl (tA rfl) rfl ?_ | refine wpI_ldcS (fun w' hS => hS.blk 2 rfl) rfl rfl (tA rfl) rfl ?_ | refine wpI_ldcS (fun w' hS => hS.blk 3 rfl) rfl rfl (tA rfl) rfl ?_ | refine wpI_ldcS (fun w' hS => hS.blk 4 rfl) rfl rfl (tA rfl) rfl ?_); first | (refine wpI_act (by simp only [Act.put, List.setIfInBounds_toArray, List.set_cons_succ, List.set_cons_zero]; rfl) ?_) | skip)
              | (go_at_call 15; refine (used_at hO 1 rfl).mono ?_; rintro e w1 ⟨rfl, rfl⟩)
              | (go_at_call 14; refine (next_short s b HS.out HB.out HM.out a HP.out HMAY.out hO.tail).mono ?_; rintro e ww ⟨rfl, hO2⟩; clear hO; have hO := hO2; clear hO2)
              | ((with_reducible refine gI ?_); refine wpI_step rfl rfl (by kernel_rfl) ?_; intro K hK; have HK := Lib.hid hK; clear hK) | ((with_reducible refine gI ?_); first | refine wpI_skip rfl ?_ | refine wpI_want rfl ?_) | ((with_reducible refine gOnlyK HK.out ?_ ?_); exact hO; clear HK K; first | (refine wpI_act (by simp only [Act.put, List.setIfInBounds_toArray, List.set_cons_succ, List.set_cons_zero]; rfl) ?_) | skip) | (with_reducible refine wpI_nil ?_))
            go_roundg (N - (i + 1))
            case measure => omega
            case rel => exact ⟨i + 1, s, aQ, cQ, rfl, by omega, by go_num, HS.out, hO⟩
          · have HBAD := Lib.hid hbad
            clear h hbad
            go_wp2_with (first
              | ((with_reducible refine gLoad ?_); refine ld_rd (hO.rd HA.out) rfl (HX.out) (tA rfl) ?_)
              | (go_at_call 14; refine (next_bad p HBAD.out _ _ _ rfl hO).mono ?_; rintro e ww ⟨rfl, hO2⟩; clear hO; have hO := hO2; clear hO2)
              | (go_at_call 16; refine (rnext_bad p n HBAD.out aQ cQ _ _ _ _ _).mono ?_; rintro e ww ⟨rfl, hb⟩; replace hO := hO.call hb; clear hb)
              | ((with_reducible refine gAlloc ?_); refine own_alloc hO _ _ irgz ?_; clear hO; intro nx ww hO)
              | ((with_reducible refine gLoad ?_); first | refine ldX hO 0 rfl rfl (tA rfl) (tS rfl) ?_ | refine ldC hO 0 rfl rfl (tA rfl) rfl ?_ | refine ldX hO 1 rfl rfl (tA rfl) (tS rfl) ?_ | refine ldC hO 1 rfl rfl (tA rfl) rfl ?_ | refine ldX hO 2 rfl rfl (tA rfl) (tS rfl) ?_ | refine ldC hO 2 rfl rfl (tA rfl) rfl ?_ | refine ldX hO 3 rfl rfl (tA rfl) (tS rfl) ?_ | refine ldC hO 3 rfl rfl (tA rfl) rfl ?_ | refine ldX hO 4 rfl rfl (tA rfl) (tS rfl) ?_ | refine ldC hO 4 rfl rfl (tA rfl) rfl ?_)
              | ((with_reducible refine gStore ?_); first | (refine stX hO 0 rfl rfl rfl rfl rfl (tS rfl) ?_; clear hO; intro ww hO) | (refine stC hO 0 rfl rfl rfl (ltb rfl) rfl (tS rfl) ?_; clear hO; intro ww hO) | (refine stX hO 1 rfl rfl rfl rfl rfl (tS rfl) ?_; clear hO; intro ww hO) | (refine stC hO 1 rfl rfl rfl (ltb rfl) rfl (tS rfl) ?_; clear hO; intro ww hO) | (refine stX hO 2 rfl rfl rfl rfl rfl (tS rfl) ?_; clear hO; intro ww hO) | (refine stC hO 2 rfl rfl rfl (ltb rfl) rfl (tS rfl) ?_; clear hO; intro ww hO) | (refine stX hO 3 rfl rfl rfl rfl rfl (tS rfl) ?_; clear hO; intro ww hO) | (refine stC hO 3 rfl rfl rfl (ltb rfl) rfl (tS rfl) ?_; clear hO; intro ww hO) | (refine stX hO 4 rfl rfl rfl rfl rfl (tS rfl) ?_; clear hO; intro ww hO) | (refine stC hO 4 rfl rfl rfl (ltb rfl) rfl (tS rfl) ?_; clear hO; intro ww hO)))
            replace hO : Own wn _ [.blk nx (.cells (rgC (.slice aQ n cQ) s.span s.code s.used) 38 (0,0)), .blk rb (.cells (rC (.slice aP n cP) (.slice aB k cB) s.used s.span s.code) 67 (0,0)), .sl 5 1 (.slice aB k cB) k (u8s b), .sl 3 1 (.slice aP n cP) n (i64s s.p), .blk xb (.cells (rgC (.slice aQ n cQ) s.span s.code s.used) 38 (0,0)), .sl 3 1 (.slice aQ n cQ) n (i64s s.p)] := hO
            refine wp_region_textS (fun w' => Own wn w' [.blk nx (.cells (rgC (.slice aQ n cQ) s.span s.code s.used) 38 (0,0)), .blk rb (.cells (rC (.slice aP n cP) (.slice aB k cB) s.used s.span s.code) 67 (0,0)), .sl 5 1 (.slice aB k cB) k (u8s b), .sl 3 1 (.slice aP n cP) n (i64s s.p), .blk xb (.cells (rgC (.slice aQ n cQ) s.span s.code s.used) 38 (0,0)), .sl 3 1 (.slice aQ n cQ) n (i64s s.p)]) (fun op => match op with | .load _ _ => true | _ => false) (by kernel_rfl) (by kernel_rfl) hO.drew ?_
            replace hO := hO.drew
            generalize World.drew _ = wd at hO ⊢
            go_wp2_with (first
              | (((with_reducible refine gIL ?_); first | refine wpI_ldcS (fun w' hS => hS.blk 0 rfl) rfl rfl (tA rfl) rfl ?_ | refine wpI_ldcS (fun w' hS => hS.blk 1 rfl) rfl rfl (tA rfl) rfl ?_ | refine wpI_ldcS (fun w' hS => hS.blk 2 rfl) rfl rfl (tA rfl) rfl ?_ | refine wpI_ldcS (fun w' hS => hS.blk 3 rfl) rfl rfl (tA rfl) rfl ?_ | refine wpI_ldcS (fun w' hS => hS.blk 4 rfl) rfl rfl (tA rfl) rfl ?_); first | (refine wpI_act (by simp only [Act.put, List.setIfInBounds_toArray, List.set_cons_succ, List.set_cons_zero]; rfl) ?_) | skip)
              | (go_at_call 15; refine (used_at hO 1 rfl).mono ?_; rintro e w1 ⟨rfl, rfl⟩)
              | (go_at_call 14; refine (next_bad p HBAD.out _ _ _ rfl hO.tail).mono ?_; rintro e ww ⟨rfl, hO2⟩; clear hO; have hO := hO2; clear hO2)
              | ((with_reducible refine gI ?_); refine wpI_step rfl rfl (by kernel_rfl) ?_; intro K hK; have HK := Lib.hid hK; clear hK) | ((with_reducible refine gI ?_); first | refine wpI_skip rfl ?_ | refine wpI_want rfl ?_) | ((with_reducible refine gOnlyK HK.out ?_ ?_); exact hO; clear HK K; first | (refine wpI_act (by simp only [Act.put, List.setIfInBounds_toArray, List.set_cons_succ, List.set_cons_zero]; rfl) ?_) | skip) | (with_reducible refine wpI_nil ?_))
            go_roundg (N - (i + 1))
            case measure => omega
            case rel => exact ⟨i + 1, s, aQ, cQ, rfl, by omega, by go_num, HS.out, hO⟩
        · obtain rfl : i = N := by omega
          go_wp2
          go_ret
          exact ⟨rfl, hO.below⟩
end Go.Proofs.Ytmfeknamdjjbhaa
