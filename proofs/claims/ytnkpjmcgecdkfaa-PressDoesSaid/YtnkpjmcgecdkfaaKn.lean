/- Walk: coder.Encode. -/
import Derived.Test.YtnkpjmcgecdkfaaKx
namespace Go.Kc
open Go.Pb
def prs (l : List Bt) : List (Nat × Bool) := l.map fun x => (x.at_.toNat, x.b)
theorem prs_length (l : List Bt) : (prs l).length = l.length := by simp [prs]
theorem prs_take (l : List Bt) (k : Nat) : prs (l.take k) = (prs l).take k := by unfold prs; rw [List.map_take]
theorem prs_next {l : List Bt} {k : Nat} (hk : k < l.length) : prs (l.take (k + 1)) = prs (l.take k) ++ [(l[k].at_.toNat, l[k].b)] := by
  unfold prs
  rw [List.take_succ_eq_append_getElem hk, List.map_append]; rfl
theorem ws_snoc (s : Ws) (l : List (Nat × Bool)) (x : Nat × Bool) : s.run (l ++ [x]) = (s.run l).step x.1 x.2 := by simp [Ws.run]
theorem holds_one {n : Nat} {l : List (Nat × Bool)} (hw : within n l) : Holds ((Ws.start n).run l) (enc n l).V (enc n l).k 1 := by
  have hw' : within (start n).p.length l := by rw [start_len]; exact hw
  have hsim := sim_run (sim_start n) (start_good n) hw'
  obtain ⟨f1, f2, f3, _⟩ := run_facts (start_good n) hw'
  obtain ⟨h1, h2, h3, h4, h5, h6⟩ := hsim.holds
  have hlo := f1.lo
  refine ⟨h1, h2, h3, h4, ?_, ?_⟩
  · exact Nat.le_trans (Nat.add_le_add_left (by omega) _) h5
  · omega
theorem within_take {n : Nat} {l : List (Nat × Bool)} (h : within n l) (k : Nat) : within n (l.take k) := fun x hx => h x (List.mem_of_mem_take hx)
/-- what the walk wants of each beginning -/
theorem run_all {n : Nat} {l : List (Nat × Bool)} (h : within n l) (hl : l.length ≤ 1048576) : Sim ((Ws.start n).run l) (enc n l) ∧ (enc n l).Good ∧ (enc n l).p.length = n ∧ ((Ws.start n).run l).p.length = n ∧ (enc n l).k ≤ 1000000 := by
  have hw' : within (start n).p.length l := by rw [start_len]; exact h
  have hsim := sim_run (sim_start n) (start_good n) hw'
  obtain ⟨f1, f2, f3, f4⟩ := enc_facts h
  refine ⟨hsim, f1, f3, ?_, by omega⟩
  rw [hsim.p]; exact f3
theorem mv_facts {n : Nat} {l : List (Nat × Bool)} (h : within n l) (hl : l.length ≤ 1048576) (j : Nat) (hj : j < 5) {t : Ws} (ht : Ws.moves j ((Ws.start n).run l) = t) : t.low < 8589934592 ∧ t.kept < 256 ∧ 1 ≤ t.many ∧ t.out.length + t.many ≤ 10000000 := by
  subst ht
  have hh := moves_holds (holds_one h) j
  obtain ⟨_, _, _, f4⟩ := enc_facts h
  have h1 := hh.low
  have h2 := hh.len
  exact ⟨by omega, hh.kept, hh.many, by omega⟩
end Go.Kc
namespace Go.Proofs.Ytnkpjmcgecdkfaa
open Go.RowKit Go.Own Go.Bv Go.Ord Go.Eq Go.Opn Go.Pb

theorem within_ok {n : Nat} {l : List Bt} (h : l.all (okI (n : Int)) = true) : Go.Kc.within n (Go.Kc.prs l) := by
  intro x hx
  unfold Go.Kc.prs at hx
  obtain ⟨y, hy, rfl⟩ := List.mem_map.1 hx
  have := List.all_eq_true.1 h y hy
  simp only [okI, Bool.and_eq_true, decide_eq_true_eq] at this
  dsimp only
  omega

set_option maxHeartbeats 4000000 in
set_option maxRecDepth 100000 in
theorem encode_ok (n : Nat) (hn : n ≤ 1024) (a : Option Addr) (m cap : Nat) (l : List Bt) (w : World) (hR : Rd w 2 a m cap (bts l)) (hm : m ≤ 1048576) (hl : l.all (okI (n : Int)) = true) (M : Nat) (T : List (BitVec 8)) (hT : Go.Kc.encT n (Go.Kc.prs l) = T) (hM : T.length = M) :
    Calls Try.prog 24 #[.int .i64 (n : Int), .slice a m cap] w fun e w' => ∃ a' c', e = .returned (.tuple #[.slice a' M c', .int .i64 0]) ∧ Below w.heap.size w w' ∧ w'.ownsRow w.heap.size 5 1 (.slice a' M c') M (u8s T) := by
  have hO := Own.start w
  have hlen : l.length = m := by have := hR.len; rw [bts_length] at this; omega
  have hnT : newT (n : Int) = List.replicate n 1024 := by unfold newT; rw [if_pos (by omega), Int.toNat_natCast]
  have hnE : newE (n : Int) = 0 := by unfold newE; rw [if_pos (by omega)]
  have HNEW := Lib.hid (fun w => new_calls (n : Int) w n (List.replicate n 1024) 0 (by rw [hnT, List.length_replicate]) hnT hnE)
  have hw := within_ok hl
  have HW := Lib.hid hw
  have HALL := Lib.hid hl
  have HLN := Lib.hid hlen
  have hT5 := Go.Kc.writes hw
  rw [hT] at hT5
  have HT5 := Lib.hid hT5
  have HTM := Lib.hid hM
  have HR := Lib.hid hR
  have hmx : ((1048576 : Int) < (m : Int)) = False := eq_false (by omega)
  have dmx : decide ((1048576 : Int) < (m : Int)) = false := decide_eq_false (by omega)
  clear hR hlen hnT hnE hw hl hT hM hT5 hmx
  generalize hWW : w = wn at hO HR ⊢
  clear hWW w
  go_enter Try.func24, Try.ntmps24
  go_wp2_with (first
    | ((with_reducible refine gBox ?_); first | (refine bxA hO rfl ?_; clear hO; intro xb ww hO) | (refine bx1 hO rfl rfl ?_; clear hO; intro xb ww hO))
    | ((with_reducible refine gLoad ?_); first | refine ldX hO 0 rfl rfl (tA rfl) (tS rfl) ?_ | refine ldC hO 0 rfl rfl (tA rfl) rfl ?_)
    | (go_at_call 38; refine (HNEW.out _).mono ?_; rintro e ww ⟨a1, c1, rfl, hb, hr⟩; replace hO := hO.addRow hb hr; clear hb hr)
    | (go_at_call 40; refine (containsb_calls _ _ _ l (n : Int) xb _ (hO.rd HR.out) (hO.rd1 1 rfl)).mono ?_; rw [HALL.out]; rintro e ww ⟨rfl, hb⟩; replace hO := hO.call hb; clear hb)
    | ((with_reducible refine gBld (T := 80) ?_); refine own_bld (wC (.slice a1 n c1) 0 4294967295 0 1 (.slice none 0 0)) (by kernel_rfl) ?_))
  have hO2 : Own wn _ [.blk xb (.cells (wC (.slice a1 n c1) 0 4294967295 0 1 (.slice none 0 0)) 80 (0,0)), .sl 5 1 (.slice none 0 0) 0 [], .sl 3 1 (.slice a1 n c1) n (i64s (List.replicate n 1024))] := (hO.take2.addRow (Below.refl _ _) (World.ownsRow_nil _ _ _ _)).swap
  clear hO
  have hO := hO2
  clear hO2
  go_loopg [36] m (fun r c wr => ∃ (k : Nat) (s : Go.Kc.Ws) (aO : Option Addr) (cO : Nat), r = m - k ∧ k ≤ m ∧ c = .int .i64 k ∧ Hid ((Go.Kc.Ws.start n).run (Go.Kc.prs (l.take k)) = s) ∧
    Own wn wr [.blk xb (.cells (wC (.slice a1 n c1) s.low s.span s.kept s.many (.slice aO s.out.length cO)) 80 (0,0)), .sl 5 1 (.slice aO s.out.length cO) s.out.length (u8s s.out), .sl 3 1 (.slice a1 n c1) n (i64s s.p)])
  case atStart => exact ⟨0, Go.Kc.Ws.start n, none, 0, rfl, by omega, rfl, rfl, hO⟩
  case round =>
    obtain ⟨k, s, aO, cO, rfl, hk, rfl, HS, hO1⟩ := hrel
    clear hO
    have hO := hO1
    clear hO1
    by_cases hlt : k < m
    · have hb0 : decide ((k : Int) < (m : Int)) = true := by simp; omega
      have hkl : k < l.length := by rw [HLN.out]; exact hlt
      obtain ⟨ba, off, rfl⟩ := HR.out.place (by omega)
      have hx := List.getElem?_eq_getElem hkl
      have hok := List.all_eq_true.1 HALL.out _ (List.getElem_mem hkl)
      have hnx := Go.Kc.prs_next hkl
      generalize l[k] = x at hx hok hnx
      obtain ⟨pos, b⟩ := x
      simp only [okI, Bool.and_eq_true, decide_eq_true_eq] at hok
      obtain ⟨p, rfl⟩ : ∃ p : Nat, pos = (p : Int) := ⟨pos.toNat, by omega⟩
      have hpn : p < n := by omega
      have hra := Go.Kc.run_all (n := n) (l := Go.Kc.prs (l.take k)) (by rw [Go.Kc.prs_take]; exact Go.Kc.within_take HW.out k) (by rw [Go.Kc.prs_length, List.length_take]; omega)
      rw [HS.out] at hra
      have hst : (Go.Kc.Ws.start n).run (Go.Kc.prs (l.take (k + 1))) = s.step p b := by
        rw [hnx, Go.Kc.ws_snoc, HS.out, Int.toNat_natCast]
      obtain ⟨t, ht⟩ : ∃ t, s.step p b = t := ⟨_, rfl⟩
      rw [ht] at hst
      have HX := Lib.hid hx
      have HRA := Lib.hid hra
      have HST := Lib.hid hst
      have HTT := Lib.hid ht
      have HPN := Lib.hid hpn
      clear hx hok hnx hra hst ht hpn
      go_wp2_with (first
        | ((with_reducible refine gAlloc (T := 32) ?_); refine own_alloc hO _ _ ibtz ?_; clear hO; intro bx ww hO)
        | ((with_reducible refine gLoad (T := 32) ?_); refine ld_bt (hO.rd HR.out) HX.out rfl (by omega) (tA rfl) (tS rfl) ?_)
        | ((with_reducible refine gLoad ?_); first | refine ldX hO 0 rfl rfl (tA rfl) (tS rfl) ?_ | refine ldC hO 0 rfl rfl (tA rfl) rfl ?_)
        | ((with_reducible refine gStore ?_); first | (refine stX hO 0 rfl rfl rfl rfl rfl (tS rfl) ?_; clear hO; intro ww hO) | (refine stC hO 0 rfl rfl rfl (ltb rfl) rfl (tS rfl) ?_; clear hO; intro ww hO))
        | (go_at_call 41; refine (put_calls s _ HRA.out.1 HRA.out.2.1 p b (by rw [HRA.out.2.2.1]; exact HPN.out) HRA.out.2.2.2.2 HRA.out.2.2.2.1.symm t HTT.out hO.tail).mono ?_; rintro e ww ⟨a2, c2, rfl, hO2⟩; clear hO; have hO := hO2; clear hO2))
      go_roundg (m - (k + 1))
      case measure => omega
      case rel => exact ⟨k + 1, t, a2, c2, rfl, by omega, by go_num, HST, hO⟩
    · obtain rfl : k = m := by omega
      have HS2 : Hid ((Go.Kc.Ws.start n).run (Go.Kc.prs l) = s) := by
        have h := HS.out
        rw [List.take_of_length_le (by rw [HLN.out]; omega)] at h
        exact h
      clear HS
      have hmv : ∀ j, j < 5 → ∀ t, Go.Kc.Ws.moves j s = t → t.low < 8589934592 ∧ t.kept < 256 ∧ 1 ≤ t.many ∧ t.out.length + t.many ≤ 10000000 := fun j hj t ht =>
        Go.Kc.mv_facts HW.out (by rw [Go.Kc.prs_length, HLN.out]; exact hm) j hj (by rw [HS2.out]; exact ht)
      have HMV := Lib.hid hmv
      rw [HS2.out] at HT5
      clear hmv HS2
      go_wp2
      go_loopg [47] 5 (fun r c wr => ∃ (j : Nat) (t : Go.Kc.Ws) (aO : Option Addr) (cO : Nat), r = 5 - j ∧ j ≤ 5 ∧ c = .int .i64 j ∧ Hid (Go.Kc.Ws.moves j s = t) ∧
        Own wn wr [.blk xb (.cells (wC (.slice a1 n c1) t.low t.span t.kept t.many (.slice aO t.out.length cO)) 80 (0,0)), .sl 5 1 (.slice aO t.out.length cO) t.out.length (u8s t.out), .sl 3 1 (.slice a1 n c1) n (i64s s.p)])
      case atStart => exact ⟨0, s, aO, cO, rfl, by omega, rfl, rfl, hO⟩
      case round =>
        obtain ⟨j, t, aO, cO, rfl, hj, rfl, HJ, hO1⟩ := hrel
        clear hO
        have hO := hO1
        clear hO1
        by_cases hj5 : j < 5
        · have hb0 : decide ((j : Int) < 5) = true := decide_eq_true (by omega)
          have hf := HMV.out j hj5 t HJ.out
          have HF := Lib.hid hf
          have HN2 : Hid (Go.Kc.Ws.moves (j + 1) s = t.move) := by
            show Go.Kc.Ws.move _ = _
            rw [HJ.out]
          have HSP : Hid (t.move.span = t.span) := by show _ = _; unfold Go.Kc.Ws.move; split <;> rfl
          clear hf
          go_wp2_with (first
            | (go_at_call 42; refine (move_calls rfl t hO HF.out.1 HF.out.2.1 HF.out.2.2.1 rfl HF.out.2.2.2).mono ?_; rintro e ww ⟨a2, c2, rfl, hO2⟩; clear hO; have hO := hO2; clear hO2))
          go_roundg (5 - (j + 1))
          case measure => omega
          case rel => exact ⟨j + 1, t.move, a2, c2, rfl, by omega, by go_num, HN2, by rw [HSP.out]; exact hO⟩
        · obtain rfl : j = 5 := by omega
          have HTT : Hid (t.out = T) := by show _ = _; rw [← HT5.out, HJ.out]
          rw [HTT.out, HTM.out] at hO
          go_wp2_with (first
            | ((with_reducible refine gLoad ?_); first | refine ldX hO 0 rfl rfl (tA rfl) (tS rfl) ?_ | refine ldC hO 0 rfl rfl (tA rfl) rfl ?_))
          go_ret2
          exact ⟨aO, cO, rfl, hO.below, hO.row 1 rfl⟩
end Go.Proofs.Ytnkpjmcgecdkfaa
