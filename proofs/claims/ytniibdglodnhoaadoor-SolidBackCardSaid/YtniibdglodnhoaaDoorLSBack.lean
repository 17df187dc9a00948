/- The law SolidBack. -/
import Derived.Test.YtniibdglodnhoaaDoorU6
namespace Go.Proofs.YtniibdglodnhoaaDoor
open Go.RowKit Go.Own Go.Bv Go.Ord Go.Eq Go.Opn Go.Pb Go.Sl

section
variable {P : Program} {ops : Array Oper} {Q : Exit → Act → World → Prop} {a : Act} {w : World} {rest : List Oper}
variable {d : Option Tmp} {ty : TypeId} {pos : String} {aft : Array Edge}
theorem ld_pcJ {T : TypeId} {x : Operand} {b off j n cap : Nat} {l : List Pc} {t : Pc} {k : Nat} (hR : Rd w 3 (some ⟨b, off, none⟩) n cap (pcs l)) (ht : l[k]? = some t) (hx : a.eval x = .pointer (some ⟨b, j, none⟩)) (hj : j = off + k * 3)
    (hT : aggT P T = some true) (hs : (P.info? T).map (·.size) = some 3) (h : wpList P ops Q rest (a.put d (.agg t.C)) w) :
    wpList P ops Q ({ dst := d, op := .load T x, type := ty, pos := pos, after := aft, guard := none } :: rest) a w := by
  subst hj
  exact ld_pc hR ht hx hT hs h
end
set_option maxHeartbeats 8000000 in
set_option maxRecDepth 100000 in
theorem sback_walk (key : St) (n : BitVec 64) (a : Option Addr) (len cap : Nat) (ss : List Tb) (w : World) (hR : Txs w a len cap ss) (hT : Turns w) :
    Calls Tryd.prog 4 #[.agg (ringC key n), .slice a len cap] w fun e w' => e = .returned (.bool true) ∧ Below w.heap.size w w' := by
  have hO := Own.start w
  have HR := Lib.hid hR
  have HT := Lib.hid hT
  obtain ⟨B, hB⟩ : ∃ B, decide ((∀ x ∈ ss, x.n ≤ 60) ∧ len ≤ 8) = B := ⟨_, rfl⟩
  have G0 := Lib.hid (fun w h => few_calls a len cap ss w h B hB)
  cases B
  · clear hR hT hB
    generalize hW : w = wn at hO HT HR ⊢
    clear hW w
    go_enter Tryd.func4, Tryd.ntmps4
    go_wp2_with (first
      | ((with_reducible refine gBox ?_); first | (refine bxA hO rfl ?_; clear hO; intro br ww hO) | (refine bx1 hO rfl rfl ?_; clear hO; intro br ww hO))
      | (go_at_call 6; refine (slive_calls _ (HT.out.own hO)).mono ?_; rintro e ww ⟨rfl, hb⟩; replace hO := hO.call hb; clear hb)
      | (go_at_call 11; refine (G0.out _ (HR.out.own hO)).mono ?_; rintro e ww ⟨rfl, hb⟩; replace hO := hO.call hb; clear hb))
    go_ret
    exact ⟨rfl, hO.below⟩
  obtain ⟨h60, hlen⟩ := of_decide_eq_true hB
  have n0 := nn n
  have nL := n.isLt
  by_cases hn : n = 18446744073709551615#64
  · have G1 := Lib.hid (fun w h hT => build_full key n a len cap ss w h hlen h60 hn hT)
    have d1 : (n.toNat : Int) = 18446744073709551615 := by rw [hn]; rfl
    have d1' : ((n.toNat : Int) == 18446744073709551615) = true := by rw [d1]; rfl
    have D1 := Lib.hid d1
    clear hR hT hB hn h60 hlen d1
    generalize hW : w = wn at hO HT HR ⊢
    clear hW w
    go_enter Tryd.func4, Tryd.ntmps4
    go_wp2_with (first
      | ((with_reducible refine gG ?_); refine wpList_want rfl ?_)
      | ((with_reducible refine gBox ?_); first | (refine bxA hO rfl ?_; clear hO; intro br ww hO) | (refine bx1 hO rfl rfl ?_; clear hO; intro br ww hO))
      | ((with_reducible refine gAlloc (T := 27) ?_); refine own_alloc hO _ _ irz ?_; clear hO; intro bn ww hO)
      | ((with_reducible refine gLoad (d := some 23) ?_); refine ldX hO 0 rfl rfl (tA rfl) (tS rfl) ?_)
      | ((with_reducible refine gLoad (d := some 39) ?_); refine ldC hO 1 rfl rfl (tA rfl) rfl ?_)
      | ((with_reducible refine gStore (T := 27) ?_); refine stX hO 0 rfl rfl rfl rfl rfl (tS rfl) ?_; clear hO; intro ww hO)
      | (go_at_call 6; refine (slive_calls _ (HT.out.own hO)).mono ?_; rintro e ww ⟨rfl, hb⟩; replace hO := hO.call hb; clear hb)
      | (go_at_call 11; refine (G0.out _ (HR.out.own hO)).mono ?_; rintro e ww ⟨rfl, hb⟩; replace hO := hO.call hb; clear hb)
      | (go_at_call 8; refine (G1.out _ (HR.out.own hO) (HT.out.own hO)).mono ?_; rintro e ww ⟨rfl, hb⟩; replace hO := hO.call hb; clear hb))
    go_ret
    exact ⟨rfl, hO.below⟩
  have hsl := hR.len
  have htl : (txs ss).length = len := by rw [txs_length, hsl]
  obtain ⟨X, hX⟩ : ∃ X, (txs ss).flatten = X := ⟨_, rfl⟩
  obtain ⟨N, hN⟩ : ∃ N, X.length = N := ⟨_, rfl⟩
  have hb : ∀ b ∈ txs ss, b.length ≤ 60 := fun b hbm => by
    unfold txs at hbm
    obtain ⟨x, hx, rfl⟩ := List.mem_map.1 hbm
    have h1 := (hR.2 x hx).len
    rw [u8s_length] at h1
    have := h60 x hx
    omega
  have hN480 : N ≤ 480 := by
    have h := flat_bound 60 (txs ss) hb
    rw [hX, hN, htl] at h
    have : 60 * len ≤ 480 := by omega
    omega
  obtain ⟨T, hTT⟩ : ∃ T, sealT key n X = T := ⟨_, rfl⟩
  obtain ⟨M, hM⟩ : ∃ M, T.length = M := ⟨_, rfl⟩
  obtain ⟨s1, s2⟩ := so_seal key n X (by omega)
  rw [hTT] at s1 s2
  obtain ⟨pl, hpl⟩ : ∃ pl, pieces (txs ss) = pl := ⟨_, rfl⟩
  have hpll : pl.length = len := by rw [← hpl, pieces_length, htl]
  have G1 := Lib.hid (fun w h hT => build_ok key n a len cap ss w h hlen h60 hn hT X hX T hTT M hM)
  rw [hpl] at G1
  have G2 := Lib.hid (fun w a c h hT => sopen_calls key a M c T w h hT 0 X N s1 s2 hN)
  have G3 := Lib.hid (fun w a c a2 m c2 h hL hT => test_calls key a M c T a2 m c2 pl w h hL hT 0 (by unfold teE; rw [s1, s2]; simp only [ne_eq, not_true_eq_false, if_false]; rw [← hX, ← hpl]; exact test_pieces _))
  have G4 := Lib.hid (fun (k : Nat) (hk : k < ss.length) (a : Option Addr) (c : Nat) w h => cut_calls a N c X (pieceAt (txs ss) k) w h (by omega) 0 ss[k].b ss[k].n (by rw [← hX]; exact (cut_piece _ k (by rw [txs_length]; exact hk)).1) (by rw [← hX, (cut_piece _ k (by rw [txs_length]; exact hk)).2, txs_get ss k hk]) (hR.at hk).2.2)
  have HPG : Hid (∀ k (hk : k < ss.length), pl[k]? = some (pieceAt (txs ss) k)) := by
    intro k hk
    have : k < pl.length := by rw [hpll, ← hsl]; exact hk
    rw [List.getElem?_eq_getElem this]
    subst hpl
    rw [pieces_get]
  have HPC : Hid (∀ k (hk : k < ss.length), pieceAt (txs ss) k = ⟨((upTo ss k).length : Int), (ss[k].b.length : Int), Crc.sum ss[k].b⟩) := by
    intro k hk
    have e : (txs ss).getD k [] = ss[k].b := by
      rw [List.getD_eq_getElem?_getD, List.getElem?_eq_getElem (by rw [txs_length]; exact hk), txs_get ss k hk]; rfl
    unfold pieceAt upTo
    rw [e]
  have HSL := Lib.hid hsl
  have hall : upTo ss len = X := by rw [← hsl, upTo_all, hX]
  have hle : ∀ k, (upTo ss k).length ≤ N := fun k => by rw [← hN, ← hX]; exact upTo_le ss k
  have HLE := Lib.hid hle
  have HALL := Lib.hid hall
  have HNN := Lib.hid hN
  have HTL := Lib.hid htl
  have hnn1 := up1_ne n hn
  have hnu : n.toNat ≠ 18446744073709551615 := fun h => hn (BitVec.eq_of_toNat_eq h)
  obtain ⟨n1, hn1⟩ : ∃ n1, n + 1#64 = n1 := ⟨_, rfl⟩
  rw [hn1] at G1 hnn1
  have e1 : IntKind.u64.wrap ((n.toNat : Int) + 1) = (n1.toNat : Int) := by rw [wrap_u64', hnn1]; omega
  have HNE : Hid (∀ w, (binOp .neq 24 (.agg key.C) (.agg key.C)).run Tryd.prog w = .ok (.bool false) w) := fun w => by rw [neW, decide_eq_true rfl]; rfl
  clear hR hT hB hsl htl hN hb hX hTT hM hn hn1 h60 s1 s2 hpl hpll hall hle hnn1 hnu
  generalize hW : w = wn at hO HT HR ⊢
  clear hW w
  go_enter Tryd.func4, Tryd.ntmps4
  go_wp2_with (first
    | ((with_reducible refine gG ?_); refine wpList_want rfl ?_)
    | ((with_reducible refine gBox ?_); first | (refine bxA hO rfl ?_; clear hO; intro br ww hO) | (refine bx1 hO rfl rfl ?_; clear hO; intro br ww hO))
    | ((with_reducible refine gAlloc (T := 27) ?_); refine own_alloc hO _ _ irz ?_; clear hO; intro bn ww hO)
    | ((with_reducible refine gLoad (d := some 23) ?_); refine ldX hO 0 rfl rfl (tA rfl) (tS rfl) ?_)
    | ((with_reducible refine gLoad (d := some 44) ?_); refine ldA hO 3 key.C rfl rfl (tA rfl) (tS rfl) rfl ?_)
    | ((with_reducible refine gLoad (d := some 60) ?_); refine ldC hO 1 rfl rfl (tA rfl) rfl ?_)
    | ((with_reducible refine gLoad (d := some 62) ?_); refine ldC hO 4 rfl rfl (tA rfl) rfl ?_)
    | ((with_reducible refine gLoad (d := some 68) ?_); refine ldA hO 1 key.C rfl rfl (tA rfl) (tS rfl) rfl ?_)
    | ((with_reducible refine gLoad (d := some 70) ?_); refine ldA hO 4 key.C rfl rfl (tA rfl) (tS rfl) rfl ?_)
    | ((with_reducible refine gLoad (d := some 75) ?_); refine ldA hO 4 key.C rfl rfl (tA rfl) (tS rfl) rfl ?_)
    | ((with_reducible refine gNeq (t := 24) ?_); refine neD v_egW rfl rfl ?_; (with_reducible refine ⟨_, HNE.out, ?_⟩))
    | ((with_reducible refine gStore (T := 27) ?_); refine stX hO 0 rfl rfl rfl rfl rfl (tS rfl) ?_; clear hO; intro ww hO)
    | (go_at_call 6; refine (slive_calls _ (HT.out.own hO)).mono ?_; rintro e ww ⟨rfl, hb⟩; replace hO := hO.call hb; clear hb)
    | (go_at_call 11; refine (G0.out _ (HR.out.own hO)).mono ?_; rintro e ww ⟨rfl, hb⟩; replace hO := hO.call hb; clear hb)
    | (go_at_call 8; refine (G1.out _ (HR.out.own hO) (HT.out.own hO)).mono ?_; rintro e ww ⟨a1, c1, g2, rfl, hK⟩; replace hO := hO.join hK; clear hK)
    | (go_at_call 10; refine (G2.out _ _ _ (hO.rdAt 2 rfl) (HT.out.own hO)).mono ?_; rintro e ww ⟨a3, c3, rfl, hb, hr⟩; replace hO := hO.addRow hb hr; clear hb hr)
    | (go_at_call 12; refine (G3.out _ _ _ _ _ _ (hO.rdAt 3 rfl) (hO.rdAt 2 rfl) (HT.out.own hO)).mono ?_; rintro e ww ⟨rfl, hb⟩; replace hO := hO.call hb; clear hb))
  replace hO : Own wn _ [.sl 5 1 (.slice a3 N c3) N (u8s X), .blk bn (.cells (ringC key n1) 27 (0,0)), .sl 39 3 (.slice (some ⟨g2, 0, none⟩) len len) len (pcs pl), .sl 5 1 (.slice a1 M c1) M (u8s T), .blk br (.cells (ringC key n) 27 (0,0))] := hO
  clear e1 HNE n0 nL G0 G1 G2 G3
  go_loopg [12, 83] len (fun q s12 c wr => ∃ k K : Nat, q = len - k ∧ k ≤ len ∧ c = .int .i64 k ∧ s12 = .int .i64 (K : Int) ∧ Hid ((upTo ss k).length = K) ∧ Own wn wr [.sl 5 1 (.slice a3 N c3) N (u8s X), .blk bn (.cells (ringC key n1) 27 (0,0)), .sl 39 3 (.slice (some ⟨g2, 0, none⟩) len len) len (pcs pl), .sl 5 1 (.slice a1 M c1) M (u8s T), .blk br (.cells (ringC key n) 27 (0,0))])
  case atStart => exact ⟨0, 0, rfl, by omega, rfl, rfl, by show _ = _; rw [upTo_zero]; rfl, hO⟩
  case round =>
    obtain ⟨k, K, rfl, hk, rfl, rfl, HK, hO1⟩ := hrel
    clear hO
    have hO := hO1
    clear hO1
    by_cases hlt : k < len
    · have d0 : decide ((k : Int) < (len : Int)) = true := decide_eq_true (by omega)
      have hkl : k < ss.length := by rw [HSL.out]; exact hlt
      obtain ⟨q1, q2, q3⟩ := HR.out.at hkl
      have hnx := upTo_next ss k hkl
      have hle1 := HLE.out (k + 1)
      have hlk : (upTo ss (k + 1)).length = K + ss[k].n := by rw [hnx, List.length_append, HK.out, q3]
      rw [hlk] at hle1
      have hpc := HPC.out k hkl
      have hpg := HPG.out k hkl
      have hcut := fun a c w h => G4.out k hkl a c w h
      rw [hpc, HK.out, q3] at hpg hcut
      generalize ss[k] = t at *
      obtain ⟨ta, tn, tc, tb⟩ := t
      dsimp only at q1 q2 q3 hlk hle1 hpg hcut
      obtain ⟨ba, off, rfl⟩ := HR.out.1.place (by omega)
      generalize Crc.sum tb = su at *
      have HF0 : Hid (∀ j, j = k * 3 → (pcs pl)[j]? = some (.int .i64 (K : Int))) := fun j hj => by
        obtain ⟨hkk, he⟩ := List.getElem?_eq_some_iff.1 hpg
        have := pcs_get pl k hkk 0 (.int .i64 (K : Int)) (by rw [he]; rfl)
        rw [hj]; exact this
      have HF1 : Hid (∀ j, j = k * 3 + 1 → (pcs pl)[j]? = some (.int .i64 (tn : Int))) := fun j hj => by
        obtain ⟨hkk, he⟩ := List.getElem?_eq_some_iff.1 hpg
        have := pcs_get pl k hkk 1 (.int .i64 (tn : Int)) (by rw [he]; rfl)
        rw [hj]; exact this
      have HX := Lib.hid q1
      have HQ := Lib.hid q2
      have HLK := Lib.hid hlk
      have HPP := Lib.hid hpg
      have HCUT := Lib.hid hcut
      have ez : wrap64 ((K : Int) + (tn : Int)) = (K : Int) + (tn : Int) := by unfold wrap64; omega
      clear q1 q2 q3 hnx hlk hkl hpc hpg hcut
      go_wp2_with (first
        | ((with_reducible refine gG ?_); refine wpList_want rfl ?_)
        | ((with_reducible refine gLoad (d := some 87) ?_); refine ld_rd (hO.rd HR.out.1) rfl HX.out (tA rfl) ?_)
        | ((with_reducible refine gLoad (d := some 93) ?_); refine ld_pcJ (hO.rdAt 2 rfl) HPP.out rfl (by omega) (tA rfl) ipc ?_)
        | ((with_reducible refine gLoad (d := some 110) ?_); refine ld_sl hO 3 rfl rfl (HF0.out _ (by omega)) (tA rfl) ?_)
        | ((with_reducible refine gLoad (d := some 119) ?_); refine ld_sl hO 3 rfl rfl (HF1.out _ (by omega)) (tA rfl) ?_)
        | (go_at_call 13; refine (HCUT.out _ _ _ (hO.rdAt 0 rfl)).mono ?_; rintro e ww ⟨a5, c5, rfl, hb, hr⟩; replace hO := hO.addRow hb hr; clear hb hr)
        | (go_at_call 9; refine (sames_refl _ _ _ _ _ tb _ (hO.rd HQ.out) (hO.rdAt 0 rfl)).mono ?_; rintro e ww ⟨rfl, rfl⟩))
      go_roundg (len - (k + 1))
      case measure => omega
      case rel => exact ⟨k + 1, K + tn, rfl, by omega, by go_num, by go_num, HLK.out, hO.tail⟩
    · obtain rfl : k = len := by omega
      have d0 : decide ((k : Int) < (k : Int)) = false := decide_eq_false (by omega)
      have hKN : K = N := by have := HK.out; rw [HALL.out, HNN.out] at this; exact this.symm
      subst hKN
      go_wp2_with (first
        | ((with_reducible refine gG ?_); refine wpList_want rfl ?_))
      go_ret
      exact ⟨by simp, hO.below⟩
end Go.Proofs.YtniibdglodnhoaaDoor
