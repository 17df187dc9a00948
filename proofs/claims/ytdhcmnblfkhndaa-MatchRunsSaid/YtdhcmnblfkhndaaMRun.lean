/- The walk of MatchRuns. -/
import Derived.Test.YtdhcmnblfkhndaaMs
import Derived.Test.YtdhcmnblfkhndaaMr
namespace Go.Proofs.Ytdhcmnblfkhndaa
open Go.RowKit Go.Own Go.Bv Go.Ord Go.Eq Go.Mt

set_option maxHeartbeats 4000000 in
set_option maxRecDepth 100000 in
theorem runs_in (c : BitVec 8) (n : Nat) (h1 : 1 ≤ n) (h3 : n ≤ 300) (w : World) :
    Calls Try.prog 3 #[.int .u8 (c.toNat : Int), .int .i64 (n : Int)] w fun e w' => e = .returned (.bool true) ∧ Below w.heap.size w w' := by
  have hO := Own.start w
  have d1 : decide ((n : Int) < 1) = false := by simp; omega
  have d1' : decide (n < 1) = false := by simp; omega
  have d2 : decide ((300 : Int) < (n : Int)) = false := by simp; omega
  have HS0 := Lib.hid (tokens_step (bs := List.replicate n c) (p := 0) (L := []) (List.length_replicate) (by omega) (by unfold tokens; rw [List.length_replicate]; rfl))
  rw [tokAt_rep0 n c (by omega)] at HS0
  have HST : Hid (∀ p L, p < n → tokens (List.replicate n c) = L ++ toksFrom (List.replicate n c) n p → tokens (List.replicate n c) = (L ++ [tokAt (List.replicate n c) p]) ++ toksFrom (List.replicate n c) n (p + (tokAt (List.replicate n c) p).size)) :=
    fun p L hp h => tokens_step List.length_replicate hp h
  have HTA : Hid (∀ p, p < n → 0 < p → tokAt (List.replicate n c) p = if 3 ≤ min (n - p) 18 then ⟨0, (min (n - p) 18 : Nat), 1⟩ else ⟨c, 0, 0⟩) := fun p h h' => tokAt_rep n c p h h'
  have HEN : Hid (∀ L, tokens (List.replicate n c) = L ++ toksFrom (List.replicate n c) n n → tokens (List.replicate n c) = L) := fun L h => by rw [h, toksFrom_stop (by rw [List.length_replicate]; exact Nat.le_refl _), List.append_nil]
  have HRG : Hid (∀ k, k < n → (u8s (List.replicate n c))[k]? = some (.int .u8 (c.toNat : Int))) := fun k hk => by
    rw [u8s_get _ k (by rw [List.length_replicate]; exact hk), List.getElem_replicate]
  have HLN : Hid ((u8s (List.replicate n c)).length = n) := by show _ = _; rw [u8s_length, List.length_replicate]
  have HTK := Lib.hid (fun a d L w (hL : tokens (List.replicate n c) = L) h => by have := tokens_callsN a n d (List.replicate n c) L.length (by rw [hL]) w h (by omega); rw [hL] at this; exact this)
  obtain ⟨bs, hbs⟩ : ∃ bs, List.replicate n c = bs := ⟨_, rfl⟩
  rw [hbs] at HS0 HST HTA HEN HRG HLN HTK
  clear hbs
  generalize hW : w = wn at hO ⊢
  clear hW w
  go_enter Try.func3, Try.ntmps3
  go_wp2_with (first
    | ((with_reducible refine gG ?_); refine wpList_want rfl ?_)
    | ((with_reducible refine gMake ?_); refine own_make hO _ _ 23 eu8 n rfl rfl rfl rfl (by omega) (by simp [maxLen]; omega) ?_; clear hO; intro g ww hO)
    | (go_at_call 9; refine (live_calls _).mono ?_; rintro e ww ⟨rfl, hb⟩; replace hO := hO.call hb; clear hb))
  go_loopg [25] n (fun m s25 wr => ∃ k : Nat, m = n - k ∧ k ≤ n ∧ s25 = .int .i64 (k : Int) ∧ Own wn wr [.sl 5 1 (.slice (some ⟨g, 0, none⟩) n n) n (fillK (u8s bs) (.int .u8 0) k)])
  case atStart => exact ⟨0, rfl, by omega, rfl, by rw [fillK_zero, HLN.out, ← made_u8]; exact hO⟩
  case round =>
    obtain ⟨k, rfl, hk, rfl, hO1⟩ := hrel
    clear hO
    have hO := hO1
    clear hO1
    by_cases c1 : k < n
    · have e1 : decide ((k : Int) < (n : Int)) = true := by simp; omega
      have HF := Lib.hid (fillK_set (u8s bs) (.int .u8 0) _ k (HRG.out k c1))
      go_wp2_with (first
        | ((with_reducible refine gStore ?_); refine own_setElem hO 0 5 _ _ _ rfl rfl rfl (by omega) iu8s rfl ?_; clear hO; intro ww hO))
      go_roundg (n - (k + 1))
      case measure => omega
      case rel => exact ⟨k + 1, rfl, by omega, by go_num, by rw [← HF.out]; exact hO⟩
    · obtain rfl : k = n := by omega
      have HFA := Lib.hid (fillK_all (u8s bs) (.int .u8 0))
      rw [HLN.out] at HFA
      rw [HFA.out] at hO
      go_wp2_with (first
        | ((with_reducible refine gBld (T := 25) ?_); refine own_bld (Tok.C ⟨c, 0, 0⟩) (by kernel_rfl) ?_)
        | ((with_reducible refine gBuild (T := 26) ?_); refine own_build hO 26 1 _ etk (Tok.C ⟨c, 0, 0⟩) (by omega) (by omega) (by kernel_rfl) rfl ?_; clear hO; intro g2 ww hO))
      replace hO : Own wn _ [.sl 25 3 (.slice (some ⟨g2, 0, none⟩) 1 1) 1 (tks [⟨c, 0, 0⟩]), .sl 5 1 (.slice (some ⟨g, 0, none⟩) k k) k (u8s bs)] := hO
      go_loopg [8, 9] (k - 1) (fun m s8 s9 wr => ∃ (p q : Nat) (L : List Tok) (aW : Option Addr) (T cW : Nat), m = k - p ∧ 1 ≤ p ∧ p + q = k ∧ s9 = .int .i64 (q : Int) ∧ s8 = .slice aW T cW ∧ T = L.length ∧ T ≤ p ∧ tokens bs = L ++ toksFrom bs k p ∧
        Own wn wr [.sl 25 3 (.slice aW T cW) T (tks L), .sl 5 1 (.slice (some ⟨g, 0, none⟩) k k) k (u8s bs)])
      case atStart => exact ⟨1, k - 1, [⟨c, 0, 0⟩], some ⟨g2, 0, none⟩, 1, 1, rfl, by omega, by omega, by go_num, rfl, rfl, by omega, HS0.out, hO⟩
      case round =>
        obtain ⟨p, q, L, aW, T, cW, rfl, hp, hpq, rfl, rfl, hT, hTp, hL, hO1⟩ := hrel
        clear hO
        have hO := hO1
        have HTL := Lib.hid hT
        have HLL := Lib.hid hL
        clear hO1 hT hL
        by_cases c2 : 0 < q
        · have e1 : decide ((0 : Int) < (q : Int)) = true := by simp; omega
          have HNX := Lib.hid (HST.out p L (by omega) HLL.out)
          have hta := HTA.out p (by omega) (by omega)
          rw [show k - p = q by omega] at hta
          obtain ⟨K, hK⟩ : ∃ K, min q 18 = K := ⟨_, rfl⟩
          rw [hK] at hta
          have HMN : Hid ((if (18 : Int) < (q : Int) then 18 else (q : Int)) = (K : Int)) := by show _ = _; split <;> omega
          have hKq : K ≤ q := by omega
          have hK18 : K ≤ 18 := by omega
          clear hK
          by_cases c3 : K < 3
          · have e2 : decide ((K : Int) < 3) = true := by simp; omega
            rw [if_neg (by omega)] at hta
            rw [hta] at HNX
            clear hta
            obtain ⟨r, rfl⟩ : ∃ r, q = r + 1 := ⟨q - 1, by omega⟩
            go_wp2_with (first
              | ((with_reducible refine gMin ?_); refine minV _ HMN.out rfl rfl ?_)
              | ((with_reducible refine gBld (T := 25) ?_); refine own_bld (Tok.C ⟨c, 0, 0⟩) (by kernel_rfl) ?_)
              | ((with_reducible refine gBuild (T := 26) ?_); refine own_build hO 26 1 _ etk (Tok.C ⟨c, 0, 0⟩) (by omega) (by omega) (by kernel_rfl) rfl ?_; clear hO; intro g3 ww hO)
              | ((with_reducible refine gAppend ?_); refine own_append hO 1 _ _ 26 etk rfl rfl rfl (hO.rdAt 0 rfl) (tks_one [⟨c, 0, 0⟩]) (T + 1) rfl (by simp [maxLen]; omega) (by omega) ?_; clear hO; intro a2 c2 ww hO))
            go_roundg (k - (p + 1))
            case measure => omega
            case rel => exact ⟨p + 1, r, L ++ [⟨c, 0, 0⟩], a2, T + 1, c2, rfl, by omega, by omega, by go_num, rfl, by rw [List.length_append, HTL.out]; rfl, by omega, HNX.out, by rw [tks_append]; exact hO.tail⟩
          · have e2 : decide ((K : Int) < 3) = false := by simp; omega
            rw [if_pos (by omega)] at hta
            rw [hta] at HNX
            have HSZ : Hid (Tok.size ⟨0, (K : Int), 1⟩ = K) := by show _ = _; unfold Tok.size; dsimp only; rw [if_neg (by omega)]; omega
            rw [HSZ.out] at HNX
            clear hta
            obtain ⟨r, rfl⟩ : ∃ r, q = K + r := ⟨q - K, by omega⟩
            have e3 : wrap64 (((K + r : Nat) : Int) - (K : Int)) = (r : Int) := by unfold wrap64; omega
            have e3' : wrap64 ((K : Int) + (r : Int) - (K : Int)) = (r : Int) := by unfold wrap64; omega
            have e4 : ((K : Int) + (r : Int) - (K : Int)) = (r : Int) := by omega
            go_wp2_with (first
              | ((with_reducible refine gMin ?_); refine minV _ HMN.out rfl rfl ?_)
              | ((with_reducible refine gBld (T := 25) ?_); refine own_bld (Tok.C ⟨0, (K : Int), 1⟩) (by kernel_rfl) ?_)
              | ((with_reducible refine gBuild (T := 26) ?_); refine own_build hO 26 1 _ etk (Tok.C ⟨0, (K : Int), 1⟩) (by omega) (by omega) (by kernel_rfl) rfl ?_; clear hO; intro g3 ww hO)
              | ((with_reducible refine gAppend ?_); refine own_append hO 1 _ _ 26 etk rfl rfl rfl (hO.rdAt 0 rfl) (tks_one [⟨0, (K : Int), 1⟩]) (T + 1) rfl (by simp [maxLen]; omega) (by omega) ?_; clear hO; intro a2 c2 ww hO))
            go_roundg (k - (p + K))
            case measure => omega
            case rel => exact ⟨p + K, r, L ++ [⟨0, (K : Int), 1⟩], a2, T + 1, c2, rfl, by omega, by omega, by go_num, rfl, by rw [List.length_append, HTL.out]; rfl, by omega, HNX.out, by rw [tks_append]; exact hO.tail⟩
        · obtain rfl : q = 0 := by omega
          obtain rfl : p = k := by omega
          have hE := HEN.out L HLL.out
          have HTK2 := Lib.hid (fun a d w h => HTK.out a d L w hE h)
          rw [← HTL.out] at HTK2
          have HSM := Lib.hid (fun (a1 a2 : Option Addr) (c1 c2 : Nat) w h1 h2 => by have := samet_calls a1 a2 T c1 T c2 L L w h1 h2; rw [decide_eq_true rfl] at this; exact this)
          clear hE HTK HST HTA HEN HRG HS0 HLL HTL HFA
          go_wp2_with (first
            | ((with_reducible refine gG ?_); refine wpList_want rfl ?_)
            | (go_at_call 10; refine (HTK2.out _ _ _ (hO.rdAt 1 rfl)).mono ?_; rintro e ww ⟨aT, cT, rfl, hb, hr⟩; replace hO := hO.addRow hb hr; clear hb hr)
            | (go_at_call 11; refine (HSM.out _ _ _ _ _ (rd_clip (hO.rdAt 0 rfl)) (hO.rdAt 1 rfl)).mono ?_; rintro e ww ⟨rfl, hb⟩; replace hO := hO.call hb; clear hb))
          go_ret
          exact ⟨rfl, hO.below⟩

set_option maxHeartbeats 1000000 in
theorem runs_walk (c : BitVec 8) (x : Int) (w : World) :
    Calls Try.prog 3 #[.int .u8 (c.toNat : Int), .int .i64 x] w fun e w' => e = .returned (.bool true) ∧ Below w.heap.size w w' := by
  by_cases h1 : x < 1
  · have hO := Own.start w
    have d1 : decide (x < 1) = true := by simpa using h1
    generalize hW : w = wn at hO ⊢
    clear hW w
    go_enter Try.func3, Try.ntmps3
    go_wp2_with (first
      | ((with_reducible refine gG ?_); refine wpList_want rfl ?_)
      | (go_at_call 9; refine (live_calls _).mono ?_; rintro e ww ⟨rfl, hb⟩; replace hO := hO.call hb; clear hb))
    go_ret
    exact ⟨rfl, hO.below⟩
  by_cases h2 : 300 < x
  · have hO := Own.start w
    have d1 : decide (x < 1) = false := by simpa using h1
    have d2 : decide (300 < x) = true := by simpa using h2
    generalize hW : w = wn at hO ⊢
    clear hW w
    go_enter Try.func3, Try.ntmps3
    go_wp2_with (first
      | ((with_reducible refine gG ?_); refine wpList_want rfl ?_)
      | (go_at_call 9; refine (live_calls _).mono ?_; rintro e ww ⟨rfl, hb⟩; replace hO := hO.call hb; clear hb))
    go_ret
    exact ⟨rfl, hO.below⟩
  · obtain ⟨n, rfl⟩ : ∃ n : Nat, x = (n : Int) := ⟨x.toNat, by omega⟩
    exact runs_in c n (by omega) (by omega) w
end Go.Proofs.Ytdhcmnblfkhndaa
