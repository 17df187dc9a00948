/- The walk of EnvelopeBytes. -/
import Derived.Test.YtekiloagckkneaaDoorVEq
import Derived.Test.YtekiloagckkneaaDoorVb
namespace Go.Proofs.YtekiloagckkneaaDoor
open Go.RowKit Go.Own Go.Bv Go.Ord Go.Eq

set_option maxHeartbeats 16000000 in
set_option maxRecDepth 100000 in
theorem vbyt_walk (n : BitVec 64) (a1 : Option Addr) (n1 c1 : Nat) (tX : List (BitVec 8)) (u : St) (a2 : Option Addr) (n2 c2 : Nat) (bs : List (BitVec 8)) (w : World)
    (hR1 : Rd w 1 a1 n1 c1 (u8s tX)) (hR2 : Rd w 1 a2 n2 c2 (u8s bs)) (hT : Turns w) :
    Calls Tryd.prog 8 #[.agg (boxC n (.slice a1 n1 c1) u), .slice a2 n2 c2] w fun e w' => e = .returned (.bool true) ∧ Below w.heap.size w w' := by
  have hO := Own.start w
  have HT := Lib.hid hT
  by_cases h1 : 200 < n1
  · have d1 : decide ((200 : Int) < (n1 : Int)) = true := by simp; omega
    clear hR1 hR2 hT
    generalize hW : w = wn at hO HT ⊢
    clear hW w
    go_enter Tryd.func8, Tryd.ntmps8
    go_wp2_with (first
      | ((with_reducible refine gBox ?_); first | (refine bxA hO rfl ?_; clear hO; intro b ww hO) | (refine bx1 hO rfl rfl ?_; clear hO; intro b ww hO))
      | ((with_reducible refine gG ?_); refine wpList_want rfl ?_)
      | (go_at_call 9; refine (vlive_calls _ (HT.out.own hO)).mono ?_; rintro e ww ⟨rfl, hb⟩; replace hO := hO.call hb; clear hb)
      | ((with_reducible refine gLoad (T := 28) ?_); refine ldC hO 0 rfl rfl (tA rfl) rfl ?_))
    go_ret
    exact ⟨rfl, hO.below⟩
  have d1 : decide ((200 : Int) < (n1 : Int)) = false := by simp; omega
  by_cases h2 : 200 < n2
  · have d2 : decide ((200 : Int) < (n2 : Int)) = true := by simp; omega
    clear hR1 hR2 hT
    generalize hW : w = wn at hO HT ⊢
    clear hW w
    go_enter Tryd.func8, Tryd.ntmps8
    go_wp2_with (first
      | ((with_reducible refine gBox ?_); first | (refine bxA hO rfl ?_; clear hO; intro b ww hO) | (refine bx1 hO rfl rfl ?_; clear hO; intro b ww hO))
      | ((with_reducible refine gG ?_); refine wpList_want rfl ?_)
      | (go_at_call 9; refine (vlive_calls _ (HT.out.own hO)).mono ?_; rintro e ww ⟨rfl, hb⟩; replace hO := hO.call hb; clear hb)
      | ((with_reducible refine gLoad (T := 28) ?_); refine ldC hO 0 rfl rfl (tA rfl) rfl ?_))
    go_ret
    exact ⟨rfl, hO.below⟩
  have d2 : decide ((200 : Int) < (n2 : Int)) = false := by simp; omega
  have g1 := fun w hR => bytes_ok n u a1 n1 c1 tX w hR (by omega)
  rw [show 8 + 16 + n1 = n1 + 24 by omega] at g1
  have g2 := fun w a c hR => from_ok a (n1 + 24) c (eight n ++ u.octs ++ tX) w hR (by omega) (by omega)
  rw [(of_bytes n u tX).1, (of_bytes n u tX).2.1, (of_bytes n u tX).2.2, show n1 + 24 - 24 = n1 by omega] at g2
  obtain ⟨tb, htb⟩ : ∃ tb, eight n ++ u.octs ++ tX = tb := ⟨_, rfl⟩
  rw [htb] at g1 g2
  have hS : (decide (n = n) && decide (tX = tX) && decide (u = u)) = true := by simp
  have hs := fun (b : Option Addr) (d : Nat) w h1 h2 => samebox_calls n n a1 b n1 c1 n1 d u u tX tX w h1 h2
  rw [hS] at hs
  have e1 : wrap64 ((n1 : Int) + 24) = (n1 : Int) + 24 := by unfold wrap64; omega
  have G1 := Lib.hid g1
  have G2 := Lib.hid g2
  have HS := Lib.hid hs
  have HR1 := Lib.hid hR1
  have HR2 := Lib.hid hR2
  clear g1 g2 htb hS hs
  have lb : bs.length = n2 := by have := hR2.len; rw [u8s_length] at this; omega
  by_cases h24 : n2 < 24
  · have dn : decide ((n2 : Int) < 24) = true := by simp; omega
    have g3 := fun w => from_no a2 n2 c2 w h24
    have G3 := Lib.hid g3
    clear hR1 hR2 hT g3 lb
    generalize hW : w = wn at hO HR1 HR2 HT ⊢
    clear hW w
    go_enter Tryd.func8, Tryd.ntmps8
    go_wp2_with (first
      | ((with_reducible refine gBox ?_); first | (refine bxA hO rfl ?_; clear hO; intro b ww hO) | (refine bx1 hO rfl rfl ?_; clear hO; intro b ww hO))
      | ((with_reducible refine gG ?_); refine wpList_want rfl ?_)
      | (go_at_call 9; refine (vlive_calls _ (HT.out.own hO)).mono ?_; rintro e ww ⟨rfl, hb⟩; replace hO := hO.call hb; clear hb)
      | ((with_reducible refine gLoad (T := 28) ?_); first | refine ldC hO 0 rfl rfl (tA rfl) rfl ?_ | refine ldC hO 3 rfl rfl (tA rfl) rfl ?_)
      | ((with_reducible refine gLoad (T := 31) ?_); first | refine ldX hO 0 rfl rfl (tA rfl) (tS rfl) ?_ | refine ldX hO 3 rfl rfl (tA rfl) (tS rfl) ?_)
      | ((with_reducible refine gAlloc (T := 31) ?_); refine own_alloc hO _ _ ibz ?_; clear hO; intro bx ww hO)
      | ((with_reducible refine gStore (T := 31) ?_); refine stX hO 0 rfl rfl rfl rfl rfl (tS rfl) ?_; clear hO; intro ww hO)
      | (go_at_call 18; (with_reducible refine gCall #[.agg (boxC n (.slice a1 n1 c1) u)] ?_); refine (G1.out _ (hO.rd HR1.out)).mono ?_; rintro e ww ⟨aT, cT, rfl, hb, hr⟩; replace hO := hO.addRow hb hr; clear hb hr)
      | (go_at_call 20; (with_reducible refine gCall #[.slice _ (n1 + 24) _] ?_); refine (G2.out _ _ _ (hO.rdAt 0 rfl)).mono ?_; rintro e ww ⟨aY, cY, rfl, hb, hr⟩; replace hO := hO.addRow hb hr; clear hb hr)
      | (go_at_call 15; refine (HS.out _ _ _ (hO.rd HR1.out) (hO.rdAt 1 rfl)).mono ?_; rintro e ww ⟨rfl, hb⟩; replace hO := hO.call hb; clear hb)
      | (go_at_call 20; (with_reducible refine gCall #[.slice a2 n2 c2] ?_); refine (G3.out _).mono ?_; rintro e ww ⟨rfl, hb⟩; replace hO := hO.call hb; clear hb))
    go_ret
    exact ⟨rfl, hO.below⟩
  · have hby := bytes_of bs (by omega)
    have g3 := fun w hR => from_ok a2 n2 c2 bs w hR (by omega) (by omega)
    obtain ⟨v, hv⟩ : ∃ v, num bs 8 = v := ⟨_, rfl⟩
    obtain ⟨s, hs⟩ : ∃ s, St.of ((bs.drop 8).take 16) = s := ⟨_, rfl⟩
    obtain ⟨tl, htl⟩ : ∃ tl, bs.drop 24 = tl := ⟨_, rfl⟩
    obtain ⟨M, hM⟩ : ∃ M, n2 - 24 = M := ⟨_, rfl⟩
    rw [hv, hs, htl] at hby g3
    rw [hM] at g3
    have g4 := fun w a c hR => bytes_ok v s a M c tl w hR (by omega)
    rw [hby, show 8 + 16 + M = n2 by omega] at g4
    have g5 := fun a c w h1 h2 => same_calls a a2 n2 c n2 c2 bs bs w h1 h2
    rw [decide_eq_true (show bs = bs from rfl)] at g5
    have G3 := Lib.hid g3
    have G4 := Lib.hid g4
    have G5 := Lib.hid g5
    clear hR1 hR2 hT g3 g4 g5 hv hs htl hM hby lb
    generalize hW : w = wn at hO HR1 HR2 HT ⊢
    clear hW w
    go_enter Tryd.func8, Tryd.ntmps8
    go_wp2_with (first
      | ((with_reducible refine gBox ?_); first | (refine bxA hO rfl ?_; clear hO; intro b ww hO) | (refine bx1 hO rfl rfl ?_; clear hO; intro b ww hO))
      | ((with_reducible refine gG ?_); refine wpList_want rfl ?_)
      | (go_at_call 9; refine (vlive_calls _ (HT.out.own hO)).mono ?_; rintro e ww ⟨rfl, hb⟩; replace hO := hO.call hb; clear hb)
      | ((with_reducible refine gLoad (T := 28) ?_); first | refine ldC hO 0 rfl rfl (tA rfl) rfl ?_ | refine ldC hO 3 rfl rfl (tA rfl) rfl ?_)
      | ((with_reducible refine gLoad (T := 31) ?_); first | refine ldX hO 0 rfl rfl (tA rfl) (tS rfl) ?_ | refine ldX hO 3 rfl rfl (tA rfl) (tS rfl) ?_)
      | ((with_reducible refine gAlloc (T := 31) ?_); refine own_alloc hO _ _ ibz ?_; clear hO; intro bx ww hO)
      | ((with_reducible refine gStore (T := 31) ?_); refine stX hO 0 rfl rfl rfl rfl rfl (tS rfl) ?_; clear hO; intro ww hO)
      | (go_at_call 18; (with_reducible refine gCall #[.agg (boxC n (.slice a1 n1 c1) u)] ?_); refine (G1.out _ (hO.rd HR1.out)).mono ?_; rintro e ww ⟨aT, cT, rfl, hb, hr⟩; replace hO := hO.addRow hb hr; clear hb hr)
      | (go_at_call 20; (with_reducible refine gCall #[.slice _ (n1 + 24) _] ?_); refine (G2.out _ _ _ (hO.rdAt 0 rfl)).mono ?_; rintro e ww ⟨aY, cY, rfl, hb, hr⟩; replace hO := hO.addRow hb hr; clear hb hr)
      | (go_at_call 15; refine (HS.out _ _ _ (hO.rd HR1.out) (hO.rdAt 1 rfl)).mono ?_; rintro e ww ⟨rfl, hb⟩; replace hO := hO.call hb; clear hb)
      | (go_at_call 20; (with_reducible refine gCall #[.slice a2 n2 c2] ?_); refine (G3.out _ (hO.rd HR2.out)).mono ?_; rintro e ww ⟨aZ, cZ, rfl, hb, hr⟩; replace hO := hO.addRow hb hr; clear hb hr)
      | (go_at_call 18; (with_reducible refine gCall #[.agg (boxC v _ s)] ?_); refine (G4.out _ _ _ (hO.rdAt 1 rfl)).mono ?_; rintro e ww ⟨aU, cU, rfl, hb, hr⟩; replace hO := hO.addRow hb hr; clear hb hr)
      | (go_at_call 13; refine (G5.out _ _ _ (hO.rdAt 0 rfl) (hO.rd HR2.out)).mono ?_; rintro e ww ⟨rfl, rfl⟩))
    go_ret
    exact ⟨rfl, hO.below⟩
end Go.Proofs.YtekiloagckkneaaDoor
