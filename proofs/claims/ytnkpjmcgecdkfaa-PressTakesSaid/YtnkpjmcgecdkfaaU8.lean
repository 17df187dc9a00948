/- Of several texts of this claim, one behind the other: Za Mn Mo Md Mp Mq. -/
import Derived.Test.YtnkpjmcgecdkfaaU7

/- Walk: the document's token. -/
namespace Go.Proofs.Ytnkpjmcgecdkfaa
open Go.RowKit Go.Own Go.Bv Go.Ord Go.Eq Go.Opn Go.Pb Go.Mt

def tokPost (w0 : World) (L : List Res) (z : Option (Tok × Go.Kc.Rr)) (e : Ending) (w' : World) : Prop :=
  match z with
  | some (t, u) => ∃ a' c', e = .returned (.tuple #[.agg t.C, .agg (rgC (.slice a' 528 c') u.span u.code u.used), .bool true]) ∧ Own w0 w' (.sl 3 1 (.slice a' 528 c') 528 (i64s u.p) :: L)
  | none => ∃ (t : Tok) (a' : Option Addr) (c' s1 s2 s3 : Nat), e = .returned (.tuple #[.agg t.C, .agg (rgC (.slice a' 528 c') s1 s2 s3), .bool false]) ∧ Own w0 w' L

set_option maxHeartbeats 8000000 in
set_option maxRecDepth 100000 in
theorem rtoken_calls {w0 w : World} {L : List Res} {aP : Option Addr} {cP : Nat} (b : List (BitVec 8)) (r : Go.Kc.Rr) (hr : Go.Kc.Rok 528 b r) (aB : Option Addr) (m cB : Nat) (hBR : Rd w0 1 aB m cB (u8s b)) (hm : m ≤ 10000000) (z : Option (Tok × Go.Kc.Rr)) (hz : Go.Pz.rtok b r = z)
    (hO : Own w0 w (.sl 3 1 (.slice aP 528 cP) 528 (i64s r.p) :: L)) :
    Calls Try.prog 33 #[.agg (rgC (.slice aP 528 cP) r.span r.code r.used), .slice aB m cB] w (tokPost w0 L z) := by
  have HBR := Lib.hid hBR
  rcases Go.Kc.nxtE_cases 528 b r ((0 : Nat) : Int) with h | ⟨h, a, ha, ha2, hno⟩ | ⟨h, hbad⟩
  · obtain ⟨k, e, hk, hmay⟩ := Go.Kc.nxtE_ok h
    obtain rfl : 0 = k := by omega
    have HK := Go.Pz.next_rok hr h
    unfold Go.Pz.rtok at hz
    rw [if_pos h] at hz
    obtain ⟨t, ht⟩ : ∃ t, r.next b 0 = t := ⟨_, rfl⟩
    obtain ⟨sb, hsb⟩ : ∃ x, r.set 0 = x := ⟨_, rfl⟩
    have HNX := Lib.hid (fun (w : World) hP hB => rnext_ok 528 (by omega) r b hr aP cP aB m cB w hP hB hm 0 (by omega) hmay t ht)
    rw [hsb, show ((0 : Nat) : Int) = 0 from rfl] at HNX
    rw [ht, hsb] at hz
    rw [ht] at HK
    have HTR := fun (tree wide p : Nat) hw htr (t : Go.Kc.Rr) (ht : Go.Kc.Rok 528 b t) (x : Option (Nat × Go.Kc.Rr)) hx (w : World) (L : List Res) (aQ : Option Addr) (cQ : Nat) hO => rtree_calls (w0 := w0) (w := w) (L := L) (aP := aQ) (cP := cQ) b t ht aB m cB hBR hm wide tree p hw htr x hx hO
    clear ht hsb h e hk hmay hBR hr hm
    cases sb
    · rw [if_pos rfl] at hz
      obtain ⟨x, hx⟩ : ∃ x, Go.Pz.rn b 0 8 1 t = x := ⟨_, rfl⟩
      have H8 := Lib.hid (HTR 0 8 256 (.inr ⟨rfl, rfl⟩) (by omega) t HK x hx)
      rw [show ((8 : Nat) : Int) = 8 from rfl, show ((0 : Nat) : Int) = 0 from rfl] at H8
      have hl := fun v u (h : x = some (v, u)) => Go.Pz.rn_lt (hx.trans h)
      rw [hx] at hz
      clear hx HK HTR
      cases x with
      | none =>
        dsimp only at hz
        subst hz
        clear hl
        go_enter Try.func33, Try.ntmps33
        go_wp2_with (first
          | (go_at_call 54; refine (HNX.out _ (hO.rdAt 3 rfl) (hO.rd HBR.out)).mono ?_; rintro e ww ⟨a5, c5, rfl, hb, hr⟩; replace hO := hO.addRow hb hr; clear hb hr)
          | (go_at_call 55; (with_reducible refine gCall #[_, _, .int .i64 8, _] ?_); refine (H8.out _ _ _ _ hO).mono ?_; rintro e ww ⟨a6, c6, s1, s2, s3, rfl, hO2⟩; clear hO; have hO := hO2; clear hO2)
          | ((with_reducible refine gBox ?_); first | (refine bxA hO rfl ?_; clear hO; intro rb ww hO) | (refine bx1 hO rfl rfl ?_; clear hO; intro rb ww hO))
          | ((with_reducible refine gAlloc (T := 30) ?_); refine own_alloc hO _ _ itz ?_; clear hO; intro tb ww hO)
          | (((with_reducible refine gAlloc ?_); refine own_alloc hO _ _ irgz ?_; clear hO; intro zb ww hO))
          | ((with_reducible refine gLoad ?_); first | refine ldX hO 0 rfl rfl (tA rfl) (tS rfl) ?_ | refine ldC hO 0 rfl rfl (tA rfl) rfl ?_ | refine ldX hO 1 rfl rfl (tA rfl) (tS rfl) ?_ | refine ldC hO 1 rfl rfl (tA rfl) rfl ?_ | refine ldX hO 2 rfl rfl (tA rfl) (tS rfl) ?_ | refine ldC hO 2 rfl rfl (tA rfl) rfl ?_ | refine ldX hO 3 rfl rfl (tA rfl) (tS rfl) ?_ | refine ldC hO 3 rfl rfl (tA rfl) rfl ?_ | refine ldX hO 4 rfl rfl (tA rfl) (tS rfl) ?_ | refine ldC hO 4 rfl rfl (tA rfl) rfl ?_ | refine ldX hO 5 rfl rfl (tA rfl) (tS rfl) ?_ | refine ldC hO 5 rfl rfl (tA rfl) rfl ?_)
          | ((with_reducible refine gStore ?_); first | (refine stX hO 0 rfl rfl rfl rfl rfl (tS rfl) ?_; clear hO; intro ww hO) | (refine stC hO 0 rfl rfl rfl (ltb rfl) rfl (tS rfl) ?_; clear hO; intro ww hO) | (refine stX hO 1 rfl rfl rfl rfl rfl (tS rfl) ?_; clear hO; intro ww hO) | (refine stC hO 1 rfl rfl rfl (ltb rfl) rfl (tS rfl) ?_; clear hO; intro ww hO) | (refine stX hO 2 rfl rfl rfl rfl rfl (tS rfl) ?_; clear hO; intro ww hO) | (refine stC hO 2 rfl rfl rfl (ltb rfl) rfl (tS rfl) ?_; clear hO; intro ww hO) | (refine stX hO 3 rfl rfl rfl rfl rfl (tS rfl) ?_; clear hO; intro ww hO) | (refine stC hO 3 rfl rfl rfl (ltb rfl) rfl (tS rfl) ?_; clear hO; intro ww hO) | (refine stX hO 4 rfl rfl rfl rfl rfl (tS rfl) ?_; clear hO; intro ww hO) | (refine stC hO 4 rfl rfl rfl (ltb rfl) rfl (tS rfl) ?_; clear hO; intro ww hO) | (refine stX hO 5 rfl rfl rfl rfl rfl (tS rfl) ?_; clear hO; intro ww hO) | (refine stC hO 5 rfl rfl rfl (ltb rfl) rfl (tS rfl) ?_; clear hO; intro ww hO)))
        refine wp_region_textS (fun w' => Own w0 w' [.blk zb (.cells (rgC (.slice a6 528 c6) s1 s2 s3) 62 (0,0))]) (fun op => match op with | .load _ _ => true | _ => false) (by kernel_rfl) (by kernel_rfl) (hO.drew.only (by simp)) ?_
        replace hO := hO.drew
        generalize World.drew _ = wd at hO ⊢
        go_wp2_with (first
          | ((with_reducible refine gBld (T := 30) ?_); refine own_bld (Tok.C ⟨0, 0, 0⟩) (by kernel_rfl) ?_)
          | ((with_reducible refine gIL ?_); first | refine wpI_ldS (fun w' hS => hS.blk 0 rfl) rfl rfl (tA rfl) (tS rfl) ?_)
          | ((with_reducible refine gStore ?_); first | (refine stX hO 0 rfl rfl rfl rfl rfl (tS rfl) ?_; clear hO; intro ww hO) | (refine stC hO 0 rfl rfl rfl (ltb rfl) rfl (tS rfl) ?_; clear hO; intro ww hO) | (refine stX hO 1 rfl rfl rfl rfl rfl (tS rfl) ?_; clear hO; intro ww hO) | (refine stC hO 1 rfl rfl rfl (ltb rfl) rfl (tS rfl) ?_; clear hO; intro ww hO) | (refine stX hO 2 rfl rfl rfl rfl rfl (tS rfl) ?_; clear hO; intro ww hO) | (refine stC hO 2 rfl rfl rfl (ltb rfl) rfl (tS rfl) ?_; clear hO; intro ww hO) | (refine stX hO 3 rfl rfl rfl rfl rfl (tS rfl) ?_; clear hO; intro ww hO) | (refine stC hO 3 rfl rfl rfl (ltb rfl) rfl (tS rfl) ?_; clear hO; intro ww hO) | (refine stX hO 4 rfl rfl rfl rfl rfl (tS rfl) ?_; clear hO; intro ww hO) | (refine stC hO 4 rfl rfl rfl (ltb rfl) rfl (tS rfl) ?_; clear hO; intro ww hO) | (refine stX hO 5 rfl rfl rfl rfl rfl (tS rfl) ?_; clear hO; intro ww hO) | (refine stC hO 5 rfl rfl rfl (ltb rfl) rfl (tS rfl) ?_; clear hO; intro ww hO))
          | ((with_reducible refine gI ?_); refine wpI_step rfl rfl (by kernel_rfl) ?_; intro K hK; have HK := Lib.hid hK; clear hK) | ((with_reducible refine gI ?_); first | refine wpI_skip rfl ?_ | refine wpI_want rfl ?_) | ((with_reducible refine gOnlyK HK.out ?_ ?_); exact hO.only (by simp); clear HK K; first | (refine wpI_act (by simp only [Act.put, List.setIfInBounds_toArray, List.set_cons_succ, List.set_cons_zero]; rfl) ?_) | skip) | (with_reducible refine wpI_nil ?_))
        refine bodyPost_ret (res_cct rfl _ _ tb _ 30 62 (Tok.C ⟨0, 0, 0⟩) (rgC (.slice a6 528 c6) s1 s2 s3) (0,0) (0,0) _ _ rfl (hO.blk 2 rfl) Try.underlying30 rfl its rfl (hO.blk 1 rfl) Try.underlying62 rfl (irg _ _ _ _)) rfl ⟨⟨0, 0, 0⟩, a6, c6, _, _, _, rfl, hO.sub (List.Sublist.cons _ (List.Sublist.cons _ (List.Sublist.cons _ (List.Sublist.cons _ (List.Sublist.cons _ (List.Sublist.refl _))))))⟩
      | some x =>
        obtain ⟨v, u⟩ := x
        dsimp only at hz
        subst hz
        obtain ⟨hv1, hv2⟩ := hl v u rfl
        have hv3 : 256 ≤ v ∧ v < 512 := by omega
        clear hl hv1 hv2
        go_enter Try.func33, Try.ntmps33
        go_wp2_with (first
          | (go_at_call 54; refine (HNX.out _ (hO.rdAt 3 rfl) (hO.rd HBR.out)).mono ?_; rintro e ww ⟨a5, c5, rfl, hb, hr⟩; replace hO := hO.addRow hb hr; clear hb hr)
          | (go_at_call 55; (with_reducible refine gCall #[_, _, .int .i64 8, _] ?_); refine (H8.out _ _ _ _ hO).mono ?_; rintro e ww ⟨a6, c6, rfl, hO2⟩; clear hO; have hO := hO2; clear hO2)
          | ((with_reducible refine gBox ?_); first | (refine bxA hO rfl ?_; clear hO; intro rb ww hO) | (refine bx1 hO rfl rfl ?_; clear hO; intro rb ww hO))
          | ((with_reducible refine gAlloc (T := 30) ?_); refine own_alloc hO _ _ itz ?_; clear hO; intro tb ww hO)
          | (((with_reducible refine gAlloc ?_); refine own_alloc hO _ _ irgz ?_; clear hO; intro zb ww hO))
          | ((with_reducible refine gLoad ?_); first | refine ldX hO 0 rfl rfl (tA rfl) (tS rfl) ?_ | refine ldC hO 0 rfl rfl (tA rfl) rfl ?_ | refine ldX hO 1 rfl rfl (tA rfl) (tS rfl) ?_ | refine ldC hO 1 rfl rfl (tA rfl) rfl ?_ | refine ldX hO 2 rfl rfl (tA rfl) (tS rfl) ?_ | refine ldC hO 2 rfl rfl (tA rfl) rfl ?_ | refine ldX hO 3 rfl rfl (tA rfl) (tS rfl) ?_ | refine ldC hO 3 rfl rfl (tA rfl) rfl ?_ | refine ldX hO 4 rfl rfl (tA rfl) (tS rfl) ?_ | refine ldC hO 4 rfl rfl (tA rfl) rfl ?_ | refine ldX hO 5 rfl rfl (tA rfl) (tS rfl) ?_ | refine ldC hO 5 rfl rfl (tA rfl) rfl ?_)
          | ((with_reducible refine gStore ?_); first | (refine stX hO 0 rfl rfl rfl rfl rfl (tS rfl) ?_; clear hO; intro ww hO) | (refine stC hO 0 rfl rfl rfl (ltb rfl) rfl (tS rfl) ?_; clear hO; intro ww hO) | (refine stX hO 1 rfl rfl rfl rfl rfl (tS rfl) ?_; clear hO; intro ww hO) | (refine stC hO 1 rfl rfl rfl (ltb rfl) rfl (tS rfl) ?_; clear hO; intro ww hO) | (refine stX hO 2 rfl rfl rfl rfl rfl (tS rfl) ?_; clear hO; intro ww hO) | (refine stC hO 2 rfl rfl rfl (ltb rfl) rfl (tS rfl) ?_; clear hO; intro ww hO) | (refine stX hO 3 rfl rfl rfl rfl rfl (tS rfl) ?_; clear hO; intro ww hO) | (refine stC hO 3 rfl rfl rfl (ltb rfl) rfl (tS rfl) ?_; clear hO; intro ww hO) | (refine stX hO 4 rfl rfl rfl rfl rfl (tS rfl) ?_; clear hO; intro ww hO) | (refine stC hO 4 rfl rfl rfl (ltb rfl) rfl (tS rfl) ?_; clear hO; intro ww hO) | (refine stX hO 5 rfl rfl rfl rfl rfl (tS rfl) ?_; clear hO; intro ww hO) | (refine stC hO 5 rfl rfl rfl (ltb rfl) rfl (tS rfl) ?_; clear hO; intro ww hO)))
        refine wp_region_textS (fun w' => Own w0 w' [.blk zb (.cells (rgC (.slice a6 528 c6) u.span u.code u.used) 62 (0,0))]) (fun op => match op with | .load _ _ => true | _ => false) (by kernel_rfl) (by kernel_rfl) (hO.drew.only (by simp)) ?_
        replace hO := hO.drew
        generalize World.drew _ = wd at hO ⊢
        go_wp2_with (first
          | ((with_reducible refine gBld (T := 30) ?_); refine own_bld (#[.int .u8 ((v : Int) - 256), .int .i64 0, .int .i64 0]) (by kernel_rfl) ?_)
          | ((with_reducible refine gIL ?_); first | refine wpI_ldS (fun w' hS => hS.blk 0 rfl) rfl rfl (tA rfl) (tS rfl) ?_)
          | ((with_reducible refine gStore ?_); first | (refine stX hO 0 rfl rfl rfl rfl rfl (tS rfl) ?_; clear hO; intro ww hO) | (refine stC hO 0 rfl rfl rfl (ltb rfl) rfl (tS rfl) ?_; clear hO; intro ww hO) | (refine stX hO 1 rfl rfl rfl rfl rfl (tS rfl) ?_; clear hO; intro ww hO) | (refine stC hO 1 rfl rfl rfl (ltb rfl) rfl (tS rfl) ?_; clear hO; intro ww hO) | (refine stX hO 2 rfl rfl rfl rfl rfl (tS rfl) ?_; clear hO; intro ww hO) | (refine stC hO 2 rfl rfl rfl (ltb rfl) rfl (tS rfl) ?_; clear hO; intro ww hO) | (refine stX hO 3 rfl rfl rfl rfl rfl (tS rfl) ?_; clear hO; intro ww hO) | (refine stC hO 3 rfl rfl rfl (ltb rfl) rfl (tS rfl) ?_; clear hO; intro ww hO) | (refine stX hO 4 rfl rfl rfl rfl rfl (tS rfl) ?_; clear hO; intro ww hO) | (refine stC hO 4 rfl rfl rfl (ltb rfl) rfl (tS rfl) ?_; clear hO; intro ww hO) | (refine stX hO 5 rfl rfl rfl rfl rfl (tS rfl) ?_; clear hO; intro ww hO) | (refine stC hO 5 rfl rfl rfl (ltb rfl) rfl (tS rfl) ?_; clear hO; intro ww hO))
          | ((with_reducible refine gI ?_); refine wpI_step rfl rfl (by kernel_rfl) ?_; intro K hK; have HK := Lib.hid hK; clear hK) | ((with_reducible refine gI ?_); first | refine wpI_skip rfl ?_ | refine wpI_want rfl ?_) | ((with_reducible refine gOnlyK HK.out ?_ ?_); exact hO.only (by simp); clear HK K; first | (refine wpI_act (by simp only [Act.put, List.setIfInBounds_toArray, List.set_cons_succ, List.set_cons_zero]; rfl) ?_) | skip) | (with_reducible refine wpI_nil ?_))
        have hC : (#[.int .u8 ((v : Int) - 256), .int .i64 0, .int .i64 0] : Array Value) = Tok.C ⟨BitVec.ofNat 8 (v - 256), 0, 0⟩ := by
          unfold Tok.C
          rw [show ((v : Int) - 256) = ((BitVec.ofNat 8 (v - 256)).toNat : Int) by simp only [BitVec.toNat_ofNat]; omega]
        rw [hC] at hO
        refine bodyPost_ret (res_cct rfl _ _ tb _ 30 62 (Tok.C ⟨BitVec.ofNat 8 (v - 256), 0, 0⟩) (rgC (.slice a6 528 c6) u.span u.code u.used) (0,0) (0,0) _ _ rfl (hO.blk 3 rfl) Try.underlying30 rfl its rfl (hO.blk 2 rfl) Try.underlying62 rfl (irg _ _ _ _)) rfl ⟨a6, c6, rfl, hO.sub (List.Sublist.cons _ (List.Sublist.cons_cons _ (List.Sublist.cons _ (List.Sublist.cons _ (List.Sublist.cons _ (List.Sublist.cons _ (List.Sublist.refl _)))))))⟩
    · rw [if_neg (by decide)] at hz
      obtain ⟨x, hx⟩ : ∃ x, Go.Pz.rn b 256 4 1 t = x := ⟨_, rfl⟩
      have H4 := Lib.hid (HTR 256 4 16 (.inl ⟨rfl, rfl⟩) (by omega) t HK x hx)
      rw [show ((4 : Nat) : Int) = 4 from rfl, show ((256 : Nat) : Int) = 256 from rfl] at H4
      have hl := fun v u (h : x = some (v, u)) => Go.Pz.rn_lt (hx.trans h)
      have hrk := fun v u (h : x = some (v, u)) => Go.Pz.rn_rok (hx.trans h) HK
      rw [hx] at hz
      clear hx HK
      cases x with
      | none =>
        dsimp only at hz
        subst hz
        clear hl hrk HTR
        go_enter Try.func33, Try.ntmps33
        go_wp2_with (first
          | (go_at_call 54; refine (HNX.out _ (hO.rdAt 3 rfl) (hO.rd HBR.out)).mono ?_; rintro e ww ⟨a5, c5, rfl, hb, hr⟩; replace hO := hO.addRow hb hr; clear hb hr)
          | (go_at_call 55; (with_reducible refine gCall #[_, _, .int .i64 4, _] ?_); refine (H4.out _ _ _ _ hO).mono ?_; rintro e ww ⟨a6, c6, s1, s2, s3, rfl, hO2⟩; clear hO; have hO := hO2; clear hO2)
          | ((with_reducible refine gBox ?_); first | (refine bxA hO rfl ?_; clear hO; intro rb ww hO) | (refine bx1 hO rfl rfl ?_; clear hO; intro rb ww hO))
          | ((with_reducible refine gAlloc (T := 30) ?_); refine own_alloc hO _ _ itz ?_; clear hO; intro tb ww hO)
          | (((with_reducible refine gAlloc ?_); refine own_alloc hO _ _ irgz ?_; clear hO; intro zb ww hO))
          | ((with_reducible refine gLoad ?_); first | refine ldX hO 0 rfl rfl (tA rfl) (tS rfl) ?_ | refine ldC hO 0 rfl rfl (tA rfl) rfl ?_ | refine ldX hO 1 rfl rfl (tA rfl) (tS rfl) ?_ | refine ldC hO 1 rfl rfl (tA rfl) rfl ?_ | refine ldX hO 2 rfl rfl (tA rfl) (tS rfl) ?_ | refine ldC hO 2 rfl rfl (tA rfl) rfl ?_ | refine ldX hO 3 rfl rfl (tA rfl) (tS rfl) ?_ | refine ldC hO 3 rfl rfl (tA rfl) rfl ?_ | refine ldX hO 4 rfl rfl (tA rfl) (tS rfl) ?_ | refine ldC hO 4 rfl rfl (tA rfl) rfl ?_ | refine ldX hO 5 rfl rfl (tA rfl) (tS rfl) ?_ | refine ldC hO 5 rfl rfl (tA rfl) rfl ?_)
          | ((with_reducible refine gStore ?_); first | (refine stX hO 0 rfl rfl rfl rfl rfl (tS rfl) ?_; clear hO; intro ww hO) | (refine stC hO 0 rfl rfl rfl (ltb rfl) rfl (tS rfl) ?_; clear hO; intro ww hO) | (refine stX hO 1 rfl rfl rfl rfl rfl (tS rfl) ?_; clear hO; intro ww hO) | (refine stC hO 1 rfl rfl rfl (ltb rfl) rfl (tS rfl) ?_; clear hO; intro ww hO) | (refine stX hO 2 rfl rfl rfl rfl rfl (tS rfl) ?_; clear hO; intro ww hO) | (refine stC hO 2 rfl rfl rfl (ltb rfl) rfl (tS rfl) ?_; clear hO; intro ww hO) | (refine stX hO 3 rfl rfl rfl rfl rfl (tS rfl) ?_; clear hO; intro ww hO) | (refine stC hO 3 rfl rfl rfl (ltb rfl) rfl (tS rfl) ?_; clear hO; intro ww hO) | (refine stX hO 4 rfl rfl rfl rfl rfl (tS rfl) ?_; clear hO; intro ww hO) | (refine stC hO 4 rfl rfl rfl (ltb rfl) rfl (tS rfl) ?_; clear hO; intro ww hO) | (refine stX hO 5 rfl rfl rfl rfl rfl (tS rfl) ?_; clear hO; intro ww hO) | (refine stC hO 5 rfl rfl rfl (ltb rfl) rfl (tS rfl) ?_; clear hO; intro ww hO)))
        refine wp_region_textS (fun w' => Own w0 w' [.blk rb (.cells (rgC (.slice a6 528 c6) s1 s2 s3) 62 (0,0))]) (fun op => match op with | .load _ _ => true | _ => false) (by kernel_rfl) (by kernel_rfl) (hO.drew.only (by simp)) ?_
        replace hO := hO.drew
        generalize World.drew _ = wd at hO ⊢
        go_wp2_with (first
          | ((with_reducible refine gBld (T := 30) ?_); refine own_bld (Tok.C ⟨0, 0, 0⟩) (by kernel_rfl) ?_)
          | ((with_reducible refine gIL ?_); first | refine wpI_ldS (fun w' hS => hS.blk 0 rfl) rfl rfl (tA rfl) (tS rfl) ?_)
          | ((with_reducible refine gStore ?_); first | (refine stX hO 0 rfl rfl rfl rfl rfl (tS rfl) ?_; clear hO; intro ww hO) | (refine stC hO 0 rfl rfl rfl (ltb rfl) rfl (tS rfl) ?_; clear hO; intro ww hO) | (refine stX hO 1 rfl rfl rfl rfl rfl (tS rfl) ?_; clear hO; intro ww hO) | (refine stC hO 1 rfl rfl rfl (ltb rfl) rfl (tS rfl) ?_; clear hO; intro ww hO) | (refine stX hO 2 rfl rfl rfl rfl rfl (tS rfl) ?_; clear hO; intro ww hO) | (refine stC hO 2 rfl rfl rfl (ltb rfl) rfl (tS rfl) ?_; clear hO; intro ww hO) | (refine stX hO 3 rfl rfl rfl rfl rfl (tS rfl) ?_; clear hO; intro ww hO) | (refine stC hO 3 rfl rfl rfl (ltb rfl) rfl (tS rfl) ?_; clear hO; intro ww hO) | (refine stX hO 4 rfl rfl rfl rfl rfl (tS rfl) ?_; clear hO; intro ww hO) | (refine stC hO 4 rfl rfl rfl (ltb rfl) rfl (tS rfl) ?_; clear hO; intro ww hO) | (refine stX hO 5 rfl rfl rfl rfl rfl (tS rfl) ?_; clear hO; intro ww hO) | (refine stC hO 5 rfl rfl rfl (ltb rfl) rfl (tS rfl) ?_; clear hO; intro ww hO))
          | ((with_reducible refine gI ?_); refine wpI_step rfl rfl (by kernel_rfl) ?_; intro K hK; have HK := Lib.hid hK; clear hK) | ((with_reducible refine gI ?_); first | refine wpI_skip rfl ?_ | refine wpI_want rfl ?_) | ((with_reducible refine gOnlyK HK.out ?_ ?_); exact hO.only (by simp); clear HK K; first | (refine wpI_act (by simp only [Act.put, List.setIfInBounds_toArray, List.set_cons_succ, List.set_cons_zero]; rfl) ?_) | skip) | (with_reducible refine wpI_nil ?_))
        refine bodyPost_ret (res_cct rfl _ _ tb _ 30 62 (Tok.C ⟨0, 0, 0⟩) (rgC (.slice a6 528 c6) s1 s2 s3) (0,0) (0,0) _ _ rfl (hO.blk 1 rfl) Try.underlying30 rfl its rfl (hO.blk 0 rfl) Try.underlying62 rfl (irg _ _ _ _)) rfl ⟨⟨0, 0, 0⟩, a6, c6, _, _, _, rfl, hO.sub (List.Sublist.cons _ (List.Sublist.cons _ (List.Sublist.cons _ (List.Sublist.cons _ (List.Sublist.refl _)))))⟩
      | some x =>
        obtain ⟨v, u⟩ := x
        dsimp only at hz
        obtain ⟨hv1, hv2⟩ := hl v u rfl
        have hv3 : 16 ≤ v ∧ v < 32 := by omega
        have HK := hrk v u rfl
        obtain ⟨y, hy⟩ : ∃ y, Go.Pz.rn b 272 8 1 u = y := ⟨_, rfl⟩
        have H8 := Lib.hid (HTR 272 8 256 (.inr ⟨rfl, rfl⟩) (by omega) u HK y hy)
        rw [show ((8 : Nat) : Int) = 8 from rfl, show ((272 : Nat) : Int) = 272 from rfl] at H8
        have hl2 := fun v u (h : y = some (v, u)) => Go.Pz.rn_lt (hy.trans h)
        rw [hy] at hz
        clear hy hl hv1 hv2 HK HTR hrk
        cases y with
        | none =>
          dsimp only at hz
          subst hz
          clear hl2
          go_enter Try.func33, Try.ntmps33
          go_wp2_with (first
            | (go_at_call 54; refine (HNX.out _ (hO.rdAt 3 rfl) (hO.rd HBR.out)).mono ?_; rintro e ww ⟨a5, c5, rfl, hb, hr⟩; replace hO := hO.addRow hb hr; clear hb hr)
            | (go_at_call 55; (with_reducible refine gCall #[_, _, .int .i64 4, _] ?_); refine (H4.out _ _ _ _ hO).mono ?_; rintro e ww ⟨a7, c7, rfl, hO2⟩; clear hO; have hO := hO2; clear hO2)
            | (go_at_call 55; (with_reducible refine gCall #[_, _, .int .i64 8, _] ?_); refine (H8.out _ _ _ _ hO).mono ?_; rintro e ww ⟨a6, c6, s1, s2, s3, rfl, hO2⟩; clear hO; have hO := hO2; clear hO2)
            | ((with_reducible refine gBox ?_); first | (refine bxA hO rfl ?_; clear hO; intro rb ww hO) | (refine bx1 hO rfl rfl ?_; clear hO; intro rb ww hO))
            | ((with_reducible refine gAlloc (T := 30) ?_); refine own_alloc hO _ _ itz ?_; clear hO; intro tb ww hO)
            | (((with_reducible refine gAlloc ?_); refine own_alloc hO _ _ irgz ?_; clear hO; intro zb ww hO))
            | ((with_reducible refine gLoad ?_); first | refine ldX hO 0 rfl rfl (tA rfl) (tS rfl) ?_ | refine ldC hO 0 rfl rfl (tA rfl) rfl ?_ | refine ldX hO 1 rfl rfl (tA rfl) (tS rfl) ?_ | refine ldC hO 1 rfl rfl (tA rfl) rfl ?_ | refine ldX hO 2 rfl rfl (tA rfl) (tS rfl) ?_ | refine ldC hO 2 rfl rfl (tA rfl) rfl ?_ | refine ldX hO 3 rfl rfl (tA rfl) (tS rfl) ?_ | refine ldC hO 3 rfl rfl (tA rfl) rfl ?_ | refine ldX hO 4 rfl rfl (tA rfl) (tS rfl) ?_ | refine ldC hO 4 rfl rfl (tA rfl) rfl ?_ | refine ldX hO 5 rfl rfl (tA rfl) (tS rfl) ?_ | refine ldC hO 5 rfl rfl (tA rfl) rfl ?_)
            | ((with_reducible refine gStore ?_); first | (refine stX hO 0 rfl rfl rfl rfl rfl (tS rfl) ?_; clear hO; intro ww hO) | (refine stC hO 0 rfl rfl rfl (ltb rfl) rfl (tS rfl) ?_; clear hO; intro ww hO) | (refine stX hO 1 rfl rfl rfl rfl rfl (tS rfl) ?_; clear hO; intro ww hO) | (refine stC hO 1 rfl rfl rfl (ltb rfl) rfl (tS rfl) ?_; clear hO; intro ww hO) | (refine stX hO 2 rfl rfl rfl rfl rfl (tS rfl) ?_; clear hO; intro ww hO) | (refine stC hO 2 rfl rfl rfl (ltb rfl) rfl (tS rfl) ?_; clear hO; intro ww hO) | (refine stX hO 3 rfl rfl rfl rfl rfl (tS rfl) ?_; clear hO; intro ww hO) | (refine stC hO 3 rfl rfl rfl (ltb rfl) rfl (tS rfl) ?_; clear hO; intro ww hO) | (refine stX hO 4 rfl rfl rfl rfl rfl (tS rfl) ?_; clear hO; intro ww hO) | (refine stC hO 4 rfl rfl rfl (ltb rfl) rfl (tS rfl) ?_; clear hO; intro ww hO) | (refine stX hO 5 rfl rfl rfl rfl rfl (tS rfl) ?_; clear hO; intro ww hO) | (refine stC hO 5 rfl rfl rfl (ltb rfl) rfl (tS rfl) ?_; clear hO; intro ww hO)))
          refine wp_region_textS (fun w' => Own w0 w' [.blk rb (.cells (rgC (.slice a6 528 c6) s1 s2 s3) 62 (0,0))]) (fun op => match op with | .load _ _ => true | _ => false) (by kernel_rfl) (by kernel_rfl) (hO.drew.only (by simp)) ?_
          replace hO := hO.drew
          generalize World.drew _ = wd at hO ⊢
          go_wp2_with (first
            | ((with_reducible refine gBld (T := 30) ?_); refine own_bld (#[.int .u8 0, .int .i64 ((v : Int) - 16 + 3), .int .i64 1]) (by kernel_rfl) ?_)
            | ((with_reducible refine gIL ?_); first | refine wpI_ldS (fun w' hS => hS.blk 0 rfl) rfl rfl (tA rfl) (tS rfl) ?_)
            | ((with_reducible refine gStore ?_); first | (refine stX hO 0 rfl rfl rfl rfl rfl (tS rfl) ?_; clear hO; intro ww hO) | (refine stC hO 0 rfl rfl rfl (ltb rfl) rfl (tS rfl) ?_; clear hO; intro ww hO) | (refine stX hO 1 rfl rfl rfl rfl rfl (tS rfl) ?_; clear hO; intro ww hO) | (refine stC hO 1 rfl rfl rfl (ltb rfl) rfl (tS rfl) ?_; clear hO; intro ww hO) | (refine stX hO 2 rfl rfl rfl rfl rfl (tS rfl) ?_; clear hO; intro ww hO) | (refine stC hO 2 rfl rfl rfl (ltb rfl) rfl (tS rfl) ?_; clear hO; intro ww hO) | (refine stX hO 3 rfl rfl rfl rfl rfl (tS rfl) ?_; clear hO; intro ww hO) | (refine stC hO 3 rfl rfl rfl (ltb rfl) rfl (tS rfl) ?_; clear hO; intro ww hO) | (refine stX hO 4 rfl rfl rfl rfl rfl (tS rfl) ?_; clear hO; intro ww hO) | (refine stC hO 4 rfl rfl rfl (ltb rfl) rfl (tS rfl) ?_; clear hO; intro ww hO) | (refine stX hO 5 rfl rfl rfl rfl rfl (tS rfl) ?_; clear hO; intro ww hO) | (refine stC hO 5 rfl rfl rfl (ltb rfl) rfl (tS rfl) ?_; clear hO; intro ww hO))
            | ((with_reducible refine gI ?_); refine wpI_step rfl rfl (by kernel_rfl) ?_; intro K hK; have HK := Lib.hid hK; clear hK) | ((with_reducible refine gI ?_); first | refine wpI_skip rfl ?_ | refine wpI_want rfl ?_) | ((with_reducible refine gOnlyK HK.out ?_ ?_); exact hO.only (by simp); clear HK K; first | (refine wpI_act (by simp only [Act.put, List.setIfInBounds_toArray, List.set_cons_succ, List.set_cons_zero]; rfl) ?_) | skip) | (with_reducible refine wpI_nil ?_))
          have hC : (#[.int .u8 0, .int .i64 ((v : Int) - 16 + 3), .int .i64 1] : Array Value) = Tok.C ⟨0, (v : Int) - 16 + 3, 1⟩ := rfl
          rw [hC] at hO
          refine bodyPost_ret (res_cct rfl _ _ tb _ 30 62 (Tok.C ⟨0, (v : Int) - 16 + 3, 1⟩) (rgC (.slice a6 528 c6) s1 s2 s3) (0,0) (0,0) _ _ rfl (hO.blk 1 rfl) Try.underlying30 rfl its rfl (hO.blk 0 rfl) Try.underlying62 rfl (irg _ _ _ _)) rfl ⟨⟨0, (v : Int) - 16 + 3, 1⟩, a6, c6, _, _, _, rfl, hO.sub (List.Sublist.cons _ (List.Sublist.cons _ (List.Sublist.cons _ (List.Sublist.cons _ (List.Sublist.refl _)))))⟩
        | some y =>
          obtain ⟨d, q⟩ := y
          dsimp only at hz
          subst hz
          obtain ⟨hd1, hd2⟩ := hl2 d q rfl
          have hd3 : 256 ≤ d ∧ d < 512 := by omega
          clear hl2 hd1 hd2
          go_enter Try.func33, Try.ntmps33
          go_wp2_with (first
            | (go_at_call 54; refine (HNX.out _ (hO.rdAt 3 rfl) (hO.rd HBR.out)).mono ?_; rintro e ww ⟨a5, c5, rfl, hb, hr⟩; replace hO := hO.addRow hb hr; clear hb hr)
            | (go_at_call 55; (with_reducible refine gCall #[_, _, .int .i64 4, _] ?_); refine (H4.out _ _ _ _ hO).mono ?_; rintro e ww ⟨a7, c7, rfl, hO2⟩; clear hO; have hO := hO2; clear hO2)
            | (go_at_call 55; (with_reducible refine gCall #[_, _, .int .i64 8, _] ?_); refine (H8.out _ _ _ _ hO).mono ?_; rintro e ww ⟨a6, c6, rfl, hO2⟩; clear hO; have hO := hO2; clear hO2)
            | ((with_reducible refine gBox ?_); first | (refine bxA hO rfl ?_; clear hO; intro rb ww hO) | (refine bx1 hO rfl rfl ?_; clear hO; intro rb ww hO))
            | ((with_reducible refine gAlloc (T := 30) ?_); refine own_alloc hO _ _ itz ?_; clear hO; intro tb ww hO)
            | (((with_reducible refine gAlloc ?_); refine own_alloc hO _ _ irgz ?_; clear hO; intro zb ww hO))
            | ((with_reducible refine gLoad ?_); first | refine ldX hO 0 rfl rfl (tA rfl) (tS rfl) ?_ | refine ldC hO 0 rfl rfl (tA rfl) rfl ?_ | refine ldX hO 1 rfl rfl (tA rfl) (tS rfl) ?_ | refine ldC hO 1 rfl rfl (tA rfl) rfl ?_ | refine ldX hO 2 rfl rfl (tA rfl) (tS rfl) ?_ | refine ldC hO 2 rfl rfl (tA rfl) rfl ?_ | refine ldX hO 3 rfl rfl (tA rfl) (tS rfl) ?_ | refine ldC hO 3 rfl rfl (tA rfl) rfl ?_ | refine ldX hO 4 rfl rfl (tA rfl) (tS rfl) ?_ | refine ldC hO 4 rfl rfl (tA rfl) rfl ?_ | refine ldX hO 5 rfl rfl (tA rfl) (tS rfl) ?_ | refine ldC hO 5 rfl rfl (tA rfl) rfl ?_)
            | ((with_reducible refine gStore ?_); first | (refine stX hO 0 rfl rfl rfl rfl rfl (tS rfl) ?_; clear hO; intro ww hO) | (refine stC hO 0 rfl rfl rfl (ltb rfl) rfl (tS rfl) ?_; clear hO; intro ww hO) | (refine stX hO 1 rfl rfl rfl rfl rfl (tS rfl) ?_; clear hO; intro ww hO) | (refine stC hO 1 rfl rfl rfl (ltb rfl) rfl (tS rfl) ?_; clear hO; intro ww hO) | (refine stX hO 2 rfl rfl rfl rfl rfl (tS rfl) ?_; clear hO; intro ww hO) | (refine stC hO 2 rfl rfl rfl (ltb rfl) rfl (tS rfl) ?_; clear hO; intro ww hO) | (refine stX hO 3 rfl rfl rfl rfl rfl (tS rfl) ?_; clear hO; intro ww hO) | (refine stC hO 3 rfl rfl rfl (ltb rfl) rfl (tS rfl) ?_; clear hO; intro ww hO) | (refine stX hO 4 rfl rfl rfl rfl rfl (tS rfl) ?_; clear hO; intro ww hO) | (refine stC hO 4 rfl rfl rfl (ltb rfl) rfl (tS rfl) ?_; clear hO; intro ww hO) | (refine stX hO 5 rfl rfl rfl rfl rfl (tS rfl) ?_; clear hO; intro ww hO) | (refine stC hO 5 rfl rfl rfl (ltb rfl) rfl (tS rfl) ?_; clear hO; intro ww hO)))
          refine wp_region_textS (fun w' => Own w0 w' [.blk rb (.cells (rgC (.slice a6 528 c6) q.span q.code q.used) 62 (0,0))]) (fun op => match op with | .load _ _ => true | _ => false) (by kernel_rfl) (by kernel_rfl) (hO.drew.only (by simp)) ?_
          replace hO := hO.drew
          generalize World.drew _ = wd at hO ⊢
          go_wp2_with (first
            | ((with_reducible refine gBld (T := 30) ?_); refine own_bld (#[.int .u8 0, .int .i64 ((v : Int) - 16 + 3), .int .i64 ((d : Int) - 256 + 1)]) (by kernel_rfl) ?_)
            | ((with_reducible refine gIL ?_); first | refine wpI_ldS (fun w' hS => hS.blk 0 rfl) rfl rfl (tA rfl) (tS rfl) ?_)
            | ((with_reducible refine gStore ?_); first | (refine stX hO 0 rfl rfl rfl rfl rfl (tS rfl) ?_; clear hO; intro ww hO) | (refine stC hO 0 rfl rfl rfl (ltb rfl) rfl (tS rfl) ?_; clear hO; intro ww hO) | (refine stX hO 1 rfl rfl rfl rfl rfl (tS rfl) ?_; clear hO; intro ww hO) | (refine stC hO 1 rfl rfl rfl (ltb rfl) rfl (tS rfl) ?_; clear hO; intro ww hO) | (refine stX hO 2 rfl rfl rfl rfl rfl (tS rfl) ?_; clear hO; intro ww hO) | (refine stC hO 2 rfl rfl rfl (ltb rfl) rfl (tS rfl) ?_; clear hO; intro ww hO) | (refine stX hO 3 rfl rfl rfl rfl rfl (tS rfl) ?_; clear hO; intro ww hO) | (refine stC hO 3 rfl rfl rfl (ltb rfl) rfl (tS rfl) ?_; clear hO; intro ww hO) | (refine stX hO 4 rfl rfl rfl rfl rfl (tS rfl) ?_; clear hO; intro ww hO) | (refine stC hO 4 rfl rfl rfl (ltb rfl) rfl (tS rfl) ?_; clear hO; intro ww hO) | (refine stX hO 5 rfl rfl rfl rfl rfl (tS rfl) ?_; clear hO; intro ww hO) | (refine stC hO 5 rfl rfl rfl (ltb rfl) rfl (tS rfl) ?_; clear hO; intro ww hO))
            | ((with_reducible refine gI ?_); refine wpI_step rfl rfl (by kernel_rfl) ?_; intro K hK; have HK := Lib.hid hK; clear hK) | ((with_reducible refine gI ?_); first | refine wpI_skip rfl ?_ | refine wpI_want rfl ?_) | ((with_reducible refine gOnlyK HK.out ?_ ?_); exact hO.only (by simp); clear HK K; first | (refine wpI_act (by simp only [Act.put, List.setIfInBounds_toArray, List.set_cons_succ, List.set_cons_zero]; rfl) ?_) | skip) | (with_reducible refine wpI_nil ?_))
          have hC : (#[.int .u8 0, .int .i64 ((v : Int) - 16 + 3), .int .i64 ((d : Int) - 256 + 1)] : Array Value) = Tok.C ⟨0, ((v - 16 + 3 : Nat) : Int), ((d - 256 + 1 : Nat) : Int)⟩ := by
            unfold Tok.C
            rw [show ((v : Int) - 16 + 3) = ((v - 16 + 3 : Nat) : Int) by omega, show ((d : Int) - 256 + 1) = ((d - 256 + 1 : Nat) : Int) by omega]
            rfl
          rw [hC] at hO
          refine bodyPost_ret (res_cct rfl _ _ tb _ 30 62 (Tok.C ⟨0, ((v - 16 + 3 : Nat) : Int), ((d - 256 + 1 : Nat) : Int)⟩) (rgC (.slice a6 528 c6) q.span q.code q.used) (0,0) (0,0) _ _ rfl (hO.blk 2 rfl) Try.underlying30 rfl its rfl (hO.blk 1 rfl) Try.underlying62 rfl (irg _ _ _ _)) rfl ⟨a6, c6, rfl, hO.sub (List.Sublist.cons_cons _ (List.Sublist.cons _ (List.Sublist.cons _ (List.Sublist.cons _ (List.Sublist.cons _ (List.Sublist.refl _))))))⟩
  · obtain rfl : 0 = a := by omega
    have h0 : ¬ Go.Kc.nxtE 528 b r ((0 : Nat) : Int) = 0 := by rw [h]; decide
    have HNX := Lib.hid (fun (w : World) hP hB => rnext_short 528 (by omega) r b hr aP cP aB m cB w hP hB hm 0 (by omega) hno)
    rw [show ((0 : Nat) : Int) = 0 from rfl] at HNX
    unfold Go.Pz.rtok at hz
    rw [if_neg h0] at hz
    subst hz
    clear h hno ha2 ha h0 hBR hr hm
    go_enter Try.func33, Try.ntmps33
    go_wp2_with (first
      | (go_at_call 54; refine (HNX.out _ (hO.rdAt 3 rfl) (hO.rd HBR.out)).mono ?_; rintro e ww ⟨rfl, hb⟩; replace hO := hO.call hb; clear hb)
      | ((with_reducible refine gBox ?_); first | (refine bxA hO rfl ?_; clear hO; intro rb ww hO) | (refine bx1 hO rfl rfl ?_; clear hO; intro rb ww hO))
      | ((with_reducible refine gAlloc (T := 30) ?_); refine own_alloc hO _ _ itz ?_; clear hO; intro tb ww hO)
      | (((with_reducible refine gAlloc ?_); refine own_alloc hO _ _ irgz ?_; clear hO; intro zb ww hO))
      | ((with_reducible refine gLoad ?_); first | refine ldX hO 0 rfl rfl (tA rfl) (tS rfl) ?_ | refine ldC hO 0 rfl rfl (tA rfl) rfl ?_ | refine ldX hO 1 rfl rfl (tA rfl) (tS rfl) ?_ | refine ldC hO 1 rfl rfl (tA rfl) rfl ?_ | refine ldX hO 2 rfl rfl (tA rfl) (tS rfl) ?_ | refine ldC hO 2 rfl rfl (tA rfl) rfl ?_ | refine ldX hO 3 rfl rfl (tA rfl) (tS rfl) ?_ | refine ldC hO 3 rfl rfl (tA rfl) rfl ?_ | refine ldX hO 4 rfl rfl (tA rfl) (tS rfl) ?_ | refine ldC hO 4 rfl rfl (tA rfl) rfl ?_ | refine ldX hO 5 rfl rfl (tA rfl) (tS rfl) ?_ | refine ldC hO 5 rfl rfl (tA rfl) rfl ?_)
      | ((with_reducible refine gStore ?_); first | (refine stX hO 0 rfl rfl rfl rfl rfl (tS rfl) ?_; clear hO; intro ww hO) | (refine stC hO 0 rfl rfl rfl (ltb rfl) rfl (tS rfl) ?_; clear hO; intro ww hO) | (refine stX hO 1 rfl rfl rfl rfl rfl (tS rfl) ?_; clear hO; intro ww hO) | (refine stC hO 1 rfl rfl rfl (ltb rfl) rfl (tS rfl) ?_; clear hO; intro ww hO) | (refine stX hO 2 rfl rfl rfl rfl rfl (tS rfl) ?_; clear hO; intro ww hO) | (refine stC hO 2 rfl rfl rfl (ltb rfl) rfl (tS rfl) ?_; clear hO; intro ww hO) | (refine stX hO 3 rfl rfl rfl rfl rfl (tS rfl) ?_; clear hO; intro ww hO) | (refine stC hO 3 rfl rfl rfl (ltb rfl) rfl (tS rfl) ?_; clear hO; intro ww hO) | (refine stX hO 4 rfl rfl rfl rfl rfl (tS rfl) ?_; clear hO; intro ww hO) | (refine stC hO 4 rfl rfl rfl (ltb rfl) rfl (tS rfl) ?_; clear hO; intro ww hO) | (refine stX hO 5 rfl rfl rfl rfl rfl (tS rfl) ?_; clear hO; intro ww hO) | (refine stC hO 5 rfl rfl rfl (ltb rfl) rfl (tS rfl) ?_; clear hO; intro ww hO)))
    refine wp_region_textS (fun w' => Own w0 w' [.blk rb (.cells (rgC (.slice aP 528 cP) r.span r.code r.used) 62 (0,0))]) (fun op => match op with | .load _ _ => true | _ => false) (by kernel_rfl) (by kernel_rfl) (hO.drew.only (by simp)) ?_
    replace hO := hO.drew
    generalize World.drew _ = wd at hO ⊢
    go_wp2_with (first
      | ((with_reducible refine gBld (T := 30) ?_); refine own_bld (Tok.C ⟨0, 0, 0⟩) (by kernel_rfl) ?_)
      | ((with_reducible refine gIL ?_); first | refine wpI_ldS (fun w' hS => hS.blk 0 rfl) rfl rfl (tA rfl) (tS rfl) ?_)
      | ((with_reducible refine gStore ?_); first | (refine stX hO 0 rfl rfl rfl rfl rfl (tS rfl) ?_; clear hO; intro ww hO) | (refine stC hO 0 rfl rfl rfl (ltb rfl) rfl (tS rfl) ?_; clear hO; intro ww hO) | (refine stX hO 1 rfl rfl rfl rfl rfl (tS rfl) ?_; clear hO; intro ww hO) | (refine stC hO 1 rfl rfl rfl (ltb rfl) rfl (tS rfl) ?_; clear hO; intro ww hO) | (refine stX hO 2 rfl rfl rfl rfl rfl (tS rfl) ?_; clear hO; intro ww hO) | (refine stC hO 2 rfl rfl rfl (ltb rfl) rfl (tS rfl) ?_; clear hO; intro ww hO) | (refine stX hO 3 rfl rfl rfl rfl rfl (tS rfl) ?_; clear hO; intro ww hO) | (refine stC hO 3 rfl rfl rfl (ltb rfl) rfl (tS rfl) ?_; clear hO; intro ww hO) | (refine stX hO 4 rfl rfl rfl rfl rfl (tS rfl) ?_; clear hO; intro ww hO) | (refine stC hO 4 rfl rfl rfl (ltb rfl) rfl (tS rfl) ?_; clear hO; intro ww hO) | (refine stX hO 5 rfl rfl rfl rfl rfl (tS rfl) ?_; clear hO; intro ww hO) | (refine stC hO 5 rfl rfl rfl (ltb rfl) rfl (tS rfl) ?_; clear hO; intro ww hO))
      | ((with_reducible refine gI ?_); refine wpI_step rfl rfl (by kernel_rfl) ?_; intro K hK; have HK := Lib.hid hK; clear hK) | ((with_reducible refine gI ?_); first | refine wpI_skip rfl ?_ | refine wpI_want rfl ?_) | ((with_reducible refine gOnlyK HK.out ?_ ?_); exact hO.only (by simp); clear HK K; first | (refine wpI_act (by simp only [Act.put, List.setIfInBounds_toArray, List.set_cons_succ, List.set_cons_zero]; rfl) ?_) | skip) | (with_reducible refine wpI_nil ?_))
    refine bodyPost_ret (res_cct rfl _ _ tb _ 30 62 (Tok.C ⟨0, 0, 0⟩) (rgC (.slice aP 528 cP) r.span r.code r.used) (0,0) (0,0) _ _ rfl (hO.blk 1 rfl) Try.underlying30 rfl its rfl (hO.blk 0 rfl) Try.underlying62 rfl (irg _ _ _ _)) rfl ⟨⟨0, 0, 0⟩, aP, cP, _, _, _, rfl, hO.tail.tail.tail.tail⟩
  · exfalso; omega
end Go.Proofs.Ytnkpjmcgecdkfaa

/- Walks of the document's one, size, Check, Long. -/
namespace Go.Mt
instance (t : Tok) (n : Nat) : Decidable (t.ok n) := by unfold Tok.ok; infer_instance
theorem ok_zero {t : Tok} {n : Nat} (h : t.len = 0) : decide (t.ok n) = decide (t.dist = 0) := by
  refine decide_eq_decide.2 ?_
  unfold Tok.ok
  constructor
  · rintro (h1 | h1) <;> omega
  · intro h1; exact .inl ⟨h, h1⟩
end Go.Mt
namespace Go.Own
open Go.RowKit Go.Ord
section
variable {P : Program} {ops : Array Oper} {Q : Exit → Act → World → Prop} {a : Act} {w : World} {rest : List Oper}
variable {d : Option Tmp} {ty : TypeId} {pos : String} {aft : Array Edge}
theorem gMax {args : Array Operand} {ats : Array TypeId} (h : wpList P ops Q ({ dst := d, op := .call { callee := .builtin .max, args := args, argTypes := ats }, type := ty, pos := pos, after := aft, guard := none } :: rest) a w) :
    wpList P ops Q ({ dst := d, op := .call { callee := .builtin .max, args := args, argTypes := ats }, type := ty, pos := pos, after := aft, guard := none } :: rest) a w := h
/-- 'max(x, y)' of two numbers: what it is, is told -/
theorem maxV {x y : Operand} {ats : Array TypeId} {k k' : IntKind} {m n : Int} (r : Int) (hr : (if m < n then n else m) = r) (hx : a.eval x = .int k m) (hy : a.eval y = .int k' n)
    (h : wpList P ops Q rest (a.put d (.int k r)) w) :
    wpList P ops Q ({ dst := d, op := .call { callee := .builtin .max, args := #[x, y], argTypes := ats }, type := ty, pos := pos, after := aft, guard := none } :: rest) a w := by
  refine Go.Bva.step_val ?_ h
  subst hr
  simp [execOp, invoke, resolve, builtin, hx, hy, run_max_int2]
end
end Go.Own
namespace Go.Proofs.Ytnkpjmcgecdkfaa
open Go.RowKit Go.Own Go.Bv Go.Ord Go.Eq Go.Mt

set_option maxHeartbeats 1000000 in
theorem rsize_calls (t : Tok) (w : World) (h0 : 0 ≤ t.len) :
    Calls Try.prog 44 #[.agg t.C] w fun e w' => e = .returned (.int .i64 (t.size : Nat)) ∧ Below w.heap.size w w' := by
  have hO := Own.start w
  have HS : Hid ((if t.len < 1 then 1 else t.len) = (t.size : Int)) := by
    show _ = _
    unfold Tok.size
    by_cases h : t.len = 0
    · rw [if_pos h, if_pos (by omega)]; rfl
    · rw [if_neg h, if_neg (by omega)]; omega
  generalize t.size = sz at HS ⊢
  generalize hW : w = wn at hO ⊢
  clear hW w h0
  obtain ⟨lit, len, dist⟩ := t
  dsimp only at HS
  go_enter Try.func44, Try.ntmps44
  go_wp2_with (first
    | ((with_reducible refine gBox ?_); first | (refine bxA hO rfl ?_; clear hO; intro b ww hO) | (refine bx1 hO rfl rfl ?_; clear hO; intro b ww hO))
    | ((with_reducible refine gMax ?_); refine maxV _ HS.out rfl rfl ?_)
    | ((with_reducible refine gLoad ?_); first | refine ldX hO 0 rfl rfl (tA rfl) (tS rfl) ?_ | refine ldC hO 0 rfl rfl (tA rfl) rfl ?_))
  go_ret
  exact ⟨rfl, hO.below⟩

set_option maxHeartbeats 4000000 in
set_option maxRecDepth 100000 in
theorem rone_calls (t : Tok) (M : Nat) (w : World) :
    Calls Try.prog 43 #[.agg t.C, .int .i64 (M : Int)] w fun e w' => e = .returned (.bool (decide (t.ok M))) ∧ Below w.heap.size w w' := by
  have hO := Own.start w
  obtain ⟨B, hB⟩ : ∃ B, decide (t.ok M) = B := ⟨_, rfl⟩
  rw [hB]
  have hl2 := lit_zero (c := t.lit)
  by_cases hz : t.len = 0
  · rw [ok_zero hz] at hB
    obtain ⟨lit, len, dist⟩ := t
    dsimp only at hz hB
    subst hz
    have hb : (dist == 0) = B := by rw [← hB, Bool.eq_iff_iff]; simp
    clear hB hl2
    have HB := Lib.hid hb
    clear hb
    generalize hW : w = wn at hO ⊢
    clear hW w
    go_enter Try.func43, Try.ntmps43
    go_wp2_with (first | ((with_reducible refine gBox ?_); first | (refine bxA hO rfl ?_; clear hO; intro b ww hO) | (refine bx1 hO rfl rfl ?_; clear hO; intro b ww hO)) | ((with_reducible refine gLoad ?_); first | refine ldX hO 0 rfl rfl (tA rfl) (tS rfl) ?_ | refine ldC hO 0 rfl rfl (tA rfl) rfl ?_))
    go_ret
    exact ⟨by rw [← HB.out]; rfl, hO.below⟩
  have e0 : (t.len == 0) = false := by simpa using hz
  have hF : ¬ t.ok M → Hid (B = false) := fun h => by show _ = _; rw [← hB]; exact decide_eq_false h
  generalize hW : w = wn at hO ⊢
  clear hW w
  by_cases c1 : 3 ≤ t.len
  · have e1 : decide (3 ≤ t.len) = true := by simpa using c1
    by_cases c2 : t.len ≤ 18
    · have e2 : decide (t.len ≤ 18) = true := by simpa using c2
      by_cases c3 : 1 ≤ t.dist
      · have e3 : decide (1 ≤ t.dist) = true := by simpa using c3
        by_cases c4 : t.dist ≤ 256
        · have e4 : decide (t.dist ≤ 256) = true := by simpa using c4
          by_cases c5 : t.lit = 0
          · have e5 : ((t.lit.toNat : Int) == 0) = true := by rw [hl2]; exact decide_eq_true c5
            by_cases c6 : t.dist ≤ (M : Int)
            · have e6 : decide (t.dist ≤ (M : Int)) = true := by simpa using c6
              have HB : Hid (B = true) := by show _ = _; rw [← hB]; exact decide_eq_true (.inr ⟨c1, c2, c3, c4, c6, c5⟩)
              obtain ⟨lit, len, dist⟩ := t
              dsimp only at *
              subst c5
              clear hF hB hl2 hz c1 c2 c3 c4 c6
              go_enter Try.func43, Try.ntmps43
              go_wp2_with (first | ((with_reducible refine gBox ?_); first | (refine bxA hO rfl ?_; clear hO; intro b ww hO) | (refine bx1 hO rfl rfl ?_; clear hO; intro b ww hO)) | ((with_reducible refine gG ?_); refine wpList_want rfl ?_) | ((with_reducible refine gLoad ?_); first | refine ldX hO 0 rfl rfl (tA rfl) (tS rfl) ?_ | refine ldC hO 0 rfl rfl (tA rfl) rfl ?_))
              go_ret
              exact ⟨by rw [HB.out]; rfl, hO.below⟩
            · have e6 : decide (t.dist ≤ (M : Int)) = false := by simpa using c6
              have HB := hF (fun h => by rcases h with h | h <;> omega)
              obtain ⟨lit, len, dist⟩ := t
              dsimp only at *
              subst c5
              clear hF hB hl2 hz c1 c2 c3 c4 c6
              go_enter Try.func43, Try.ntmps43
              go_wp2_with (first | ((with_reducible refine gBox ?_); first | (refine bxA hO rfl ?_; clear hO; intro b ww hO) | (refine bx1 hO rfl rfl ?_; clear hO; intro b ww hO)) | ((with_reducible refine gG ?_); refine wpList_want rfl ?_) | ((with_reducible refine gLoad ?_); first | refine ldX hO 0 rfl rfl (tA rfl) (tS rfl) ?_ | refine ldC hO 0 rfl rfl (tA rfl) rfl ?_))
              go_ret
              exact ⟨by rw [HB.out]; rfl, hO.below⟩
          · have e5 : ((t.lit.toNat : Int) == 0) = false := by rw [hl2]; exact decide_eq_false c5
            have HB := hF (fun h => by rcases h with h | h; omega; exact c5 h.2.2.2.2.2)
            obtain ⟨lit, len, dist⟩ := t
            dsimp only at *
            clear hF hB hl2 hz c1 c2 c3 c4 c5
            go_enter Try.func43, Try.ntmps43
            go_wp2_with (first | ((with_reducible refine gBox ?_); first | (refine bxA hO rfl ?_; clear hO; intro b ww hO) | (refine bx1 hO rfl rfl ?_; clear hO; intro b ww hO)) | ((with_reducible refine gG ?_); refine wpList_want rfl ?_) | ((with_reducible refine gLoad ?_); first | refine ldX hO 0 rfl rfl (tA rfl) (tS rfl) ?_ | refine ldC hO 0 rfl rfl (tA rfl) rfl ?_))
            go_ret
            exact ⟨by rw [HB.out]; rfl, hO.below⟩
        · have e4 : decide (t.dist ≤ 256) = false := by simpa using c4
          have HB := hF (fun h => by rcases h with h | h <;> omega)
          obtain ⟨lit, len, dist⟩ := t
          dsimp only at *
          clear hF hB hl2 hz c1 c2 c3 c4
          go_enter Try.func43, Try.ntmps43
          go_wp2_with (first | ((with_reducible refine gBox ?_); first | (refine bxA hO rfl ?_; clear hO; intro b ww hO) | (refine bx1 hO rfl rfl ?_; clear hO; intro b ww hO)) | ((with_reducible refine gG ?_); refine wpList_want rfl ?_) | ((with_reducible refine gLoad ?_); first | refine ldX hO 0 rfl rfl (tA rfl) (tS rfl) ?_ | refine ldC hO 0 rfl rfl (tA rfl) rfl ?_))
          go_ret
          exact ⟨by rw [HB.out]; rfl, hO.below⟩
      · have e3 : decide (1 ≤ t.dist) = false := by simpa using c3
        have HB := hF (fun h => by rcases h with h | h <;> omega)
        obtain ⟨lit, len, dist⟩ := t
        dsimp only at *
        clear hF hB hl2 hz c1 c2 c3
        go_enter Try.func43, Try.ntmps43
        go_wp2_with (first | ((with_reducible refine gBox ?_); first | (refine bxA hO rfl ?_; clear hO; intro b ww hO) | (refine bx1 hO rfl rfl ?_; clear hO; intro b ww hO)) | ((with_reducible refine gG ?_); refine wpList_want rfl ?_) | ((with_reducible refine gLoad ?_); first | refine ldX hO 0 rfl rfl (tA rfl) (tS rfl) ?_ | refine ldC hO 0 rfl rfl (tA rfl) rfl ?_))
        go_ret
        exact ⟨by rw [HB.out]; rfl, hO.below⟩
    · have e2 : decide (t.len ≤ 18) = false := by simpa using c2
      have HB := hF (fun h => by rcases h with h | h <;> omega)
      obtain ⟨lit, len, dist⟩ := t
      dsimp only at *
      clear hF hB hl2 hz c1 c2
      go_enter Try.func43, Try.ntmps43
      go_wp2_with (first | ((with_reducible refine gBox ?_); first | (refine bxA hO rfl ?_; clear hO; intro b ww hO) | (refine bx1 hO rfl rfl ?_; clear hO; intro b ww hO)) | ((with_reducible refine gG ?_); refine wpList_want rfl ?_) | ((with_reducible refine gLoad ?_); first | refine ldX hO 0 rfl rfl (tA rfl) (tS rfl) ?_ | refine ldC hO 0 rfl rfl (tA rfl) rfl ?_))
      go_ret
      exact ⟨by rw [HB.out]; rfl, hO.below⟩
  · have e1 : decide (3 ≤ t.len) = false := by simpa using c1
    have HB := hF (fun h => by rcases h with h | h <;> omega)
    obtain ⟨lit, len, dist⟩ := t
    dsimp only at *
    clear hF hB hl2 hz c1
    go_enter Try.func43, Try.ntmps43
    go_wp2_with (first | ((with_reducible refine gBox ?_); first | (refine bxA hO rfl ?_; clear hO; intro b ww hO) | (refine bx1 hO rfl rfl ?_; clear hO; intro b ww hO)) | ((with_reducible refine gG ?_); refine wpList_want rfl ?_) | ((with_reducible refine gLoad ?_); first | refine ldX hO 0 rfl rfl (tA rfl) (tS rfl) ?_ | refine ldC hO 0 rfl rfl (tA rfl) rfl ?_))
    go_ret
    exact ⟨by rw [HB.out]; rfl, hO.below⟩

set_option maxHeartbeats 4000000 in
set_option maxRecDepth 100000 in
theorem rcheck_calls (a : Option Addr) (n c : Nat) (l : List Tok) (w : World) (hR : Rd w 3 a n c (tks l)) (E : Int) (hok : n ≤ 65536 → okFrom 0 l → E = 0) (hno : 65536 < n ∨ ¬ okFrom 0 l → E = 1) :
    Calls Try.prog 25 #[.slice a n c] w fun e w' => e = .returned (.int .i64 E) ∧ Below w.heap.size w w' := by
  have hO := Own.start w
  have hl : l.length = n := by have := hR.len; rw [tks_length] at this; omega
  have HR := Lib.hid hR
  clear hR
  by_cases hn : 65536 < n
  · have d1 : decide ((65536 : Int) < (n : Int)) = true := by simp; omega
    obtain rfl := hno (.inl hn)
    generalize hW : w = wn at hO ⊢
    clear hW w hok hno hl HR
    go_enter Try.func25, Try.ntmps25
    go_wp2
    go_ret
    exact ⟨rfl, hO.below⟩
  have d1 : decide ((65536 : Int) < (n : Int)) = false := by simp; omega
  have HL := Lib.hid hl
  have HOK := Lib.hid (hok (by omega))
  have HNO : Hid (¬ okFrom 0 l → E = 1) := fun h => hno (.inr h)
  generalize hW : w = wn at hO HR ⊢
  clear hW w hok hno hl
  go_enter Try.func25, Try.ntmps25
  go_wp2
  go_loopg [3, 11] n (fun m s3 s11 wr => ∃ (k : Nat) (M : Nat), m = n - k ∧ k ≤ n ∧ s11 = .int .i64 (k : Int) ∧ s3 = .int .i64 (M : Int) ∧ M = told (l.take k) ∧ okFrom 0 (l.take k) ∧ Own wn wr [])
  case atStart => exact ⟨0, 0, rfl, by omega, rfl, rfl, rfl, by simp [okFrom], hO⟩
  case round =>
    obtain ⟨k, M, rfl, hk, rfl, rfl, hM, hF, hO1⟩ := hrel
    clear hO
    have hO := hO1
    have HM := Lib.hid hM
    have HF := Lib.hid hF
    clear hO1 hM hF
    by_cases c1 : k < n
    · have d2 : decide ((k : Int) < (n : Int)) = true := by simp; omega
      have hMb : M ≤ 18 * k := by rw [HM.out]; exact told_bound HF.out
      have hkl : k < l.length := by rw [HL.out]; exact c1
      have ht := List.getElem?_eq_getElem (l := l) (i := k) hkl
      have hok1 := okFrom_next hkl
      have hto1 := told_next hkl
      have hnot : ¬ (l[k]).ok M → ¬ okFrom 0 l := fun h h0 => h (by
        have := okFrom_take (k + 1) h0
        rw [okFrom_next hkl, ← HM.out] at this
        exact this.2)
      rw [← HM.out] at hok1 hto1
      obtain ⟨t, hte⟩ : ∃ t, l[k] = t := ⟨_, rfl⟩
      rw [hte] at ht hok1 hto1 hnot
      have hone := fun w => rone_calls t M w
      have HT := Lib.hid ht
      clear ht hte hkl
      obtain ⟨b0, off, rfl⟩ := HR.out.place (by omega)
      by_cases h0 : t.ok M
      · rw [decide_eq_true h0] at hone
        have HON := Lib.hid hone
        have hz := Tok.ok_size h0
        have HOK1 := Lib.hid (hok1.2 ⟨HF.out, h0⟩)
        have HZ := Lib.hid (fun w => rsize_calls t w (Tok.ok_len h0).1)
        obtain ⟨sz, hs⟩ : ∃ sz, t.size = sz := ⟨_, rfl⟩
        rw [hs] at HZ hz hto1
        have HTO := Lib.hid hto1
        have hw : wrap64 ((M : Int) + (sz : Int)) = ((M + sz : Nat) : Int) := by unfold wrap64; omega
        clear hok1 hto1 hnot hone h0 hs
        go_wp2_with (first
          | ((with_reducible refine gAlloc (T := 30) ?_); refine own_alloc hO _ _ itz ?_; clear hO; intro bx ww hO)
          | ((with_reducible refine gLoad (T := 30) ?_); first | refine ldX hO 0 rfl rfl (tA rfl) (tS rfl) ?_ | refine ld_tok (hO.rd HR.out) HT.out rfl (by omega) (tA rfl) (tS rfl) ?_)
          | ((with_reducible refine gStore ?_); first | (refine stX hO 0 rfl rfl rfl rfl rfl (tS rfl) ?_; clear hO; intro ww hO) | (refine stC hO 0 rfl rfl rfl (ltb rfl) rfl (tS rfl) ?_; clear hO; intro ww hO))
          | (go_at_call 43; refine (HON.out _).mono ?_; rintro e ww ⟨rfl, hb⟩; replace hO := hO.call hb; clear hb)
          | (go_at_call 44; refine (HZ.out _).mono ?_; rintro e ww ⟨rfl, hb⟩; replace hO := hO.call hb; clear hb))
        go_roundg (n - (k + 1))
        case measure => omega
        case rel => exact ⟨k + 1, M + sz, rfl, by omega, by go_num, by go_num, by rw [HTO.out], HOK1.out, hO.sub (by repeat first | exact List.Sublist.refl _ | apply List.Sublist.cons)⟩
      · rw [decide_eq_false h0] at hone
        have HON := Lib.hid hone
        have HNE := Lib.hid (HNO.out (hnot h0))
        clear hok1 hto1 hnot hone h0
        go_wp2_with (first
          | ((with_reducible refine gAlloc (T := 30) ?_); refine own_alloc hO _ _ itz ?_; clear hO; intro bx ww hO)
          | ((with_reducible refine gLoad (T := 30) ?_); first | refine ldX hO 0 rfl rfl (tA rfl) (tS rfl) ?_ | refine ld_tok (hO.rd HR.out) HT.out rfl (by omega) (tA rfl) (tS rfl) ?_)
          | ((with_reducible refine gStore ?_); first | (refine stX hO 0 rfl rfl rfl rfl rfl (tS rfl) ?_; clear hO; intro ww hO) | (refine stC hO 0 rfl rfl rfl (ltb rfl) rfl (tS rfl) ?_; clear hO; intro ww hO))
          | (go_at_call 43; refine (HON.out _).mono ?_; rintro e ww ⟨rfl, hb⟩; replace hO := hO.call hb; clear hb))
        go_ret
        exact ⟨by rw [HNE.out]; rfl, hO.below⟩
    · obtain rfl : k = n := by omega
      have HA : Hid (l.take k = l) := List.take_of_length_le (by rw [HL.out]; exact Nat.le_refl _)
      have HNE := Lib.hid (HOK.out (by have := HF.out; rwa [HA.out] at this))
      go_wp2
      go_ret
      exact ⟨by rw [HNE.out]; rfl, hO.below⟩

set_option maxHeartbeats 4000000 in
set_option maxRecDepth 100000 in
theorem rlong_calls (a : Option Addr) (n c : Nat) (l : List Tok) (w : World) (hR : Rd w 3 a n c (tks l)) (N E : Int) (hok : n ≤ 65536 → okFrom 0 l → N = told l ∧ E = 0) (hno : 65536 < n ∨ ¬ okFrom 0 l → N = 0 ∧ E = 1) :
    Calls Try.prog 56 #[.slice a n c] w fun e w' => e = .returned (.tuple #[.int .i64 N, .int .i64 E]) ∧ Below w.heap.size w w' := by
  have hO := Own.start w
  have hl : l.length = n := by have := hR.len; rw [tks_length] at this; omega
  have HR := Lib.hid hR
  clear hR
  by_cases hb : 65536 < n ∨ ¬ okFrom 0 l
  · obtain ⟨rfl, rfl⟩ := hno hb
    have HC := Lib.hid (fun w h => rcheck_calls a n c l w h 1 (fun h1 h2 => by rcases hb with hb | hb; omega; exact absurd h2 hb) (fun _ => rfl))
    generalize hW : w = wn at hO HR ⊢
    clear hW w hok hno hl hb
    go_enter Try.func56, Try.ntmps56
    go_wp2_with (first
      | (go_at_call 25; refine (HC.out _ (hO.rd HR.out)).mono ?_; rintro e ww ⟨rfl, hb⟩; replace hO := hO.call hb; clear hb))
    go_ret2
    exact ⟨rfl, hO.below⟩
  have hn : n ≤ 65536 := by omega
  have hF : okFrom 0 l := by
    by_cases h : okFrom 0 l
    · exact h
    · exact absurd (.inr h) hb
  obtain ⟨rfl, rfl⟩ := hok hn hF
  have HC := Lib.hid (fun w h => rcheck_calls a n c l w h 0 (fun _ _ => rfl) (fun h1 => absurd h1 hb))
  have HL := Lib.hid hl
  have HF := Lib.hid hF
  obtain ⟨N, hN⟩ : ∃ N, told l = N := ⟨_, rfl⟩
  have HN := Lib.hid hN
  rw [hN]
  generalize hW : w = wn at hO HR ⊢
  clear hW w hok hno hl hb hF hN
  go_enter Try.func56, Try.ntmps56
  go_wp2_with (first
    | (go_at_call 25; refine (HC.out _ (hO.rd HR.out)).mono ?_; rintro e ww ⟨rfl, hb⟩; replace hO := hO.call hb; clear hb))
  go_loopg [4, 12] n (fun m s4 s12 wr => ∃ (k : Nat) (M : Nat), m = n - k ∧ k ≤ n ∧ s12 = .int .i64 (k : Int) ∧ s4 = .int .i64 (M : Int) ∧ M = told (l.take k) ∧ Own wn wr [])
  case atStart => exact ⟨0, 0, rfl, by omega, rfl, rfl, rfl, hO.sub (List.nil_sublist _)⟩
  case round =>
    obtain ⟨k, M, rfl, hk, rfl, rfl, hM, hO1⟩ := hrel
    clear hO
    have hO := hO1
    have HM := Lib.hid hM
    clear hO1 hM
    by_cases c1 : k < n
    · have d2 : decide ((k : Int) < (n : Int)) = true := by simp; omega
      have hMb : M ≤ 18 * k := by rw [HM.out]; exact told_bound (okFrom_take k HF.out)
      have hkl : k < l.length := by rw [HL.out]; exact c1
      have ht := List.getElem?_eq_getElem (l := l) (i := k) hkl
      have hto1 := told_next hkl
      have h0 := ((okFrom_next hkl).1 (okFrom_take (k + 1) HF.out)).2
      rw [← HM.out] at hto1 h0
      obtain ⟨t, hte⟩ : ∃ t, l[k] = t := ⟨_, rfl⟩
      rw [hte] at ht hto1 h0
      have HT := Lib.hid ht
      clear ht hte hkl
      obtain ⟨b0, off, rfl⟩ := HR.out.place (by omega)
      have hz := Tok.ok_size h0
      have HZ := Lib.hid (fun w => rsize_calls t w (Tok.ok_len h0).1)
      obtain ⟨sz, hs⟩ : ∃ sz, t.size = sz := ⟨_, rfl⟩
      rw [hs] at HZ hz hto1
      have HTO := Lib.hid hto1
      have hw : wrap64 ((M : Int) + (sz : Int)) = ((M + sz : Nat) : Int) := by unfold wrap64; omega
      clear hto1 h0 hs
      go_wp2_with (first
        | ((with_reducible refine gAlloc (T := 30) ?_); refine own_alloc hO _ _ itz ?_; clear hO; intro bx ww hO)
        | ((with_reducible refine gLoad (T := 30) ?_); first | refine ldX hO 0 rfl rfl (tA rfl) (tS rfl) ?_ | refine ld_tok (hO.rd HR.out) HT.out rfl (by omega) (tA rfl) (tS rfl) ?_)
        | ((with_reducible refine gStore ?_); first | (refine stX hO 0 rfl rfl rfl rfl rfl (tS rfl) ?_; clear hO; intro ww hO) | (refine stC hO 0 rfl rfl rfl (ltb rfl) rfl (tS rfl) ?_; clear hO; intro ww hO))
        | (go_at_call 44; refine (HZ.out _).mono ?_; rintro e ww ⟨rfl, hb⟩; replace hO := hO.call hb; clear hb))
      go_roundg (n - (k + 1))
      case measure => omega
      case rel => exact ⟨k + 1, M + sz, rfl, by omega, by go_num, by go_num, by rw [HTO.out], hO.sub (by repeat first | exact List.Sublist.refl _ | apply List.Sublist.cons)⟩
    · obtain rfl : k = n := by omega
      have HA : Hid (l.take k = l) := List.take_of_length_le (by rw [HL.out]; exact Nat.le_refl _)
      have HNE : Hid (M = N) := by show _ = _; rw [HM.out, HA.out, HN.out]
      go_wp2
      go_ret2
      exact ⟨by rw [← HNE.out]; rfl, hO.below⟩
end Go.Proofs.Ytnkpjmcgecdkfaa

/- Walks of the document's tell, Text. -/
namespace Go.Own
open Go.RowKit
theorem Apart.symmM {r s : Res} (h : Apart r s) : Apart s r := fun k h1 h2 => h k h2 h1
/-- the first two the other way round -/
theorem Own.swapM {w0 w : World} {L : List Res} {x y : Res} (h : Own w0 w (x :: y :: L)) : Own w0 w (y :: x :: L) := by
  refine ⟨h.below, fun r hr => h.mem r ?_, ?_⟩
  · simp only [List.mem_cons] at hr ⊢
    rcases hr with h | h | h
    · exact .inr (.inl h)
    · exact .inl h
    · exact .inr (.inr h)
  · obtain ⟨h1, h2⟩ := List.pairwise_cons.1 h.apart
    obtain ⟨h3, h4⟩ := List.pairwise_cons.1 h2
    refine List.pairwise_cons.2 ⟨fun s hs => ?_, List.pairwise_cons.2 ⟨fun s hs => h1 s (List.mem_cons_of_mem _ hs), h4⟩⟩
    rcases List.mem_cons.1 hs with rfl | hs
    · exact (h1 y (List.mem_cons_self)).symmM
    · exact h3 s hs
end Go.Own
namespace Go.Mt
theorem again_next2 (d j : Nat) (b : List (BitVec 8)) (M : Nat) (hb : b.length = M) (hd : 1 ≤ d) (hdM : d ≤ M) : ∃ x, (again d j b)[M + j - d]? = some x ∧ again d (j + 1) b = again d j b ++ [x] := by
  obtain ⟨x, h1, h2⟩ := again_next d j b M hb hd hdM
  exact ⟨x, by rw [show M + j - d = M - d + j by omega]; exact h1, h2⟩
end Go.Mt
namespace Go.Proofs.Ytnkpjmcgecdkfaa
open Go.RowKit Go.Own Go.Bv Go.Ord Go.Eq Go.Mt

set_option maxHeartbeats 4000000 in
set_option maxRecDepth 100000 in
theorem rtell_calls {w0 w : World} {L : List Res} {a : Option Addr} {M c : Nat} {B : List (BitVec 8)} (hO : Own w0 w (.sl 5 1 (.slice a M c) M (u8s B) :: L)) (t : Tok) (h : t.ok M) (hM : M + t.size ≤ 1000000) (N : Nat) (hN : M + t.size = N) (C : List (BitVec 8)) (hC : t.tell B = C) :
    Calls Try.prog 57 #[.slice a M c, .agg t.C] w fun e w' => ∃ a' c', e = .returned (.slice a' N c') ∧ Own w0 w' (.sl 5 1 (.slice a' N c') N (u8s C) :: L) := by
  have hBl : B.length = M := by have := (hO.row 0 rfl).1; rw [u8s_length] at this; omega
  subst hC hN
  rcases h with ⟨h1, h2⟩ | ⟨h1, h2, h3, h4, h5, h6⟩
  · obtain ⟨lit, len, dist⟩ := t
    dsimp only at h1 h2
    subst h1 h2
    have hC : u8s (Tok.tell B ⟨lit, 0, 0⟩) = u8s B ++ u8s [lit] := by unfold Tok.tell u8s; rw [← List.map_append]; rfl
    have hs : M + Tok.size ⟨lit, 0, 0⟩ = M + 1 := rfl
    rw [hC, hs]
    rw [hs] at hM
    clear hC hs hBl
    generalize u8s B = X at hO ⊢
    go_enter Try.func57, Try.ntmps57
    go_wp2_with (first
      | ((with_reducible refine gBox ?_); first | (refine bxA hO rfl ?_; clear hO; intro b ww hO) | (refine bx1 hO rfl rfl ?_; clear hO; intro b ww hO))
      | ((with_reducible refine gLoad ?_); first | refine ldX hO 0 rfl rfl (tA rfl) (tS rfl) ?_ | refine ldC hO 0 rfl rfl (tA rfl) rfl ?_ | refine ldX hO 1 rfl rfl (tA rfl) (tS rfl) ?_ | refine ldC hO 1 rfl rfl (tA rfl) rfl ?_)
      | ((with_reducible refine gBuild (T := 34) ?_); refine own_build hO 34 1 _ eu8m (u8s [lit]).toArray (by omega) (by omega) (by kernel_rfl) rfl ?_; clear hO; intro g2 ww hO)
      | ((with_reducible refine gAppend ?_); refine own_append hO 2 _ _ 34 eu8m rfl rfl rfl (hO.rdAt 0 rfl) (u8s_one _) (M + 1) rfl (by simp [maxLen]; omega) (by omega) ?_; clear hO; intro a2 c2 ww hO))
    go_ret
    exact ⟨a2, c2, rfl, hO.tail.tail⟩
  · obtain ⟨lit, len, dist⟩ := t
    dsimp only at h1 h2 h3 h4 h5 h6
    obtain ⟨Ln, rfl⟩ : ∃ Ln : Nat, len = (Ln : Int) := ⟨len.toNat, by omega⟩
    obtain ⟨D, rfl⟩ : ∃ D : Nat, dist = (D : Int) := ⟨dist.toNat, by omega⟩
    have hs : Tok.size ⟨lit, (Ln : Int), (D : Int)⟩ = Ln := by unfold Tok.size; dsimp only; rw [if_neg (by omega)]; omega
    have hC : Tok.tell B ⟨lit, (Ln : Int), (D : Int)⟩ = again D Ln B := by unfold Tok.tell; dsimp only; rw [if_neg (by omega)]; rfl
    rw [hC, hs]
    rw [hs] at hM
    have hDM : D ≤ M := by omega
    have hD1 : 1 ≤ D := by omega
    have e1 : ((Ln : Int) == 0) = false := by simp; omega
    have HAN : Hid (∀ j, ∃ x, (again D j B)[M + j - D]? = some x ∧ again D (j + 1) B = again D j B ++ [x]) := fun j => again_next2 D j B M hBl hD1 hDM
    clear hC hs hBl h1 h2 h3 h4 h5 h6
    go_enter Try.func57, Try.ntmps57
    go_wp2_with (first
      | ((with_reducible refine gBox ?_); first | (refine bxA hO rfl ?_; clear hO; intro b ww hO) | (refine bx1 hO rfl rfl ?_; clear hO; intro b ww hO))
      | ((with_reducible refine gLoad ?_); first | refine ldX hO 0 rfl rfl (tA rfl) (tS rfl) ?_ | refine ldC hO 0 rfl rfl (tA rfl) rfl ?_))
    clear e1
    replace hO : Own w0 _ (.blk b (.cells (Tok.C ⟨lit, (Ln : Int), (D : Int)⟩) 30 (0,0)) :: .sl 5 1 (.slice a M c) M (u8s B) :: L) := hO
    go_loopg [0, 15] Ln (fun m s0 s15 wr => ∃ (j : Nat) (aJ : Option Addr) (cJ : Nat), m = Ln - j ∧ j ≤ Ln ∧ s15 = .int .i64 (j : Int) ∧ s0 = .slice aJ (M + j) cJ ∧ Own w0 wr (.blk b (.cells (Tok.C ⟨lit, (Ln : Int), (D : Int)⟩) 30 (0,0)) :: .sl 5 1 (.slice aJ (M + j) cJ) (M + j) (u8s (again D j B)) :: L))
    case atStart => exact ⟨0, a, c, rfl, by omega, rfl, rfl, hO⟩
    case round =>
      obtain ⟨j, aJ, cJ, rfl, hj, rfl, rfl, hO1⟩ := hrel
      clear hO
      have hO := hO1
      clear hO1
      by_cases c1 : j < Ln
      · have d1 : decide ((j : Int) < (Ln : Int)) = true := by simp; omega
        obtain ⟨gJ, rfl⟩ := hO.slPlace 1 rfl (by omega)
        obtain ⟨x, hx1, hx2⟩ := HAN.out j
        have HX : Hid ((u8s (again D j B))[M + j - D]? = some (.int .u8 (x.toNat : Int))) := by show _ = _; unfold u8s; rw [List.getElem?_map, hx1]; rfl
        have HX2 : Hid (u8s (again D (j + 1) B) = u8s (again D j B) ++ u8s [x]) := by show _ = _; rw [hx2]; unfold u8s; rw [← List.map_append]
        have hF : ∃ F, M + j - D = F := ⟨_, rfl⟩
        obtain ⟨F, hF⟩ := hF
        rw [hF] at HX
        have e2 : wrap64 ((M : Int) + (j : Int) - (D : Int)) = (F : Int) := by unfold wrap64; omega
        have e3 : (M : Int) + (j : Int) - (D : Int) = (F : Int) := by omega
        have e4 : F < M + j := by omega
        clear hx1 hx2 hF
        generalize u8s (again D j B) = cur at *
        go_wp2_with (first
          | ((with_reducible refine gLoad (T := 5) ?_); refine ld_sl hO 1 rfl rfl HX.out (tA rfl) ?_)
          | ((with_reducible refine gBuild (T := 34) ?_); refine own_build hO 34 1 _ eu8m (u8s [x]).toArray (by omega) (by omega) (by kernel_rfl) rfl ?_; clear hO; intro g2 ww hO)
          | ((with_reducible refine gAppend ?_); refine own_append hO 2 _ _ 34 eu8m rfl rfl rfl (hO.rdAt 0 rfl) (u8s_one _) (M + (j + 1)) (by omega) (by simp [maxLen]; omega) (by omega) ?_; clear hO; intro a2 c2 ww hO)
          | ((with_reducible refine gLoad ?_); first | refine ldX hO 0 rfl rfl (tA rfl) (tS rfl) ?_ | refine ldC hO 0 rfl rfl (tA rfl) rfl ?_))
        go_roundg (Ln - (j + 1))
        case measure => omega
        case rel => exact ⟨j + 1, a2, c2, rfl, by omega, by go_num, rfl, by rw [HX2.out]; exact hO.tail⟩
      · obtain rfl : j = Ln := by omega
        go_wp2
        go_ret
        exact ⟨aJ, cJ, rfl, hO.tail⟩

set_option maxHeartbeats 1000000 in
theorem rtext_bad (a : Option Addr) (n c : Nat) (l : List Tok) (most : Int) (w : World) (hR : Rd w 3 a n c (tks l)) (h : (65536 < n ∨ ¬ okFrom 0 l) ∨ most < 0) :
    Calls Try.prog 34 #[.slice a n c, .int .i64 most] w fun e w' => e = .returned (.tuple #[.slice none 0 0, .int .i64 1]) ∧ Below w.heap.size w w' := by
  have hO := Own.start w
  have HR := Lib.hid hR
  by_cases hb : 65536 < n ∨ ¬ okFrom 0 l
  · have HC := Lib.hid (fun w h => rlong_calls a n c l w h 0 1 (fun h1 h2 => by rcases hb with hb | hb; omega; exact absurd h2 hb) (fun _ => ⟨rfl, rfl⟩))
    clear hR hb h
    generalize hW : w = wn at hO HR ⊢
    clear hW w
    go_enter Try.func34, Try.ntmps34
    go_wp2_with (first
      | (go_at_call 56; refine (HC.out _ (hO.rd HR.out)).mono ?_; rintro e ww ⟨rfl, hb⟩; replace hO := hO.call hb; clear hb))
    go_ret2
    exact ⟨rfl, hO.below⟩
  · have hm : most < 0 := by rcases h with h | h; exact absurd h hb; exact h
    have d1 : decide (most < 0) = true := by simpa using hm
    have HC := Lib.hid (fun w h => rlong_calls a n c l w h (told l) 0 (fun _ _ => ⟨rfl, rfl⟩) (fun h1 => absurd h1 hb))
    clear hR hb h hm
    generalize hW : w = wn at hO HR ⊢
    clear hW w
    generalize told l = N at HC
    go_enter Try.func34, Try.ntmps34
    go_wp2_with (first
      | ((with_reducible refine gG ?_); refine wpList_want rfl ?_)
      | (go_at_call 56; refine (HC.out _ (hO.rd HR.out)).mono ?_; rintro e ww ⟨rfl, hb⟩; replace hO := hO.call hb; clear hb))
    go_ret2
    exact ⟨rfl, hO.below⟩

set_option maxHeartbeats 1000000 in
theorem rtext_long (a : Option Addr) (n c : Nat) (l : List Tok) (most : Int) (w : World) (hR : Rd w 3 a n c (tks l)) (hn : n ≤ 65536) (hk : okFrom 0 l) (hm : 0 ≤ most) (h : most < (told l : Int) ∨ 65536 < told l) :
    Calls Try.prog 34 #[.slice a n c, .int .i64 most] w fun e w' => e = .returned (.tuple #[.slice none 0 0, .int .i64 3]) ∧ Below w.heap.size w w' := by
  have hO := Own.start w
  have HR := Lib.hid hR
  have d1 : decide (most < 0) = false := by simpa using hm
  have HC := Lib.hid (fun w h => rlong_calls a n c l w h (told l) 0 (fun _ _ => ⟨rfl, rfl⟩) (fun h1 => by rcases h1 with h1 | h1; omega; exact absurd hk h1))
  clear hR hk hm
  generalize hW : w = wn at hO HR ⊢
  clear hW w
  generalize told l = N at HC h
  by_cases h1 : most < (N : Int)
  · have d2 : decide (most < (N : Int)) = true := by simpa using h1
    clear h h1
    go_enter Try.func34, Try.ntmps34
    go_wp2_with (first
      | ((with_reducible refine gG ?_); refine wpList_want rfl ?_)
      | (go_at_call 56; refine (HC.out _ (hO.rd HR.out)).mono ?_; rintro e ww ⟨rfl, hb⟩; replace hO := hO.call hb; clear hb))
    go_ret2
    exact ⟨rfl, hO.below⟩
  · have d2 : decide (most < (N : Int)) = false := by simpa using h1
    have d3 : decide ((65536 : Int) < (N : Int)) = true := by simp; omega
    clear h h1
    go_enter Try.func34, Try.ntmps34
    go_wp2_with (first
      | ((with_reducible refine gG ?_); refine wpList_want rfl ?_)
      | (go_at_call 56; refine (HC.out _ (hO.rd HR.out)).mono ?_; rintro e ww ⟨rfl, hb⟩; replace hO := hO.call hb; clear hb))
    go_ret2
    exact ⟨rfl, hO.below⟩

set_option maxHeartbeats 4000000 in
set_option maxRecDepth 100000 in
theorem rtext_ok (a : Option Addr) (n c : Nat) (l : List Tok) (most : Int) (N : Nat) (hN : told l = N) (w : World) (hR : Rd w 3 a n c (tks l)) (hn : n ≤ 65536) (hk : okFrom 0 l) (hm : (N : Int) ≤ most) (h6 : N ≤ 65536) :
    Calls Try.prog 34 #[.slice a n c, .int .i64 most] w fun e w' => ∃ a' c', e = .returned (.tuple #[.slice a' N c', .int .i64 0]) ∧ Below w.heap.size w w' ∧ w'.ownsRow w.heap.size 5 1 (.slice a' N c') N (u8s (text l)) := by
  have hO := Own.start w
  have HR := Lib.hid hR
  have HL : Hid (l.length = n) := by have := hR.len; rw [tks_length] at this; show _ = _; omega
  have d1 : decide (most < 0) = false := by simp; omega
  have HC := Lib.hid (fun w h => rlong_calls a n c l w h (N : Int) 0 (fun _ _ => ⟨by rw [hN], rfl⟩) (fun h1 => by rcases h1 with h1 | h1; omega; exact absurd hk h1))
  have d2 : decide (most < (N : Int)) = false := by simp; omega
  have d3 : decide ((65536 : Int) < (N : Int)) = false := by simp; omega
  have HK := Lib.hid hk
  have HN := Lib.hid hN
  clear hR hm hk hN
  generalize hW : w = wn at hO HR ⊢
  clear hW w
  go_enter Try.func34, Try.ntmps34
  go_wp2_with (first
    | ((with_reducible refine gG ?_); refine wpList_want rfl ?_)
    | (go_at_call 56; refine (HC.out _ (hO.rd HR.out)).mono ?_; rintro e ww ⟨rfl, hb⟩; replace hO := hO.call hb; clear hb))
  clear d1 d2 d3 HC
  replace hO : Own wn _ [.sl 5 1 (.slice none 0 0) 0 (u8s [])] := hO.add (Below.refl _ _) (World.ownsRow_nil _ _ _ _)
  go_loopg [8, 31] n (fun m s8 s31 wr => ∃ (k M : Nat) (aO : Option Addr) (cO : Nat), m = n - k ∧ k ≤ n ∧ s31 = .int .i64 (k : Int) ∧ s8 = .slice aO M cO ∧ M = told (l.take k) ∧ Own wn wr [.sl 5 1 (.slice aO M cO) M (u8s (text (l.take k)))])
  case atStart => exact ⟨0, 0, none, 0, rfl, by omega, rfl, rfl, rfl, hO⟩
  case round =>
    obtain ⟨k, M, aO, cO, rfl, hkn, rfl, rfl, hM, hO1⟩ := hrel
    clear hO
    have hO := hO1
    have HM := Lib.hid hM
    clear hO1 hM
    by_cases c1 : k < n
    · have d1 : decide ((k : Int) < (n : Int)) = true := by simp; omega
      have hkl : k < l.length := by rw [HL.out]; exact c1
      have ht := List.getElem?_eq_getElem (l := l) (i := k) hkl
      have hto := told_next hkl
      have htx := text_next hkl
      have hto2 := told_take_le l (k + 1)
      have hokk := (okFrom_next hkl).1 (okFrom_take (k + 1) HK.out)
      rw [← HM.out] at hto hokk
      rw [HN.out] at hto2
      obtain ⟨t, hte⟩ : ∃ t, l[k] = t := ⟨_, rfl⟩
      rw [hte] at ht hto htx hokk
      have HT := Lib.hid ht
      have hok := hokk.2
      obtain ⟨b0, off, rfl⟩ := HR.out.place (by omega)
      have HTE := fun (wx : World) (Lx : List Res) (hOx : Own wn wx (.sl 5 1 (.slice aO M cO) M (u8s (text (l.take k))) :: Lx)) => rtell_calls hOx t hok (by omega) (told (l.take (k + 1))) (by rw [hto]) (text (l.take (k + 1))) htx.symm
      have HTELL := Lib.hid HTE
      clear ht hte hkl hokk hto htx hto2 hok HTE
      go_wp2_with (first
        | ((with_reducible refine gAlloc (T := 30) ?_); refine own_alloc hO _ _ itz ?_; clear hO; intro bx ww hO)
        | ((with_reducible refine gLoad (T := 30) ?_); first | refine ldX hO 0 rfl rfl (tA rfl) (tS rfl) ?_ | refine ld_tok (hO.rd HR.out) HT.out rfl (by omega) (tA rfl) (tS rfl) ?_)
        | ((with_reducible refine gStore ?_); first | (refine stX hO 0 rfl rfl rfl rfl rfl (tS rfl) ?_; clear hO; intro ww hO) | (refine stC hO 0 rfl rfl rfl (ltb rfl) rfl (tS rfl) ?_; clear hO; intro ww hO))
        | (go_at_call 57; refine (HTELL.out _ _ hO.swapM).mono ?_; clear hO; rintro e ww ⟨a2, c2, rfl, hO⟩))
      go_roundg (n - (k + 1))
      case measure => omega
      case rel => exact ⟨k + 1, _, a2, c2, rfl, by omega, by go_num, rfl, rfl, hO.mem1 (by simp)⟩
    · obtain rfl : k = n := by omega
      have HA : Hid (l.take k = l) := List.take_of_length_le (by rw [HL.out]; exact Nat.le_refl _)
      rw [HA.out] at HM
      rw [HN.out] at HM
      obtain rfl := HM.out
      rw [HA.out] at hO
      go_wp2
      go_ret2
      exact ⟨aO, cO, rfl, hO.below, hO.row 0 rfl⟩
end Go.Proofs.Ytnkpjmcgecdkfaa

/- The walk of match.Find. -/
namespace Go.Mt
def findT (n : Nat) (bs : List (BitVec 8)) (x : Int) : Tok := if 65536 < n then zT else if x < 0 ∨ (n : Int) ≤ x then zT else if 3 ≤ (found bs x.toNat).1 then ⟨0, (found bs x.toNat).1, (found bs x.toNat).2⟩ else zT
def findE (n : Nat) (bs : List (BitVec 8)) (x : Int) : Int := if 65536 < n then 3 else if x < 0 ∨ (n : Int) ≤ x then 1 else if 3 ≤ (found bs x.toNat).1 then 0 else 4
end Go.Mt
namespace Go.Proofs.Ytnkpjmcgecdkfaa
open Go.RowKit Go.Own Go.Bv Go.Ord Go.Eq Go.Mt

end Go.Proofs.Ytnkpjmcgecdkfaa

/- Walks of the document's Find, Tokens. -/
namespace Go.Mt
theorem agree_tell {b : List (BitVec 8)} {d p n : Nat} (hd : 1 ≤ d) (hdp : d ≤ p) (hn : 3 ≤ n) (hl : p + n ≤ b.length) : (Tok.tell (b.take p) ⟨0, (n : Int), (d : Int)⟩ = b.take (p + n)) ↔ agree b d p n := by
  have hp : (b.take p).length = p := by rw [List.length_take]; omega
  have ht : Tok.tell (b.take p) ⟨0, (n : Int), (d : Int)⟩ = again d n (b.take p) := by unfold Tok.tell; dsimp only; rw [if_neg (by omega)]; rfl
  rw [ht]
  constructor
  · intro h i hi
    refine ⟨by omega, ?_⟩
    have hg := again_get d (b.take p) hd n (p + i) (by omega) (by omega)
    rw [h] at hg
    have e : ∀ j, j < p + n → (b.take (p + n)).getD j 0 = b.getD j 0 := fun j hj => by
      rw [List.getD_eq_getElem?_getD, List.getElem?_take_of_lt hj, ← List.getD_eq_getElem?_getD]
    rw [e _ (by omega), e _ (by omega)] at hg
    exact hg
  · intro h
    exact again_of d (b.take p) b p hp hd hdp rfl n hl (fun i h1 h2 => by
      have := (h (i - p) (by omega)).2
      rwa [show p + (i - p) = i by omega] at this)
/-- what the document's search has not found yet: nothing longer, and nothing nearer of that length -/
def notYet (b : List (BitVec 8)) (p n d : Nat) : Prop := (∀ m e, n < m → m ≤ 18 → 1 ≤ e → e ≤ 256 → e ≤ p → ¬ agree b e p m) ∧ (∀ e, 1 ≤ e → e < d → e ≤ 256 → e ≤ p → ¬ agree b e p n)
theorem notYet_start (b : List (BitVec 8)) (p : Nat) : notYet b p 18 1 := ⟨fun m e h1 h2 => by omega, fun e h1 h2 => by omega⟩
theorem notYet_d {b : List (BitVec 8)} {p n d : Nat} (h : notYet b p n d) (hd : 1 ≤ d) (ha : ¬ agree b d p n) : notYet b p n (d + 1) :=
  ⟨h.1, fun e h1 h2 h3 h4 => by
    rcases Nat.lt_or_ge e d with h5 | h5
    · exact h.2 e h1 h5 h3 h4
    · obtain rfl : e = d := by omega
      exact ha⟩
theorem notYet_n {b : List (BitVec 8)} {p n d : Nat} (h : notYet b p (n + 1) d) (hd : 256 < d ∨ p < d ∨ b.length < p + (n + 1)) : notYet b p n 1 :=
  ⟨fun m e h1 h2 h3 h4 h5 => by
    rcases Nat.lt_or_ge (n + 1) m with h6 | h6
    · exact h.1 m e h6 h2 h3 h4 h5
    · obtain rfl : m = n + 1 := by omega
      rcases Nat.lt_or_ge e d with h7 | h7
      · exact h.2 e h3 h7 h4 h5
      · rcases hd with hd | hd | hd
        · omega
        · omega
        · intro ha
          have := (ha n (by omega)).1
          omega, fun e h1 h2 => by omega⟩
theorem notYet_hit {b : List (BitVec 8)} {p n d : Nat} (h : notYet b p n d) (hn : 3 ≤ n) (hn8 : n ≤ 18) (hd : 1 ≤ d) (hd2 : d ≤ 256) (hdp : d ≤ p) (ha : agree b d p n) : found b p = (n, d) := by
  obtain ⟨h1, h2, h3, h4, h5⟩ := best_spec b p (min 256 p)
  have hb : found b p = best b p (min 256 p) := rfl
  rw [hb]
  have hc := com_max ha 18 hn8
  have hd4 := h4 d hd (by omega)
  have hpos : 1 ≤ (best b p (min 256 p)).2 ∧ 1 ≤ (best b p (min 256 p)).1 ∧ (best b p (min 256 p)).1 = com b (best b p (min 256 p)).2 p 18 := by
    rcases h3 with h3 | h3
    · omega
    · exact h3
  have hag := com_agree b (best b p (min 256 p)).2 p 18
  rw [← hpos.2.2] at hag
  have hle : (best b p (min 256 p)).1 ≤ n := by
    rcases Nat.lt_or_ge n (best b p (min 256 p)).1 with h6 | h6
    · exact absurd hag (h.1 _ _ h6 h1 hpos.1 (by omega) (by omega))
    · exact h6
  have heq : (best b p (min 256 p)).1 = n := by omega
  rw [heq] at hag
  have hd5 : d ≤ (best b p (min 256 p)).2 := by
    rcases Nat.lt_or_ge (best b p (min 256 p)).2 d with h6 | h6
    · exact absurd hag (h.2 _ hpos.1 h6 (by omega) (by omega))
    · exact h6
  have hd6 : (best b p (min 256 p)).2 ≤ d := by
    rcases Nat.lt_or_ge d (best b p (min 256 p)).2 with h6 | h6
    · have := h5 d hd h6; omega
    · exact h6
  exact Prod.ext heq (by show (best b p (min 256 p)).2 = d; omega)
theorem notYet_end {b : List (BitVec 8)} {p : Nat} (h : notYet b p 2 1) : ¬ 3 ≤ (found b p).1 := by
  intro h3
  obtain ⟨h1, h2, h4, _, _⟩ := best_spec b p (min 256 p)
  have hb : found b p = best b p (min 256 p) := rfl
  have ha := found_agree b p
  rw [hb] at h3 ha
  exact h.1 _ _ (by omega) h1 (by rcases h4 with h4 | h4 <;> omega) (by omega) (by omega) ha
end Go.Mt
namespace Go.Proofs.Ytnkpjmcgecdkfaa
open Go.RowKit Go.Own Go.Bv Go.Ord Go.Eq Go.Mt

theorem gIC {ops : Array Oper} {S : World → Prop} {st : Op → Bool} {Q : Exit → Act → World → Prop} {rest : List Oper} {a : Act} {w : World} {d : Option Tmp} {s t : TypeId} {x : Operand} {ty : TypeId} {pos : String} {aft : Array Edge}
    (h : wpI Try.prog ops S st Q ({ dst := d, op := .convert s t x, type := ty, pos := pos, after := aft, guard := none } :: rest) a w) : wpI Try.prog ops S st Q ({ dst := d, op := .convert s t x, type := ty, pos := pos, after := aft, guard := none } :: rest) a w := h
theorem m_fi : flatInt Try.prog 34 = false := by kernel_rfl
theorem u8s_take' (b : List (BitVec 8)) (n : Nat) : (u8s b).take n = u8s (b.take n) := by unfold u8s; rw [List.map_take]

set_option maxHeartbeats 4000000 in
set_option maxRecDepth 100000 in
theorem rfind_in (a : Option Addr) (n cap : Nat) (bs : List (BitVec 8)) (p : Nat) (w : World) (hR : Rd w 1 a n cap (u8s bs)) (hn : n ≤ 65536) (hp : p < n) (T : Tok) (E : Int) (hT : findT n bs p = T) (hE : findE n bs p = E) :
    Calls Try.prog 45 #[.slice a n cap, .int .i64 (p : Int)] w fun e w' => e = .returned (.tuple #[.agg T.C, .int .i64 E]) ∧ Below w.heap.size w w' := by
  have hO := Own.start w
  have hlen : bs.length = n := by have := hR.len; rw [u8s_length] at this; omega
  have d1 : decide ((65536 : Int) < (n : Int)) = false := by simp; omega
  have d2 : decide ((p : Int) < 0) = false := by simp
  have d3 : decide ((n : Int) ≤ (p : Int)) = false := by simp; omega
  have d3' : decide (n ≤ p) = false := by simp; omega
  have HL := Lib.hid hlen
  have HR := Lib.hid hR
  have hcap := hR.le
  have htp := hR.take p (by omega)
  rw [Nat.mul_one, u8s_take'] at htp
  have HRP := Lib.hid htp
  have HT := Lib.hid hT
  have HE := Lib.hid hE
  obtain ⟨b0, off, rfl⟩ := hR.place (by omega)
  clear hR htp hT hE hlen
  generalize hW : w = wn at hO HR HRP ⊢
  clear hW w
  go_enter Try.func45, Try.ntmps45
  go_wp2_with (first
    | ((with_reducible refine gG ?_); refine wpList_want rfl ?_)
    | ((with_reducible refine gAlloc (T := 30) ?_); refine own_alloc hO _ _ itz ?_; clear hO; intro bx ww hO))
  go_loopg [6] 18 (fun m s6 wr => ∃ k : Nat, m = k ∧ 2 ≤ k ∧ k ≤ 18 ∧ s6 = .int .i64 (k : Int) ∧ notYet bs p k 1 ∧ Own wn wr [.blk bx (.cells zT.C 30 (0,0))])
  case atStart => exact ⟨18, rfl, by omega, by omega, rfl, notYet_start _ _, hO⟩
  case round =>
    obtain ⟨k, hgk, hk2, hk8, rfl, hny, hO1⟩ := hrel
    clear hO
    have hO := hO1
    have HNY := Lib.hid hny
    have HGK := Lib.hid hgk
    clear hO1 hny hgk
    by_cases c1 : 3 ≤ k
    · have e1 : decide ((3 : Int) ≤ (k : Int)) = true := by simp; omega
      have HK9 : Hid (((k - 1 : Nat) : Int) = (k : Int) - 1) := by show _ = _; omega
      go_wp2
      go_loopg [7] 256 (fun m s7 wq => ∃ d : Nat, m = 257 - d ∧ 1 ≤ d ∧ d ≤ 257 ∧ s7 = .int .i64 (d : Int) ∧ notYet bs p (k) d ∧ Own wn wq [.blk bx (.cells zT.C 30 (0,0))])
      case atStart => exact ⟨1, rfl, by omega, by omega, rfl, HNY.out, hO⟩
      case round =>
        obtain ⟨d, rfl, hd1, hd2, rfl, hny2, hO1⟩ := hrel
        clear hO
        have hO := hO1
        have HND := Lib.hid hny2
        clear hO1 hny2
        by_cases c2 : d ≤ 256 ∧ d ≤ p ∧ k ≤ n - p
        · obtain ⟨c21, c22, c23⟩ := c2
          have f1 : decide ((d : Int) ≤ 256) = true := by simp; omega
          have f2 : decide ((d : Int) ≤ (p : Int)) = true := by simp; omega
          have f2' : decide (d ≤ p) = true := by simp; omega
          have f3 : decide ((k : Int) ≤ (n : Int) - (p : Int)) = true := by simp; omega
          have hag := agree_tell (b := bs) (d := d) (p := p) (n := k) hd1 c22 c1 (by rw [HL.out]; omega)
          have htok : (Tok.ok ⟨0, (k : Int), (d : Int)⟩ p) := .inr ⟨by dsimp only; omega, by dsimp only; omega, by dsimp only; omega, by dsimp only; omega, by dsimp only; omega, rfl⟩
          have hsz : Tok.size ⟨0, (k : Int), (d : Int)⟩ = k := by unfold Tok.size; dsimp only; rw [if_neg (by omega)]; omega
          obtain ⟨C, hC⟩ : ∃ C, Tok.tell (bs.take p) ⟨0, (k : Int), (d : Int)⟩ = C := ⟨_, rfl⟩
          have hte := fun (wx : World) (ax : Option Addr) (cx : Nat) (Lx : List Res) (hOx : Own wn wx (.sl 5 1 (.slice ax p cx) p (u8s (bs.take p)) :: Lx)) => rtell_calls hOx ⟨0, (k : Int), (d : Int)⟩ htok (by rw [hsz]; omega) (p + (k)) (by rw [hsz]) C hC
          rw [hC] at hag
          obtain ⟨D, hD⟩ : ∃ D, bs.take (p + (k)) = D := ⟨_, rfl⟩
          rw [hD] at hag
          have htd := HR.out.take (p + (k)) (by omega)
          rw [Nat.mul_one, u8s_take', hD] at htd
          have HTD := Lib.hid htd
          have HTE := Lib.hid hte
          have HAG := Lib.hid hag
          have e2 : wrap64 ((p : Int) + ((k : Int))) = (p : Int) + ((k : Int)) := by unfold wrap64; omega
          have g1 : p + (k) ≤ cap := by omega
          clear htok hsz hC hte hag hD htd
          go_wp2_with (first
            | ((with_reducible refine gG ?_); refine wpList_want rfl ?_)
            | ((with_reducible refine gBld (T := 30) ?_); refine own_bld (Tok.C ⟨0, (k : Int), (d : Int)⟩) (by kernel_rfl) ?_)
            | ((with_reducible refine gAlloc (T := 30) ?_); refine own_alloc hO _ _ itz ?_; clear hO; intro bt ww hO)
            | ((with_reducible refine gStore ?_); first | (refine stX hO 0 rfl rfl rfl rfl rfl (tS rfl) ?_; clear hO; intro ww hO) | (refine stC hO 0 rfl rfl rfl (ltb rfl) rfl (tS rfl) ?_; clear hO; intro ww hO)))
          replace hO : Own wn _ [.blk bt (.cells (Tok.C ⟨0, (k : Int), (d : Int)⟩) 30 (0,0)), .blk bx (.cells zT.C 30 (0,0))] := hO
          refine wp_region_textS (fun w' => Own wn w' [.blk bt (.cells (Tok.C ⟨0, (k : Int), (d : Int)⟩) 30 (0,0))]) (fun op => match op with | .load _ _ => true | _ => false) (by kernel_rfl) (by kernel_rfl) (hO.drew.mem1 (by simp)) ?_
          replace hO := hO.drew
          generalize World.drew _ = wd at hO ⊢
          go_wp2_with (first
            | (((with_reducible refine gIL ?_); first | refine wpI_ldS (fun w' hS => hS.blk 0 rfl) rfl rfl (tA rfl) (tS rfl) ?_); first | (refine wpI_act (by simp only [Act.put, List.setIfInBounds_toArray, List.set_cons_succ, List.set_cons_zero]; rfl) ?_) | skip)
            | ((with_reducible refine gAppendNil ?_); refine own_appendNil hO _ _ 34 eu8m rfl rfl (hO.rd HRP.out) (u8s_one _) (by simp [maxLen]; omega) (by omega) ?_; clear hO; intro a5 c5 ww hO)
            | (go_at_call 57; refine (HTE.out _ _ _ _ hO).mono ?_; clear hO; rintro e ww ⟨a2, c2, rfl, hO⟩)
            | ((with_reducible refine gI ?_); refine wpI_step rfl rfl (by kernel_rfl) ?_; intro K hK; have HK := Lib.hid hK; clear hK) | ((with_reducible refine gI ?_); first | refine wpI_skip rfl ?_ | refine wpI_want rfl ?_) | ((with_reducible refine gOnlyK HK.out ?_ ?_); exact hO.mem1 (by simp); clear HK K; first | (refine wpI_act (by simp only [Act.put, List.setIfInBounds_toArray, List.set_cons_succ, List.set_cons_zero]; rfl) ?_) | skip) | (with_reducible refine wpI_nil ?_))
          replace hO : Own wn _ [.sl 5 1 (.slice a2 (p + (k)) c2) (p + (k)) (u8s C), .blk bt (.cells (Tok.C ⟨0, (k : Int), (d : Int)⟩) 30 (0,0)), .blk bx (.cells zT.C 30 (0,0))] := hO
          have hcv1 : ∀ w', Own wn w' [.sl 5 1 (.slice a2 (p + (k)) c2) (p + (k)) (u8s C), .blk bt (.cells (Tok.C ⟨0, (k : Int), (d : Int)⟩) 30 (0,0)), .blk bx (.cells zT.C 30 (0,0))] → (convert 34 9 (.slice a2 (p + (k)) c2)).run Try.prog w' = .ok (.string (strB C)) w' :=
            fun w' hS => run_bytes_string w' Try.underlying34 Try.underlying5 Try.underlying9 (hS.rdAt 0 rfl)
          have hcv2 : ∀ w', Own wn w' [.sl 5 1 (.slice a2 (p + (k)) c2) (p + (k)) (u8s C), .blk bt (.cells (Tok.C ⟨0, (k : Int), (d : Int)⟩) 30 (0,0)), .blk bx (.cells zT.C 30 (0,0))] → (convert 34 9 (.slice (some ⟨b0, off, none⟩) (p + (k)) cap)).run Try.prog w' = .ok (.string (strB D)) w' :=
            fun w' hS => run_bytes_string w' Try.underlying34 Try.underlying5 Try.underlying9 (hS.rd HTD.out)
          have HV1 := Lib.hid hcv1
          have HV2 := Lib.hid hcv2
          clear hcv1 hcv2
          refine wp_region_textS (fun w' => Own wn w' [.sl 5 1 (.slice a2 (p + (k)) c2) (p + (k)) (u8s C), .blk bt (.cells (Tok.C ⟨0, (k : Int), (d : Int)⟩) 30 (0,0)), .blk bx (.cells zT.C 30 (0,0))]) (fun op => match op with | .convert _ _ _ => true | _ => false) (by kernel_rfl) (by kernel_rfl) hO.drew ?_
          replace hO := hO.drew
          generalize World.drew _ = wd at hO ⊢
          by_cases hCD : C = D
          · have hq : ((strB C).toList == (strB D).toList) = true := by rw [strB_beq]; exact decide_eq_true hCD
            have hag := HAG.out.1 hCD
            have hfd := notYet_hit HND.out c1 hk8 hd1 c21 c22 hag
            have HRES : Hid (T = ⟨0, (k : Int), (d : Int)⟩ ∧ E = 0) := by
              refine ⟨?_, ?_⟩
              · rw [← HT.out]; unfold findT; rw [if_neg (by omega), if_neg (by omega), Int.toNat_natCast, hfd, if_pos c1]
              · rw [← HE.out]; unfold findE; rw [if_neg (by omega), if_neg (by omega), Int.toNat_natCast, hfd, if_pos c1]
            clear hag hfd hCD
            go_wp2_with (first
              | ((with_reducible refine gIC ?_); first | refine wpI_steady (.string (strB C)) rfl rfl (ok_convS m_fi) (fun w' hS => run_value rfl (HV1.out w' hS)) ?_ | refine wpI_steady (.string (strB D)) rfl rfl (ok_convS m_fi) (fun w' hS => run_value rfl (HV2.out w' hS)) ?_; first | (refine wpI_act (by simp only [Act.put, List.setIfInBounds_toArray, List.set_cons_succ, List.set_cons_zero]; rfl) ?_) | skip)
              | ((with_reducible refine gLoad (T := 30) ?_); refine ldX hO 1 rfl rfl (tA rfl) (tS rfl) ?_)
              | ((with_reducible refine gStore (T := 30) ?_); refine stX hO 2 rfl rfl rfl rfl rfl (tS rfl) ?_; clear hO; intro ww hO)
              | ((with_reducible refine gI ?_); refine wpI_step rfl rfl (by kernel_rfl) ?_; intro K hK; have HK := Lib.hid hK; clear hK) | ((with_reducible refine gI ?_); first | refine wpI_skip rfl ?_ | refine wpI_want rfl ?_) | ((with_reducible refine gOnlyK HK.out ?_ ?_); exact hO; clear HK K; first | (refine wpI_act (by simp only [Act.put, List.setIfInBounds_toArray, List.set_cons_succ, List.set_cons_zero]; rfl) ?_) | skip) | (with_reducible refine wpI_nil ?_))
            rw [HRES.out.1, HRES.out.2]
            refine bodyPost_ret (res_ct rfl _ _ bx 30 (Tok.C ⟨0, (k : Int), (d : Int)⟩) (0,0) _ rfl (hO.blk 2 rfl) Try.underlying30 rfl (its' _)) rfl ⟨rfl, hO.below⟩
          · have hq : ((strB C).toList == (strB D).toList) = false := by rw [strB_beq]; exact decide_eq_false hCD
            have HNX := Lib.hid (notYet_d HND.out hd1 (fun ha => hCD (HAG.out.2 ha)))
            clear hCD
            go_wp2_with (first
              | ((with_reducible refine gIC ?_); first | refine wpI_steady (.string (strB C)) rfl rfl (ok_convS m_fi) (fun w' hS => run_value rfl (HV1.out w' hS)) ?_ | refine wpI_steady (.string (strB D)) rfl rfl (ok_convS m_fi) (fun w' hS => run_value rfl (HV2.out w' hS)) ?_; first | (refine wpI_act (by simp only [Act.put, List.setIfInBounds_toArray, List.set_cons_succ, List.set_cons_zero]; rfl) ?_) | skip)
              | ((with_reducible refine gI ?_); refine wpI_step rfl rfl (by kernel_rfl) ?_; intro K hK; have HK := Lib.hid hK; clear hK) | ((with_reducible refine gI ?_); first | refine wpI_skip rfl ?_ | refine wpI_want rfl ?_) | ((with_reducible refine gOnlyK HK.out ?_ ?_); exact hO; clear HK K; first | (refine wpI_act (by simp only [Act.put, List.setIfInBounds_toArray, List.set_cons_succ, List.set_cons_zero]; rfl) ?_) | skip) | (with_reducible refine wpI_nil ?_))
            go_roundg (257 - (d + 1))
            case measure => omega
            case rel => exact ⟨d + 1, rfl, by omega, by omega, by go_num, HNX.out, hO.tail.tail⟩
        · have HNX : Hid (notYet bs p (k - 1) 1) := notYet_n (n := k - 1) (d := d) (by rw [show k - 1 + 1 = k by omega]; exact HND.out) (by rw [HL.out]; omega)
          by_cases c21 : d ≤ 256
          · have f1 : decide ((d : Int) ≤ 256) = true := by simp; omega
            by_cases c22 : d ≤ p
            · have f2 : decide ((d : Int) ≤ (p : Int)) = true := by simp; omega
              have f2' : decide (d ≤ p) = true := by simp; omega
              have f3 : decide ((k : Int) ≤ (n : Int) - (p : Int)) = false := by simp; omega
              clear c2
              go_wp2_with (first | ((with_reducible refine gG ?_); refine wpList_want rfl ?_))
              go_roundg (k - 1)
              case measure => have := HGK.out; omega
              case rel => exact ⟨k - 1, rfl, by omega, by omega, by rw [HK9.out], HNX.out, hO⟩
            · have f2 : decide ((d : Int) ≤ (p : Int)) = false := by simp; omega
              have f2' : decide (d ≤ p) = false := by simp; omega
              clear c2
              go_wp2_with (first | ((with_reducible refine gG ?_); refine wpList_want rfl ?_))
              go_roundg (k - 1)
              case measure => have := HGK.out; omega
              case rel => exact ⟨k - 1, rfl, by omega, by omega, by rw [HK9.out], HNX.out, hO⟩
          · have f1 : decide ((d : Int) ≤ 256) = false := by simp; omega
            clear c2
            go_wp2_with (first | ((with_reducible refine gG ?_); refine wpList_want rfl ?_))
            go_roundg (k - 1)
            case measure => have := HGK.out; omega
            case rel => exact ⟨k - 1, rfl, by omega, by omega, by rw [HK9.out], HNX.out, hO⟩
    · have e1 : decide ((3 : Int) ≤ (k : Int)) = false := by simp; omega
      obtain rfl : k = 2 := by omega
      have hno := notYet_end HNY.out
      have HRES : Hid (T = zT ∧ E = 4) := by
        refine ⟨?_, ?_⟩
        · rw [← HT.out]; unfold findT; rw [if_neg (by omega), if_neg (by omega), Int.toNat_natCast, if_neg hno]
        · rw [← HE.out]; unfold findE; rw [if_neg (by omega), if_neg (by omega), Int.toNat_natCast, if_neg hno]
      clear hno
      go_wp2_with (first
        | ((with_reducible refine gBld (T := 30) ?_); refine own_bld (Tok.C zT) (by kernel_rfl) ?_)
        | ((with_reducible refine gStore ?_); first | (refine stX hO 0 rfl rfl rfl rfl rfl (tS rfl) ?_; clear hO; intro ww hO) | (refine stC hO 0 rfl rfl rfl (ltb rfl) rfl (tS rfl) ?_; clear hO; intro ww hO)))
      rw [HRES.out.1, HRES.out.2]
      refine bodyPost_ret (res_ct rfl _ _ bx 30 (Tok.C zT) (0,0) _ rfl (hO.blk 0 rfl) Try.underlying30 rfl (its' _)) rfl ⟨rfl, hO.below⟩
end Go.Proofs.Ytnkpjmcgecdkfaa

/- Walks of the document's Find at any place, and Tokens. -/
namespace Go.Proofs.Ytnkpjmcgecdkfaa
open Go.RowKit Go.Own Go.Bv Go.Ord Go.Eq Go.Mt

set_option maxHeartbeats 2000000 in
set_option maxRecDepth 100000 in
theorem rFind_calls (a : Option Addr) (n cap : Nat) (bs : List (BitVec 8)) (x : Int) (w : World) (hR : Rd w 1 a n cap (u8s bs)) :
    Calls Try.prog 45 #[.slice a n cap, .int .i64 x] w fun e w' => e = .returned (.tuple #[.agg (findT n bs x).C, .int .i64 (findE n bs x)]) ∧ Below w.heap.size w w' := by
  have hO := Own.start w
  by_cases h1 : 65536 < n
  · have d1 : decide ((65536 : Int) < (n : Int)) = true := by simp; omega
    have e1 : findT n bs x = zT := by unfold findT; rw [if_pos h1]
    have e2 : findE n bs x = 3 := by unfold findE; rw [if_pos h1]
    rw [e1, e2]
    clear e1 e2 h1 hR
    generalize hW : w = wn at hO ⊢
    clear hW w
    go_enter Try.func45, Try.ntmps45
    go_wp2_with (first
      | ((with_reducible refine gAlloc (T := 30) ?_); refine own_alloc hO _ _ itz ?_; clear hO; intro bx ww hO)
      | ((with_reducible refine gBld (T := 30) ?_); refine own_bld (Tok.C zT) (by kernel_rfl) ?_)
      | ((with_reducible refine gStore ?_); first | (refine stX hO 0 rfl rfl rfl rfl rfl (tS rfl) ?_; clear hO; intro ww hO) | (refine stC hO 0 rfl rfl rfl (ltb rfl) rfl (tS rfl) ?_; clear hO; intro ww hO)))
    refine bodyPost_ret (res_ct rfl _ _ bx 30 (Tok.C zT) (0,0) _ rfl (hO.blk 0 rfl) Try.underlying30 rfl (its' _)) rfl ⟨rfl, hO.below⟩
  have d1 : decide ((65536 : Int) < (n : Int)) = false := by simp; omega
  by_cases h2 : x < 0 ∨ (n : Int) ≤ x
  · have e1 : findT n bs x = zT := by unfold findT; rw [if_neg h1, if_pos h2]
    have e2 : findE n bs x = 1 := by unfold findE; rw [if_neg h1, if_pos h2]
    rw [e1, e2]
    by_cases h3 : x < 0
    · have d2 : decide (x < 0) = true := by simpa using h3
      clear e1 e2 h1 h2 h3 hR
      generalize hW : w = wn at hO ⊢
      clear hW w
      go_enter Try.func45, Try.ntmps45
      go_wp2_with (first
        | ((with_reducible refine gAlloc (T := 30) ?_); refine own_alloc hO _ _ itz ?_; clear hO; intro bx ww hO)
        | ((with_reducible refine gBld (T := 30) ?_); refine own_bld (Tok.C zT) (by kernel_rfl) ?_)
        | ((with_reducible refine gG ?_); refine wpList_want rfl ?_)
        | ((with_reducible refine gStore ?_); first | (refine stX hO 0 rfl rfl rfl rfl rfl (tS rfl) ?_; clear hO; intro ww hO) | (refine stC hO 0 rfl rfl rfl (ltb rfl) rfl (tS rfl) ?_; clear hO; intro ww hO)))
      refine bodyPost_ret (res_ct rfl _ _ bx 30 (Tok.C zT) (0,0) _ rfl (hO.blk 0 rfl) Try.underlying30 rfl (its' _)) rfl ⟨rfl, hO.below⟩
    · have d2 : decide (x < 0) = false := by simpa using h3
      have d3 : decide ((n : Int) ≤ x) = true := by simp; omega
      clear e1 e2 h1 h2 h3 hR
      generalize hW : w = wn at hO ⊢
      clear hW w
      go_enter Try.func45, Try.ntmps45
      go_wp2_with (first
        | ((with_reducible refine gAlloc (T := 30) ?_); refine own_alloc hO _ _ itz ?_; clear hO; intro bx ww hO)
        | ((with_reducible refine gBld (T := 30) ?_); refine own_bld (Tok.C zT) (by kernel_rfl) ?_)
        | ((with_reducible refine gG ?_); refine wpList_want rfl ?_)
        | ((with_reducible refine gStore ?_); first | (refine stX hO 0 rfl rfl rfl rfl rfl (tS rfl) ?_; clear hO; intro ww hO) | (refine stC hO 0 rfl rfl rfl (ltb rfl) rfl (tS rfl) ?_; clear hO; intro ww hO)))
      refine bodyPost_ret (res_ct rfl _ _ bx 30 (Tok.C zT) (0,0) _ rfl (hO.blk 0 rfl) Try.underlying30 rfl (its' _)) rfl ⟨rfl, hO.below⟩
  · obtain ⟨p, rfl⟩ : ∃ p : Nat, x = (p : Int) := ⟨x.toNat, by omega⟩
    exact rfind_in a n cap bs p w hR (by omega) (by omega) _ _ rfl rfl

set_option maxHeartbeats 4000000 in
set_option maxRecDepth 100000 in
theorem rtokens_calls (a : Option Addr) (n cap : Nat) (bs : List (BitVec 8)) (T : Nat) (hT : (tokens bs).length = T) (w : World) (hR : Rd w 1 a n cap (u8s bs)) (hn : n ≤ 65536) :
    Calls Try.prog 27 #[.slice a n cap] w fun e w' => ∃ a' c', e = .returned (.tuple #[.slice a' T c', .int .i64 0]) ∧ Below w.heap.size w w' ∧ w'.ownsRow w.heap.size 30 3 (.slice a' T c') T (tks (tokens bs)) := by
  have hO := Own.start w
  have hlen : bs.length = n := by have := hR.len; rw [u8s_length] at this; omega
  have HL := Lib.hid hlen
  have HR := Lib.hid hR
  have HTT := Lib.hid hT
  clear hR hlen hT
  have d1 : decide ((65536 : Int) < (n : Int)) = false := by simp; omega
  generalize hW : w = wn at hO HR ⊢
  clear hW w
  go_enter Try.func27, Try.ntmps27
  go_wp2
  replace hO : Own wn _ [.sl 30 3 (.slice none 0 0) 0 (tks [])] := hO.add (Below.refl _ _) (World.ownsRow_nil _ _ _ _)
  go_loopg [4, 5] n (fun m s4 s5 wr => ∃ (p : Nat) (L : List Tok) (aO : Option Addr) (S cO : Nat), m = n - p ∧ p ≤ n ∧ s5 = .int .i64 (p : Int) ∧ s4 = .slice aO S cO ∧ S = L.length ∧ S ≤ p ∧ tokens bs = L ++ toksFrom bs n p ∧ Own wn wr [.sl 30 3 (.slice aO S cO) S (tks L)])
  case atStart => exact ⟨0, [], none, 0, 0, rfl, by omega, rfl, rfl, rfl, by omega, by rw [HL.out.symm]; rfl, hO⟩
  case round =>
    obtain ⟨p, L, aO, S, cO, rfl, hp, rfl, rfl, hS, hSp, hL, hO1⟩ := hrel
    clear hO
    have hO := hO1
    have HSL := Lib.hid hS
    clear hO1 hS
    by_cases c1 : p < n
    · have d2 : decide ((p : Int) < (n : Int)) = true := by simp; omega
      have d2' : decide (p < n) = true := by simp; omega
      have HS := Lib.hid (tokens_step HL.out c1 hL)
      have HLen := Lib.hid (tokAt_tell (b := bs) (at_ := p) (by rw [HL.out]; exact c1)).1
      have H0 := Lib.hid (Tok.ok_size (tokAt_ok (b := bs) (at_ := p)))
      have hz := fun w => rsize_calls (tokAt bs p) w (tokAt_len bs p)
      have hx := u8s_get bs p (by rw [HL.out]; exact c1)
      have hf := fun w h => rfind_in a n cap bs p w h hn c1 _ _ rfl rfl
      have HX0 : Hid (∃ B : Bool, ((findE n bs p == 0) = B) ∧ (if B = true then findT n bs p else ⟨bs[p]'(by rw [HL.out]; exact c1), 0, 0⟩) = tokAt bs p) := by
        have q1 : findE n bs p = if 3 ≤ (found bs p).1 then 0 else 4 := by unfold findE; rw [if_neg (by omega), if_neg (by omega), Int.toNat_natCast]
        have q2 : findT n bs p = if 3 ≤ (found bs p).1 then ⟨0, (found bs p).1, (found bs p).2⟩ else zT := by unfold findT; rw [if_neg (by omega), if_neg (by omega), Int.toNat_natCast]
        rw [q1, q2]
        unfold tokAt
        by_cases h3 : 3 ≤ (found bs p).1
        · rw [if_pos h3, if_pos h3, if_pos h3]
          exact ⟨true, rfl, rfl⟩
        · rw [if_neg h3, if_neg h3, if_neg h3]
          refine ⟨false, rfl, ?_⟩
          rw [List.getD_eq_getElem?_getD, List.getElem?_eq_getElem (by rw [HL.out]; exact c1)]; rfl
      generalize bs[p]'(by rw [HL.out]; exact c1) = x at HX0 hx
      obtain ⟨tt, ht⟩ : ∃ tt, tokAt bs p = tt := ⟨_, rfl⟩
      obtain ⟨bt, hb⟩ : ∃ bt, findT n bs p = bt := ⟨_, rfl⟩
      obtain ⟨E, hE⟩ : ∃ E, findE n bs p = E := ⟨_, rfl⟩
      rw [ht] at HS HLen H0 hz HX0
      rw [hb, hE] at hf HX0
      rw [HL.out] at HLen
      obtain ⟨sz, hsz⟩ : ∃ sz, tt.size = sz := ⟨_, rfl⟩
      rw [hsz] at HS HLen H0 hz
      have HF := Lib.hid hf
      have HZ := Lib.hid hz
      have HX := Lib.hid hx
      clear hf hz hx ht hb hE hL hsz
      have e1 : wrap64 ((p : Int) + (sz : Int)) = ((p + sz : Nat) : Int) := by unfold wrap64; have := HLen.out; omega
      obtain ⟨b0, off, rfl⟩ := HR.out.place (by omega)
      obtain ⟨B, hB, hBT⟩ := HX0.out
      have HBT := Lib.hid hBT
      clear HX0 hBT
      cases B
      all_goals
        simp only [Bool.false_eq_true, if_true, if_false] at HBT
        go_wp2_with (first
          | (go_at_call 45; refine (HF.out _ (hO.rd HR.out)).mono ?_; rintro e ww ⟨rfl, hb⟩; replace hO := hO.call hb; clear hb)
          | ((with_reducible refine gAlloc (T := 30) ?_); refine own_alloc hO _ _ itz ?_; clear hO; intro bx ww hO)
          | ((with_reducible refine gBld (T := 30) ?_); refine own_bld (Tok.C ⟨x, 0, 0⟩) (by kernel_rfl) ?_)
          | ((with_reducible refine gLoad ?_); refine ld_rd (hO.rd HR.out) rfl (HX.out) (tA rfl) ?_)
          | ((with_reducible refine gStore ?_); first | (refine stX hO 0 rfl rfl rfl rfl rfl (tS rfl) ?_; clear hO; intro ww hO) | (refine stC hO 0 rfl rfl rfl (ltb rfl) rfl (tS rfl) ?_; clear hO; intro ww hO))
          | ((with_reducible refine gLoad (T := 30) ?_); rw [HBT.out] at hO; refine ldX hO 0 rfl rfl (tA rfl) (tS rfl) ?_)
          | ((with_reducible refine gLoad (T := 30) ?_); first | refine ldX hO 0 rfl rfl (tA rfl) (tS rfl) ?_ | refine ldX hO 1 rfl rfl (tA rfl) (tS rfl) ?_)
          | ((with_reducible refine gBuild (T := 22) ?_); refine own_build hO 22 1 _ etk tt.C (by omega) (by omega) (by kernel_rfl) rfl ?_; clear hO; intro g ww hO)
          | ((with_reducible refine gAppend ?_); refine own_append hO 2 _ _ 22 etk rfl rfl rfl (hO.rdAt 0 rfl) (tks_one [tt]) (S + 1) rfl (by simp [maxLen]; omega) (by omega) ?_; clear hO; intro a2 c2 ww hO)
          | (go_at_call 44; refine (HZ.out _).mono ?_; rintro e ww ⟨rfl, hb⟩; replace hO := hO.call hb; clear hb))
        have hm := HLen.out
        have h0 := H0.out
        go_roundg (n - (p + sz))
        case measure => omega
        case rel => exact ⟨p + sz, L ++ [tt], a2, S + 1, c2, rfl, HLen.out, by go_num, rfl, by rw [List.length_append, HSL.out]; rfl, by omega, HS.out, by rw [tks_append]; exact hO.tail.tail⟩
    · obtain rfl : p = n := by omega
      have HE : Hid (tokens bs = L) := by show _ = _; rw [hL, toksFrom_stop (by rw [HL.out]; exact Nat.le_refl _), List.append_nil]
      have hST : S = T := by rw [HSL.out, ← HTT.out, HE.out]
      subst hST
      clear hL
      go_wp2
      go_ret2
      exact ⟨aO, cO, rfl, hO.below, by rw [HE.out]; exact hO.row 0 rfl⟩
end Go.Proofs.Ytnkpjmcgecdkfaa
