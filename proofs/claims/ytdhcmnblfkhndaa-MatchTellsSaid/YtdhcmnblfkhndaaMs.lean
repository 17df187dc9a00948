/- Walks: the document's Same; the law's live. -/
import Derived.Test.YtdhcmnblfkhndaaMk
namespace Go.Own
open Go.RowKit Go.Ord Go.Mt
section
variable {P : Program} {ops : Array Oper} {Q : Exit → Act → World → Prop} {a : Act} {w : World} {rest : List Oper}
variable {d : Option Tmp} {ty : TypeId} {pos : String} {aft : Array Edge}
/-- a token out of a row of them -/
theorem ld_tok {T : TypeId} {x : Operand} {b off j k n cap : Nat} {l : List Tok} {t : Tok} (hR : Rd w 3 (some ⟨b, off, none⟩) n cap (tks l)) (ht : l[k]? = some t)
    (hx : a.eval x = .pointer (some ⟨b, j, none⟩)) (hj : j = off + k * 3) (hT : aggT P T = some true) (hs : (P.info? T).map (·.size) = some 3)
    (h : wpList P ops Q rest (a.put d (.agg t.C)) w) :
    wpList P ops Q ({ dst := d, op := .load T x, type := ty, pos := pos, after := aft, guard := none } :: rest) a w := by
  obtain ⟨hk, he⟩ := List.getElem?_eq_some_iff.1 ht
  subst hj
  exact ld_rds t.C.toList hR hx (fun i v hv => tks_get l k hk i v (by rw [he]; exact hv)) hT hs (by show 0 < 3; omega) h
end
end Go.Own
namespace Go.Mt
theorem take_same {l r : List Tok} {k : Nat} (h : l.take k = r.take k) {s : Tok} (h1 : l[k]? = some s) (h2 : r[k]? = some s) : l.take (k + 1) = r.take (k + 1) := by
  rw [List.take_add_one, List.take_add_one, h, h1, h2]
theorem tokens_live : tokens [97, 97, 97, 97, 97] = [⟨97, 0, 0⟩, ⟨0, 4, 1⟩] := by decide +kernel
end Go.Mt
namespace Go.Proofs.Ytdhcmnblfkhndaa
open Go.RowKit Go.Own Go.Bv Go.Ord Go.Eq Go.Mt

set_option maxHeartbeats 2000000 in
set_option maxRecDepth 100000 in
theorem samet_calls (a1 a2 : Option Addr) (n1 c1 n2 c2 : Nat) (l r : List Tok) (w : World) (h1 : Rd w 3 a1 n1 c1 (tks l)) (h2 : Rd w 3 a2 n2 c2 (tks r)) :
    Calls Try.prog 11 #[.slice a1 n1 c1, .slice a2 n2 c2] w fun e w' => e = .returned (.bool (decide (l = r))) ∧ Below w.heap.size w w' := by
  have hO := Own.start w
  have hl1 : l.length = n1 := by have := h1.len; rw [tks_length] at this; omega
  have hl2 : r.length = n2 := by have := h2.len; rw [tks_length] at this; omega
  have HR1 := Lib.hid h1
  have HR2 := Lib.hid h2
  have hm := h1.max
  have hle := h1.le
  unfold maxLen at hm
  clear h1 h2
  by_cases hn : n1 = n2
  · subst hn
    have HL1 := Lib.hid hl1
    have HL2 := Lib.hid hl2
    generalize hW : w = wn at hO HR1 HR2 ⊢
    clear hW w hl1 hl2
    obtain ⟨B, hB⟩ : ∃ B, decide (l = r) = B := ⟨_, rfl⟩
    have HB := Lib.hid hB
    rw [hB]
    clear hB
    go_enter Try.func11, Try.ntmps11
    go_wp2
    go_loopg [13] n1 (fun m c wr => ∃ k : Nat, m = n1 - k ∧ k ≤ n1 ∧ c = .int .i64 (k : Int) ∧ l.take k = r.take k ∧ Own wn wr [])
    case atStart => exact ⟨0, rfl, by omega, rfl, rfl, hO⟩
    case round =>
      obtain ⟨k, rfl, hk, rfl, hE, hO1⟩ := hrel
      clear hO
      have hO := hO1
      have HE := Lib.hid hE
      clear hO1 hE
      by_cases c1 : k < n1
      · have d1 : decide ((k : Int) < (n1 : Int)) = true := by simp; omega
        have hs := List.getElem?_eq_getElem (l := l) (i := k) (by rw [HL1.out]; exact c1)
        have ht := List.getElem?_eq_getElem (l := r) (i := k) (by rw [HL2.out]; exact c1)
        generalize l[k]'(by rw [HL1.out]; exact c1) = s at hs
        generalize r[k]'(by rw [HL2.out]; exact c1) = t at ht
        have HS := Lib.hid hs
        have HT := Lib.hid ht
        clear hs ht
        obtain ⟨b1, o1, rfl⟩ := HR1.out.place (by omega)
        obtain ⟨b2, o2, rfl⟩ := HR2.out.place (by omega)
        by_cases c2 : s = t
        · subst c2
          have HN : Hid (∀ w, (binOp .neq 25 (.agg s.C) (.agg s.C)).run Try.prog w = .ok (.bool false) w) := fun w => by rw [neTok, decide_eq_true rfl]; rfl
          have HE2 := Lib.hid (take_same HE.out HS.out HT.out)
          go_wp2
          refine wp_region_text (by kernel_rfl) (by kernel_rfl) ?_
          replace hO := hO.drew
          generalize World.drew _ = wd at hO ⊢
          go_wp2_with (first
            | ((with_reducible refine gLoad (T := 25) ?_); first | refine ld_tok (hO.rd HR1.out) HS.out rfl (by omega) (tA rfl) (tS rfl) ?_ | refine ld_tok (hO.rd HR2.out) HT.out rfl (by omega) (tA rfl) (tS rfl) ?_)
            | ((with_reducible refine gNeq (t := 25) ?_); refine neD t_egT rfl rfl ?_; (with_reducible refine ⟨_, HN.out, ?_⟩))
            | ((with_reducible refine gI ?_); refine wpI_step rfl rfl (by kernel_rfl) ?_; intro K hK; have HK := Lib.hid hK; clear hK) | ((with_reducible refine gI ?_); first | refine wpI_skip rfl ?_ | refine wpI_want rfl ?_) | ((with_reducible refine gOnlyK0 HK.out ?_); clear HK K; first | (refine wpI_act (by simp only [Act.put, List.setIfInBounds_toArray, List.set_cons_succ, List.set_cons_zero]; rfl) ?_) | skip) | (with_reducible refine wpI_nil ?_))
          go_roundg (n1 - (k + 1))
          case measure => omega
          case rel => exact ⟨k + 1, rfl, by omega, by go_num, HE2.out, hO⟩
        · have HN : Hid (∀ w, (binOp .neq 25 (.agg s.C) (.agg t.C)).run Try.prog w = .ok (.bool true) w) := fun w => by rw [neTok, decide_eq_false c2]; rfl
          have HBF : Hid (B = false) := by
            rw [← HB.out]
            exact decide_eq_false fun h => c2 (by have h3 := HS.out; rw [h, HT.out] at h3; exact (Option.some.inj h3).symm)
          go_wp2
          refine wp_region_text (by kernel_rfl) (by kernel_rfl) ?_
          replace hO := hO.drew
          generalize World.drew _ = wd at hO ⊢
          go_wp2_with (first
            | ((with_reducible refine gLoad (T := 25) ?_); first | refine ld_tok (hO.rd HR1.out) HS.out rfl (by omega) (tA rfl) (tS rfl) ?_ | refine ld_tok (hO.rd HR2.out) HT.out rfl (by omega) (tA rfl) (tS rfl) ?_)
            | ((with_reducible refine gNeq (t := 25) ?_); refine neD t_egT rfl rfl ?_; (with_reducible refine ⟨_, HN.out, ?_⟩))
            | ((with_reducible refine gI ?_); refine wpI_step rfl rfl (by kernel_rfl) ?_; intro K hK; have HK := Lib.hid hK; clear hK) | ((with_reducible refine gI ?_); first | refine wpI_skip rfl ?_ | refine wpI_want rfl ?_) | ((with_reducible refine gOnlyK0 HK.out ?_); clear HK K; first | (refine wpI_act (by simp only [Act.put, List.setIfInBounds_toArray, List.set_cons_succ, List.set_cons_zero]; rfl) ?_) | skip) | (with_reducible refine wpI_nil ?_))
          go_ret
          exact ⟨by rw [HBF.out]; rfl, hO.below⟩
      · obtain rfl : k = n1 := by omega
        have HBT : Hid (B = true) := by
          rw [← HB.out]
          refine decide_eq_true ?_
          have h := HE.out
          rw [List.take_of_length_le (by rw [HL1.out]; exact Nat.le_refl _), List.take_of_length_le (by rw [HL2.out]; exact Nat.le_refl _)] at h
          exact h
        go_wp2
        go_ret
        exact ⟨by rw [HBT.out]; rfl, hO.below⟩
  · have d1 : ((n1 : Int) == (n2 : Int)) = false := by simp; omega
    have hd : decide (l = r) = false := decide_eq_false fun h => hn (by rw [← hl1, ← hl2, h])
    rw [hd]
    generalize hW : w = wn at hO ⊢
    clear hW w hd hn hl1 hl2 HR1 HR2
    go_enter Try.func11, Try.ntmps11
    go_wp2
    go_ret
    exact ⟨rfl, hO.below⟩

set_option maxHeartbeats 2000000 in
set_option maxRecDepth 100000 in
theorem live_calls (w : World) :
    Calls Try.prog 9 #[] w fun e w' => e = .returned (.bool true) ∧ Below w.heap.size w w' := by
  have hO := Own.start w
  have ht := fun a n c w h => tokens_calls a n c [97, 97, 97, 97, 97] w h
  rw [tokens_live] at ht
  have HT := Lib.hid ht
  have hs := fun a1 c1 a2 c2 w h1 h2 => samet_calls a1 a2 2 c1 2 c2 [⟨97, 0, 0⟩, ⟨0, 4, 1⟩] [⟨97, 0, 0⟩, ⟨0, 4, 1⟩] w h1 h2
  rw [decide_eq_true rfl] at hs
  have HS := Lib.hid hs
  clear ht hs
  generalize hW : w = wn at hO ⊢
  clear hW w
  go_enter Try.func9, Try.ntmps9
  go_wp2_with (first
    | ((with_reducible refine gBuild (T := 23) ?_); refine own_build hO 23 5 _ eu8 (u8s [97, 97, 97, 97, 97]).toArray (by omega) (by omega) (by kernel_rfl) rfl ?_; clear hO; intro g ww hO)
    | ((with_reducible refine Go.Bva.gCnv ?_); refine own_const hO _ _ Try.underlying23 Try.underlying5 rfl rfl ?_; clear hO; intro CB ww hO hCB)
    | (go_at_call 10; refine (HT.out _ _ _ _ (rd_blk (hO.blk 0 rfl) 1 0 5 5 (u8s [97, 97, 97, 97, 97]) rfl (by omega) (by simp [maxLen]) (fun j hj => by rw [Nat.zero_add, ← Array.getElem?_toList, hCB])) (by omega)).mono ?_; rintro e ww ⟨a2, T, c2, hT2, rfl, hb, hr⟩; obtain rfl : T = 2 := hT2; replace hO := hO.addRow hb hr; clear hb hr)
    | ((with_reducible refine gG ?_); refine wpList_want rfl ?_)
    | ((with_reducible refine gBld (T := 25) (parts := #[_]) ?_); refine own_bld (Tok.C ⟨97, 0, 0⟩) (by kernel_rfl) ?_)
    | ((with_reducible refine gBld (T := 25) (parts := #[_, _]) ?_); refine own_bld (Tok.C ⟨0, 4, 1⟩) (by kernel_rfl) ?_)
    | ((with_reducible refine gBuild (T := 26) ?_); refine own_build hO 26 2 _ etk (tks [⟨97, 0, 0⟩, ⟨0, 4, 1⟩]).toArray (by omega) (by omega) (by kernel_rfl) rfl ?_; clear hO; intro g2 ww hO)
    | (go_at_call 11; refine (HS.out _ _ _ _ _ (rd_clip (hO.rdAt 1 rfl)) (hO.rdAt 0 rfl)).mono ?_; rintro e ww ⟨rfl, hb⟩; replace hO := hO.call hb; clear hb))
  go_ret
  exact ⟨rfl, hO.below⟩
end Go.Proofs.Ytdhcmnblfkhndaa
