/- Walks of the document's Find, Tokens. -/
import Derived.Test.YtnkpjmcgecdkfaaMo
import Derived.Test.YtnkpjmcgecdkfaaMd
namespace Go.Mt
theorem agree_tell {b : List (BitVec 8)} {d p n : Nat} (hd : 1 ≤ d) (hdp : d ≤ p) (hn : 3 ≤ n) (hl : p + n ≤ b.length) : (Tok.tell (b.take p) ⟨0, (n : Int), (d : Int)⟩ = b.take (p + n)) ↔ agree b d p n := by
  have hp : (b.take p).length = p := by rw [List.length_take]; omega
  have ht : Tok.tell (b.take p) ⟨0, (n : Int), (d : Int)⟩ = again d n (b.take p) := by unfold Tok.tell; dsimp only; rw [if_neg (by omega)]; rfl
  rw [ht]
  constructor
  · intro h i hi
    refine ⟨by omega, ?_⟩
    have hg := again_get d (b.take p) hd n (p + i) (by omega) (by omega)
    rw [h] at hg
    have e : ∀ j, j < p + n → (b.take (p + n)).getD j 0 = b.getD j 0 := fun j hj => by
      rw [List.getD_eq_getElem?_getD, List.getElem?_take_of_lt hj, ← List.getD_eq_getElem?_getD]
    rw [e _ (by omega), e _ (by omega)] at hg
    exact hg
  · intro h
    exact again_of d (b.take p) b p hp hd hdp rfl n hl (fun i h1 h2 => by
      have := (h (i - p) (by omega)).2
      rwa [show p + (i - p) = i by omega] at this)
/-- what the document's search has not found yet: nothing longer, and nothing nearer of that length -/
def notYet (b : List (BitVec 8)) (p n d : Nat) : Prop := (∀ m e, n < m → m ≤ 18 → 1 ≤ e → e ≤ 256 → e ≤ p → ¬ agree b e p m) ∧ (∀ e, 1 ≤ e → e < d → e ≤ 256 → e ≤ p → ¬ agree b e p n)
theorem notYet_start (b : List (BitVec 8)) (p : Nat) : notYet b p 18 1 := ⟨fun m e h1 h2 => by omega, fun e h1 h2 => by omega⟩
theorem notYet_d {b : List (BitVec 8)} {p n d : Nat} (h : notYet b p n d) (hd : 1 ≤ d) (ha : ¬ agree b d p n) : notYet b p n (d + 1) :=
  ⟨h.1, fun e h1 h2 h3 h4 => by
    rcases Nat.lt_or_ge e d with h5 | h5
    · exact h.2 e h1 h5 h3 h4
    · obtain rfl : e = d := by omega
      exact ha⟩
theorem notYet_n {b : List (BitVec 8)} {p n d : Nat} (h : notYet b p (n + 1) d) (hd : 256 < d ∨ p < d ∨ b.length < p + (n + 1)) : notYet b p n 1 :=
  ⟨fun m e h1 h2 h3 h4 h5 => by
    rcases Nat.lt_or_ge (n + 1) m with h6 | h6
    · exact h.1 m e h6 h2 h3 h4 h5
    · obtain rfl : m = n + 1 := by omega
      rcases Nat.lt_or_ge e d with h7 | h7
      · exact h.2 e h3 h7 h4 h5
      · rcases hd with hd | hd | hd
        · omega
        · omega
        · intro ha
          have := (ha n (by omega)).1
          omega, fun e h1 h2 => by omega⟩
theorem notYet_hit {b : List (BitVec 8)} {p n d : Nat} (h : notYet b p n d) (hn : 3 ≤ n) (hn8 : n ≤ 18) (hd : 1 ≤ d) (hd2 : d ≤ 256) (hdp : d ≤ p) (ha : agree b d p n) : found b p = (n, d) := by
  obtain ⟨h1, h2, h3, h4, h5⟩ := best_spec b p (min 256 p)
  have hb : found b p = best b p (min 256 p) := rfl
  rw [hb]
  have hc := com_max ha 18 hn8
  have hd4 := h4 d hd (by omega)
  have hpos : 1 ≤ (best b p (min 256 p)).2 ∧ 1 ≤ (best b p (min 256 p)).1 ∧ (best b p (min 256 p)).1 = com b (best b p (min 256 p)).2 p 18 := by
    rcases h3 with h3 | h3
    · omega
    · exact h3
  have hag := com_agree b (best b p (min 256 p)).2 p 18
  rw [← hpos.2.2] at hag
  have hle : (best b p (min 256 p)).1 ≤ n := by
    rcases Nat.lt_or_ge n (best b p (min 256 p)).1 with h6 | h6
    · exact absurd hag (h.1 _ _ h6 h1 hpos.1 (by omega) (by omega))
    · exact h6
  have heq : (best b p (min 256 p)).1 = n := by omega
  rw [heq] at hag
  have hd5 : d ≤ (best b p (min 256 p)).2 := by
    rcases Nat.lt_or_ge (best b p (min 256 p)).2 d with h6 | h6
    · exact absurd hag (h.2 _ hpos.1 h6 (by omega) (by omega))
    · exact h6
  have hd6 : (best b p (min 256 p)).2 ≤ d := by
    rcases Nat.lt_or_ge d (best b p (min 256 p)).2 with h6 | h6
    · have := h5 d hd h6; omega
    · exact h6
  exact Prod.ext heq (by show (best b p (min 256 p)).2 = d; omega)
theorem notYet_end {b : List (BitVec 8)} {p : Nat} (h : notYet b p 2 1) : ¬ 3 ≤ (found b p).1 := by
  intro h3
  obtain ⟨h1, h2, h4, _, _⟩ := best_spec b p (min 256 p)
  have hb : found b p = best b p (min 256 p) := rfl
  have ha := found_agree b p
  rw [hb] at h3 ha
  exact h.1 _ _ (by omega) h1 (by rcases h4 with h4 | h4 <;> omega) (by omega) (by omega) ha
end Go.Mt
namespace Go.Proofs.Ytnkpjmcgecdkfaa
open Go.RowKit Go.Own Go.Bv Go.Ord Go.Eq Go.Mt

theorem gIC {ops : Array Oper} {S : World → Prop} {st : Op → Bool} {Q : Exit → Act → World → Prop} {rest : List Oper} {a : Act} {w : World} {d : Option Tmp} {s t : TypeId} {x : Operand} {ty : TypeId} {pos : String} {aft : Array Edge}
    (h : wpI Try.prog ops S st Q ({ dst := d, op := .convert s t x, type := ty, pos := pos, after := aft, guard := none } :: rest) a w) : wpI Try.prog ops S st Q ({ dst := d, op := .convert s t x, type := ty, pos := pos, after := aft, guard := none } :: rest) a w := h
theorem m_fi : flatInt Try.prog 34 = false := by kernel_rfl
theorem u8s_take' (b : List (BitVec 8)) (n : Nat) : (u8s b).take n = u8s (b.take n) := by unfold u8s; rw [List.map_take]

set_option maxHeartbeats 4000000 in
set_option maxRecDepth 100000 in
theorem rfind_in (a : Option Addr) (n cap : Nat) (bs : List (BitVec 8)) (p : Nat) (w : World) (hR : Rd w 1 a n cap (u8s bs)) (hn : n ≤ 65536) (hp : p < n) (T : Tok) (E : Int) (hT : findT n bs p = T) (hE : findE n bs p = E) :
    Calls Try.prog 45 #[.slice a n cap, .int .i64 (p : Int)] w fun e w' => e = .returned (.tuple #[.agg T.C, .int .i64 E]) ∧ Below w.heap.size w w' := by
  have hO := Own.start w
  have hlen : bs.length = n := by have := hR.len; rw [u8s_length] at this; omega
  have d1 : decide ((65536 : Int) < (n : Int)) = false := by simp; omega
  have d2 : decide ((p : Int) < 0) = false := by simp
  have d3 : decide ((n : Int) ≤ (p : Int)) = false := by simp; omega
  have d3' : decide (n ≤ p) = false := by simp; omega
  have HL := Lib.hid hlen
  have HR := Lib.hid hR
  have hcap := hR.le
  have htp := hR.take p (by omega)
  rw [Nat.mul_one, u8s_take'] at htp
  have HRP := Lib.hid htp
  have HT := Lib.hid hT
  have HE := Lib.hid hE
  obtain ⟨b0, off, rfl⟩ := hR.place (by omega)
  clear hR htp hT hE hlen
  generalize hW : w = wn at hO HR HRP ⊢
  clear hW w
  go_enter Try.func45, Try.ntmps45
  go_wp2_with (first
    | ((with_reducible refine gG ?_); refine wpList_want rfl ?_)
    | ((with_reducible refine gAlloc (T := 30) ?_); refine own_alloc hO _ _ itz ?_; clear hO; intro bx ww hO))
  go_loopg [6] 18 (fun m s6 wr => ∃ k : Nat, m = k ∧ 2 ≤ k ∧ k ≤ 18 ∧ s6 = .int .i64 (k : Int) ∧ notYet bs p k 1 ∧ Own wn wr [.blk bx (.cells zT.C 30 (0,0))])
  case atStart => exact ⟨18, rfl, by omega, by omega, rfl, notYet_start _ _, hO⟩
  case round =>
    obtain ⟨k, hgk, hk2, hk8, rfl, hny, hO1⟩ := hrel
    clear hO
    have hO := hO1
    have HNY := Lib.hid hny
    have HGK := Lib.hid hgk
    clear hO1 hny hgk
    by_cases c1 : 3 ≤ k
    · have e1 : decide ((3 : Int) ≤ (k : Int)) = true := by simp; omega
      have HK9 : Hid (((k - 1 : Nat) : Int) = (k : Int) - 1) := by show _ = _; omega
      go_wp2
      go_loopg [7] 256 (fun m s7 wq => ∃ d : Nat, m = 257 - d ∧ 1 ≤ d ∧ d ≤ 257 ∧ s7 = .int .i64 (d : Int) ∧ notYet bs p (k) d ∧ Own wn wq [.blk bx (.cells zT.C 30 (0,0))])
      case atStart => exact ⟨1, rfl, by omega, by omega, rfl, HNY.out, hO⟩
      case round =>
        obtain ⟨d, rfl, hd1, hd2, rfl, hny2, hO1⟩ := hrel
        clear hO
        have hO := hO1
        have HND := Lib.hid hny2
        clear hO1 hny2
        by_cases c2 : d ≤ 256 ∧ d ≤ p ∧ k ≤ n - p
        · obtain ⟨c21, c22, c23⟩ := c2
          have f1 : decide ((d : Int) ≤ 256) = true := by simp; omega
          have f2 : decide ((d : Int) ≤ (p : Int)) = true := by simp; omega
          have f2' : decide (d ≤ p) = true := by simp; omega
          have f3 : decide ((k : Int) ≤ (n : Int) - (p : Int)) = true := by simp; omega
          have hag := agree_tell (b := bs) (d := d) (p := p) (n := k) hd1 c22 c1 (by rw [HL.out]; omega)
          have htok : (Tok.ok ⟨0, (k : Int), (d : Int)⟩ p) := .inr ⟨by dsimp only; omega, by dsimp only; omega, by dsimp only; omega, by dsimp only; omega, by dsimp only; omega, rfl⟩
          have hsz : Tok.size ⟨0, (k : Int), (d : Int)⟩ = k := by unfold Tok.size; dsimp only; rw [if_neg (by omega)]; omega
          obtain ⟨C, hC⟩ : ∃ C, Tok.tell (bs.take p) ⟨0, (k : Int), (d : Int)⟩ = C := ⟨_, rfl⟩
          have hte := fun (wx : World) (ax : Option Addr) (cx : Nat) (Lx : List Res) (hOx : Own wn wx (.sl 5 1 (.slice ax p cx) p (u8s (bs.take p)) :: Lx)) => rtell_calls hOx ⟨0, (k : Int), (d : Int)⟩ htok (by rw [hsz]; omega) (p + (k)) (by rw [hsz]) C hC
          rw [hC] at hag
          obtain ⟨D, hD⟩ : ∃ D, bs.take (p + (k)) = D := ⟨_, rfl⟩
          rw [hD] at hag
          have htd := HR.out.take (p + (k)) (by omega)
          rw [Nat.mul_one, u8s_take', hD] at htd
          have HTD := Lib.hid htd
          have HTE := Lib.hid hte
          have HAG := Lib.hid hag
          have e2 : wrap64 ((p : Int) + ((k : Int))) = (p : Int) + ((k : Int)) := by unfold wrap64; omega
          have g1 : p + (k) ≤ cap := by omega
          clear htok hsz hC hte hag hD htd
          go_wp2_with (first
            | ((with_reducible refine gG ?_); refine wpList_want rfl ?_)
            | ((with_reducible refine gBld (T := 30) ?_); refine own_bld (Tok.C ⟨0, (k : Int), (d : Int)⟩) (by kernel_rfl) ?_)
            | ((with_reducible refine gAlloc (T := 30) ?_); refine own_alloc hO _ _ itz ?_; clear hO; intro bt ww hO)
            | ((with_reducible refine gStore ?_); first | (refine stX hO 0 rfl rfl rfl rfl rfl (tS rfl) ?_; clear hO; intro ww hO) | (refine stC hO 0 rfl rfl rfl (ltb rfl) rfl (tS rfl) ?_; clear hO; intro ww hO)))
          replace hO : Own wn _ [.blk bt (.cells (Tok.C ⟨0, (k : Int), (d : Int)⟩) 30 (0,0)), .blk bx (.cells zT.C 30 (0,0))] := hO
          refine wp_region_textS (fun w' => Own wn w' [.blk bt (.cells (Tok.C ⟨0, (k : Int), (d : Int)⟩) 30 (0,0))]) (fun op => match op with | .load _ _ => true | _ => false) (by kernel_rfl) (by kernel_rfl) (hO.drew.mem1 (by simp)) ?_
          replace hO := hO.drew
          generalize World.drew _ = wd at hO ⊢
          go_wp2_with (first
            | (((with_reducible refine gIL ?_); first | refine wpI_ldS (fun w' hS => hS.blk 0 rfl) rfl rfl (tA rfl) (tS rfl) ?_); first | (refine wpI_act (by simp only [Act.put, List.setIfInBounds_toArray, List.set_cons_succ, List.set_cons_zero]; rfl) ?_) | skip)
            | ((with_reducible refine gAppendNil ?_); refine own_appendNil hO _ _ 34 eu8m rfl rfl (hO.rd HRP.out) (u8s_one _) (by simp [maxLen]; omega) (by omega) ?_; clear hO; intro a5 c5 ww hO)
            | (go_at_call 57; refine (HTE.out _ _ _ _ hO).mono ?_; clear hO; rintro e ww ⟨a2, c2, rfl, hO⟩)
            | ((with_reducible refine gI ?_); refine wpI_step rfl rfl (by kernel_rfl) ?_; intro K hK; have HK := Lib.hid hK; clear hK) | ((with_reducible refine gI ?_); first | refine wpI_skip rfl ?_ | refine wpI_want rfl ?_) | ((with_reducible refine gOnlyK HK.out ?_ ?_); exact hO.mem1 (by simp); clear HK K; first | (refine wpI_act (by simp only [Act.put, List.setIfInBounds_toArray, List.set_cons_succ, List.set_cons_zero]; rfl) ?_) | skip) | (with_reducible refine wpI_nil ?_))
          replace hO : Own wn _ [.sl 5 1 (.slice a2 (p + (k)) c2) (p + (k)) (u8s C), .blk bt (.cells (Tok.C ⟨0, (k : Int), (d : Int)⟩) 30 (0,0)), .blk bx (.cells zT.C 30 (0,0))] := hO
          have hcv1 : ∀ w', Own wn w' [.sl 5 1 (.slice a2 (p + (k)) c2) (p + (k)) (u8s C), .blk bt (.cells (Tok.C ⟨0, (k : Int), (d : Int)⟩) 30 (0,0)), .blk bx (.cells zT.C 30 (0,0))] → (convert 34 9 (.slice a2 (p + (k)) c2)).run Try.prog w' = .ok (.string (strB C)) w' :=
            fun w' hS => run_bytes_string w' Try.underlying34 Try.underlying5 Try.underlying9 (hS.rdAt 0 rfl)
          have hcv2 : ∀ w', Own wn w' [.sl 5 1 (.slice a2 (p + (k)) c2) (p + (k)) (u8s C), .blk bt (.cells (Tok.C ⟨0, (k : Int), (d : Int)⟩) 30 (0,0)), .blk bx (.cells zT.C 30 (0,0))] → (convert 34 9 (.slice (some ⟨b0, off, none⟩) (p + (k)) cap)).run Try.prog w' = .ok (.string (strB D)) w' :=
            fun w' hS => run_bytes_string w' Try.underlying34 Try.underlying5 Try.underlying9 (hS.rd HTD.out)
          have HV1 := Lib.hid hcv1
          have HV2 := Lib.hid hcv2
          clear hcv1 hcv2
          refine wp_region_textS (fun w' => Own wn w' [.sl 5 1 (.slice a2 (p + (k)) c2) (p + (k)) (u8s C), .blk bt (.cells (Tok.C ⟨0, (k : Int), (d : Int)⟩) 30 (0,0)), .blk bx (.cells zT.C 30 (0,0))]) (fun op => match op with | .convert _ _ _ => true | _ => false) (by kernel_rfl) (by kernel_rfl) hO.drew ?_
          replace hO := hO.drew
          generalize World.drew _ = wd at hO ⊢
          by_cases hCD : C = D
          · have hq : ((strB C).toList == (strB D).toList) = true := by rw [strB_beq]; exact decide_eq_true hCD
            have hag := HAG.out.1 hCD
            have hfd := notYet_hit HND.out c1 hk8 hd1 c21 c22 hag
            have HRES : Hid (T = ⟨0, (k : Int), (d : Int)⟩ ∧ E = 0) := by
              refine ⟨?_, ?_⟩
              · rw [← HT.out]; unfold findT; rw [if_neg (by omega), if_neg (by omega), Int.toNat_natCast, hfd, if_pos c1]
              · rw [← HE.out]; unfold findE; rw [if_neg (by omega), if_neg (by omega), Int.toNat_natCast, hfd, if_pos c1]
            clear hag hfd hCD
            go_wp2_with (first
              | ((with_reducible refine gIC ?_); first | refine wpI_steady (.string (strB C)) rfl rfl (ok_convS m_fi) (fun w' hS => run_value rfl (HV1.out w' hS)) ?_ | refine wpI_steady (.string (strB D)) rfl rfl (ok_convS m_fi) (fun w' hS => run_value rfl (HV2.out w' hS)) ?_; first | (refine wpI_act (by simp only [Act.put, List.setIfInBounds_toArray, List.set_cons_succ, List.set_cons_zero]; rfl) ?_) | skip)
              | ((with_reducible refine gLoad (T := 30) ?_); refine ldX hO 1 rfl rfl (tA rfl) (tS rfl) ?_)
              | ((with_reducible refine gStore (T := 30) ?_); refine stX hO 2 rfl rfl rfl rfl rfl (tS rfl) ?_; clear hO; intro ww hO)
              | ((with_reducible refine gI ?_); refine wpI_step rfl rfl (by kernel_rfl) ?_; intro K hK; have HK := Lib.hid hK; clear hK) | ((with_reducible refine gI ?_); first | refine wpI_skip rfl ?_ | refine wpI_want rfl ?_) | ((with_reducible refine gOnlyK HK.out ?_ ?_); exact hO; clear HK K; first | (refine wpI_act (by simp only [Act.put, List.setIfInBounds_toArray, List.set_cons_succ, List.set_cons_zero]; rfl) ?_) | skip) | (with_reducible refine wpI_nil ?_))
            rw [HRES.out.1, HRES.out.2]
            refine bodyPost_ret (res_ct rfl _ _ bx 30 (Tok.C ⟨0, (k : Int), (d : Int)⟩) (0,0) _ rfl (hO.blk 2 rfl) Try.underlying30 rfl (its' _)) rfl ⟨rfl, hO.below⟩
          · have hq : ((strB C).toList == (strB D).toList) = false := by rw [strB_beq]; exact decide_eq_false hCD
            have HNX := Lib.hid (notYet_d HND.out hd1 (fun ha => hCD (HAG.out.2 ha)))
            clear hCD
            go_wp2_with (first
              | ((with_reducible refine gIC ?_); first | refine wpI_steady (.string (strB C)) rfl rfl (ok_convS m_fi) (fun w' hS => run_value rfl (HV1.out w' hS)) ?_ | refine wpI_steady (.string (strB D)) rfl rfl (ok_convS m_fi) (fun w' hS => run_value rfl (HV2.out w' hS)) ?_; first | (refine wpI_act (by simp only [Act.put, List.setIfInBounds_toArray, List.set_cons_succ, List.set_cons_zero]; rfl) ?_) | skip)
              | ((with_reducible refine gI ?_); refine wpI_step rfl rfl (by kernel_rfl) ?_; intro K hK; have HK := Lib.hid hK; clear hK) | ((with_reducible refine gI ?_); first | refine wpI_skip rfl ?_ | refine wpI_want rfl ?_) | ((with_reducible refine gOnlyK HK.out ?_ ?_); exact hO; clear HK K; first | (refine wpI_act (by simp only [Act.put, List.setIfInBounds_toArray, List.set_cons_succ, List.set_cons_zero]; rfl) ?_) | skip) | (with_reducible refine wpI_nil ?_))
            go_roundg (257 - (d + 1))
            case measure => omega
            case rel => exact ⟨d + 1, rfl, by omega, by omega, by go_num, HNX.out, hO.tail.tail⟩
        · have HNX : Hid (notYet bs p (k - 1) 1) := notYet_n (n := k - 1) (d := d) (by rw [show k - 1 + 1 = k by omega]; exact HND.out) (by rw [HL.out]; omega)
          by_cases c21 : d ≤ 256
          · have f1 : decide ((d : Int) ≤ 256) = true := by simp; omega
            by_cases c22 : d ≤ p
            · have f2 : decide ((d : Int) ≤ (p : Int)) = true := by simp; omega
              have f2' : decide (d ≤ p) = true := by simp; omega
              have f3 : decide ((k : Int) ≤ (n : Int) - (p : Int)) = false := by simp; omega
              clear c2
              go_wp2_with (first | ((with_reducible refine gG ?_); refine wpList_want rfl ?_))
              go_roundg (k - 1)
              case measure => have := HGK.out; omega
              case rel => exact ⟨k - 1, rfl, by omega, by omega, by rw [HK9.out], HNX.out, hO⟩
            · have f2 : decide ((d : Int) ≤ (p : Int)) = false := by simp; omega
              have f2' : decide (d ≤ p) = false := by simp; omega
              clear c2
              go_wp2_with (first | ((with_reducible refine gG ?_); refine wpList_want rfl ?_))
              go_roundg (k - 1)
              case measure => have := HGK.out; omega
              case rel => exact ⟨k - 1, rfl, by omega, by omega, by rw [HK9.out], HNX.out, hO⟩
          · have f1 : decide ((d : Int) ≤ 256) = false := by simp; omega
            clear c2
            go_wp2_with (first | ((with_reducible refine gG ?_); refine wpList_want rfl ?_))
            go_roundg (k - 1)
            case measure => have := HGK.out; omega
            case rel => exact ⟨k - 1, rfl, by omega, by omega, by rw [HK9.out], HNX.out, hO⟩
    · have e1 : decide ((3 : Int) ≤ (k : Int)) = false := by simp; omega
      obtain rfl : k = 2 := by omega
      have hno := notYet_end HNY.out
      have HRES : Hid (T = zT ∧ E = 4) := by
        refine ⟨?_, ?_⟩
        · rw [← HT.out]; unfold findT; rw [if_neg (by omega), if_neg (by omega), Int.toNat_natCast, if_neg hno]
        · rw [← HE.out]; unfold findE; rw [if_neg (by omega), if_neg (by omega), Int.toNat_natCast, if_neg hno]
      clear hno
      go_wp2_with (first
        | ((with_reducible refine gBld (T := 30) ?_); refine own_bld (Tok.C zT) (by kernel_rfl) ?_)
        | ((with_reducible refine gStore ?_); first | (refine stX hO 0 rfl rfl rfl rfl rfl (tS rfl) ?_; clear hO; intro ww hO) | (refine stC hO 0 rfl rfl rfl (ltb rfl) rfl (tS rfl) ?_; clear hO; intro ww hO)))
      rw [HRES.out.1, HRES.out.2]
      refine bodyPost_ret (res_ct rfl _ _ bx 30 (Tok.C zT) (0,0) _ rfl (hO.blk 0 rfl) Try.underlying30 rfl (its' _)) rfl ⟨rfl, hO.below⟩
end Go.Proofs.Ytnkpjmcgecdkfaa
