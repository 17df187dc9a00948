/- Of several texts of this claim, one behind the other: Sc Sd Sp Ag Se Sg Sh Si Cr R Zx. -/
import Derived.Test.YtniibdglodnhoaaGreatDoorU6
import Derived.Test.YtniibdglodnhoaaGreatDoorVW

/- Walks: what solid's opening goes through. -/
namespace Go.Proofs.YtniibdglodnhoaaGreatDoor
open Go.RowKit Go.Own Go.Bv Go.Ord Go.Eq Go.Opn Go.Pb

/-- a text handed back, and an Errno -/
def TxN (w : World) (X : List (BitVec 8)) (M : Nat) (E : Int) (e : Ending) (w' : World) : Prop :=
  ∃ a' c' r, e = .returned (.tuple #[.slice a' M c', .int .i64 E]) ∧ Below w.heap.size w w' ∧ Res.holds w.heap.size w' r ∧ Gives r a' M c' X
theorem TxN.no {w w' : World} {E : Int} {e : Ending} (h : e = .returned (.tuple #[.slice none 0 0, .int .i64 E]) ∧ Below w.heap.size w w') : TxN w [] 0 E e w' :=
  ⟨none, 0, .sl 5 1 (.slice none 0 0) 0 [], h.1, h.2, World.ownsRow_nil _ _ _ _, gives_row (X := []) rfl⟩
theorem TxN.row {w w' : World} {n : Nat} {X : List (BitVec 8)} {E : Int} {e : Ending} (hl : X.length = n) (h : ∃ a' c', e = .returned (.tuple #[.slice a' n c', .int .i64 E]) ∧ Below w.heap.size w w' ∧ w'.ownsRow w.heap.size 5 1 (.slice a' n c') n (u8s X)) : TxN w X n E e w' := by
  obtain ⟨a', c', h1, h2, h3⟩ := h
  exact ⟨a', c', .sl 5 1 (.slice a' n c') n (u8s X), h1, h2, h3, gives_row hl⟩

/-- what opening goes through, as values -/
def stepsC (kb : Nat) : Array Value := #[.func (.func 39) #[] #[], .func (.func 40) #[] #[.pointer (some ⟨kb, 0, none⟩)], .func (.func 43) #[] #[]]

theorem istz : (Tryz.prog.info? 51).bind (·.zero) = some (.agg #[.nilFunc, .nilFunc, .nilFunc]) := by kernel_rfl
theorem ists (kb : Nat) : (Tryz.prog.info? 51).map (·.size) = some (stepsC kb).size := (by kernel_rfl : (Tryz.prog.info? 51).map (·.size) = some 3)

set_option maxHeartbeats 1000000 in
set_option maxRecDepth 100000 in
theorem steps_calls (key : St) (w : World) :
    Calls Tryz.prog 22 #[.agg key.C] w fun e w' => ∃ kb, e = .returned (.agg (stepsC kb)) ∧ Below w.heap.size w w' ∧ Res.holds w.heap.size w' (.blk kb (.cells key.C 24 (0,0))) := by
  have hO := Own.start w
  generalize hW : w = wn at hO ⊢
  clear hW w
  go_enter Tryz.func22, Tryz.ntmps22
  go_wp2_with (first
    | ((with_reducible refine gBox ?_); first | (refine bxA hO rfl ?_; clear hO; intro kb ww hO) | (refine bx1 hO rfl rfl ?_; clear hO; intro kb ww hO))
    | ((with_reducible refine gAlloc ?_); refine own_alloc hO _ _ istz ?_; clear hO; intro zb ww hO)
    | ((with_reducible refine gStore ?_); refine stX hO 0 rfl rfl rfl rfl rfl (ists kb) ?_; clear hO; intro ww hO))
  refine bodyPost_ret (results_cell_row rfl _ _ zb 51 (stepsC kb) (0,0) _ rfl (hO.blk 0 rfl) Tryz.underlying51 rfl (ists kb)) rfl ⟨kb, rfl, hO.below, hO.at 1 rfl⟩

/-- a whole block that is not of the call's own -/
theorem ldO {P : Program} {ops : Array Oper} {Q : Exit → Act → World → Prop} {a : Act} {w : World} {rest : List Oper} {d : Option Tmp} {ty : TypeId} {pos : String} {aft : Array Edge} {T : TypeId} {p : Tmp} {b : Nat} {C : Array Value} {t : TypeId} {fr : Nat × Nat}
    (hg : w.heap[b]? = some (.cells C t fr)) (hx : tmpAt a p = some (.pointer (some ⟨b, 0, none⟩))) (hT : aggT P T = some true) (hs : (P.info? T).map (·.size) = some C.size)
    (h : wpList P ops Q rest (a.put d (.agg C)) w) :
    wpList P ops Q ({ dst := d, op := .load T (.tmp p), type := ty, pos := pos, after := aft, guard := none } :: rest) a w := by
  refine own_loadAll T _ b C t fr hg (eval_tmp hx) ?_ hs h
  obtain ⟨dd, hd, hdd⟩ := Option.map_eq_some_iff.1 hT
  rw [hd]
  simp only [Option.map_some, Option.some.injEq]
  exact hdd

set_option maxHeartbeats 2000000 in
set_option maxRecDepth 100000 in
theorem unbox_calls (key : St) (kb : Nat) (a : Option Addr) (n cap : Nat) (t : List (BitVec 8)) (w : World) (hR : Rd w 1 a n cap (u8s t)) (hK : w.heap[kb]? = some (.cells key.C 24 (0,0))) (hT : Turns w) (E : Int) (X : List (BitVec 8)) (M : Nat) (hE : unboxE key t = E) (hX : unboxT key t = X) (hM : X.length = M) :
    Calls Tryz.prog 40 #[.slice a n cap, .pointer (some ⟨kb, 0, none⟩)] w (TxN w X M E) := by
  have hO := Own.start w
  have hln : t.length = n := by have := hR.len; rw [u8s_length] at this; omega
  have nilX : E ≠ 0 → X = [] ∧ M = 0 := fun h => by
    have h1 : X = [] := by rw [← hX]; unfold unboxT; rw [hE, if_neg h]
    exact ⟨h1, by rw [← hM, h1]; rfl⟩
  have HR := Lib.hid hR
  have HT := Lib.hid hT
  have HK := Lib.hid hK
  unfold unboxE at hE
  rw [hln] at hE
  by_cases h1 : n < 24
  · rw [if_pos h1] at hE
    subst hE
    obtain ⟨rfl, rfl⟩ := nilX (by decide)
    have G1 := Lib.hid (fun w => from_no a n cap w h1)
    clear hX hM nilX hR hT hK hln h1
    generalize hW : w = wn at hO HR HT HK ⊢
    clear hW w
    go_enter Tryz.func40, Tryz.ntmps40
    go_wp2_with (first
      | ((with_reducible refine gG ?_); refine wpList_want rfl ?_)
      | (go_at_call 41; refine (G1.out _).mono ?_; rintro e ww ⟨rfl, hb⟩; replace hO := hO.call hb; clear hb)
      | ((with_reducible refine gAlloc (T := 54) ?_); refine own_alloc hO _ _ ibz ?_; clear hO; intro bx ww hO)
      | ((with_reducible refine gLoad ?_); first | refine ldX hO 0 rfl rfl (tA rfl) (tS rfl) ?_ | refine ldC hO 0 rfl rfl (tA rfl) rfl ?_)
      | ((with_reducible refine gStore ?_); first | (refine stX hO 0 rfl rfl rfl rfl rfl (tS rfl) ?_; clear hO; intro ww hO) | (refine stC hO 0 rfl rfl rfl (ltb rfl) rfl (tS rfl) ?_; clear hO; intro ww hO)))
    go_ret2
    exact .no ⟨rfl, hO.below⟩
  rw [if_neg h1] at hE
  by_cases h2 : 65560 < n
  · rw [if_pos h2] at hE
    subst hE
    obtain ⟨rfl, rfl⟩ := nilX (by decide)
    have G1 := Lib.hid (fun w => from_long a n cap w h2)
    clear hX hM nilX hR hT hK hln h1 h2
    generalize hW : w = wn at hO HR HT HK ⊢
    clear hW w
    go_enter Tryz.func40, Tryz.ntmps40
    go_wp2_with (first
      | ((with_reducible refine gG ?_); refine wpList_want rfl ?_)
      | (go_at_call 41; refine (G1.out _).mono ?_; rintro e ww ⟨rfl, hb⟩; replace hO := hO.call hb; clear hb)
      | ((with_reducible refine gAlloc (T := 54) ?_); refine own_alloc hO _ _ ibz ?_; clear hO; intro bx ww hO)
      | ((with_reducible refine gLoad ?_); first | refine ldX hO 0 rfl rfl (tA rfl) (tS rfl) ?_ | refine ldC hO 0 rfl rfl (tA rfl) rfl ?_)
      | ((with_reducible refine gStore ?_); first | (refine stX hO 0 rfl rfl rfl rfl rfl (tS rfl) ?_; clear hO; intro ww hO) | (refine stC hO 0 rfl rfl rfl (ltb rfl) rfl (tS rfl) ?_; clear hO; intro ww hO)))
    go_ret2
    exact .no ⟨rfl, hO.below⟩
  rw [if_neg h2] at hE
  have G1 := Lib.hid (fun w h => from_ok a n cap t w h (by omega) (by omega))
  obtain ⟨N, hN⟩ : ∃ N, num t 8 = N := ⟨_, rfl⟩
  obtain ⟨u, hu⟩ : ∃ u, St.of ((t.drop 8).take 16) = u := ⟨_, rfl⟩
  obtain ⟨v, hv⟩ : ∃ v, t.drop 24 = v := ⟨_, rfl⟩
  have hvl : v.length = n - 24 := by rw [← hv, List.length_drop, hln]
  unfold unboxT at hX
  unfold unboxE at hX
  rw [hln, if_neg h1, if_neg h2, hN, hu, hv] at hX
  rw [hN, hu, hv] at G1 hE
  by_cases h3 : u = key.tag N v
  · rw [if_pos h3] at hE hX
    rw [if_pos rfl] at hX
    subst hE
    have hMn : M = n - 24 := by rw [← hM, ← hX, St.hide_length, hvl]
    have g2 := fun w a c h hT => open_ok key N a (n - 24) c v w h (by omega) hT
    rw [← h3, hX] at g2
    rw [← hMn] at g2 G1
    unfold BkRet at g2
    have G2 := Lib.hid g2
    have HX := Lib.hid (fun (g : Nat) (C : Array Value) (h : C.toList.take M = u8s X) => gives_blk (g := g) (t := 5) (fr := (0,0)) h hM (by simp [maxLen]; omega))
    clear hX hM nilX hR hT hK hln h1 h2 h3 g2 hN hu hv hvl hMn
    generalize hW : w = wn at hO HR HT HK ⊢
    clear hW w
    go_enter Tryz.func40, Tryz.ntmps40
    go_wp2_with (first
      | ((with_reducible refine gG ?_); refine wpList_want rfl ?_)
      | (go_at_call 41; refine (G1.out _ (hO.rd HR.out)).mono ?_; rintro e ww ⟨a2, c2, rfl, hb, hr⟩; replace hO := hO.addRow hb hr; clear hb hr)
      | (go_at_call 42; refine (G2.out _ _ _ (hO.rdAt 1 rfl) (HT.out.own hO)).mono ?_; rintro e ww ⟨g, C, rfl, hb, hh, hC⟩; replace hO := hO.add hb hh; clear hb hh)
      | ((with_reducible refine gAlloc (T := 54) ?_); refine own_alloc hO _ _ ibz ?_; clear hO; intro bx ww hO)
      | ((with_reducible refine gLoad ?_); first | refine ldX hO 0 rfl rfl (tA rfl) (tS rfl) ?_ | refine ldC hO 0 rfl rfl (tA rfl) rfl ?_ | refine ldX hO 1 rfl rfl (tA rfl) (tS rfl) ?_ | refine ldC hO 1 rfl rfl (tA rfl) rfl ?_)
      | ((with_reducible refine gStore ?_); first | (refine stX hO 0 rfl rfl rfl rfl rfl (tS rfl) ?_; clear hO; intro ww hO) | (refine stC hO 0 rfl rfl rfl (ltb rfl) rfl (tS rfl) ?_; clear hO; intro ww hO) | (refine stX hO 1 rfl rfl rfl rfl rfl (tS rfl) ?_; clear hO; intro ww hO) | (refine stC hO 1 rfl rfl rfl (ltb rfl) rfl (tS rfl) ?_; clear hO; intro ww hO))
      | ((with_reducible refine gLoad (T := 24) ?_); refine ldO (hO.old HK.out) rfl (tA rfl) (tS rfl) ?_))
    go_ret2
    exact ⟨some ⟨g, 0, none⟩, M, _, rfl, hO.below, hO.at 0 rfl, HX.out _ _ hC⟩
  · rw [if_neg h3] at hE
    subst hE
    obtain ⟨rfl, rfl⟩ := nilX (by decide)
    have g2 := fun w a c h hT => open_bad key N a (n - 24) c v u w h (by omega) h3 hT
    have G2 := Lib.hid g2
    clear hX hM nilX hR hT hK hln h1 h2 h3 g2 hN hu hv hvl
    generalize hW : w = wn at hO HR HT HK ⊢
    clear hW w
    go_enter Tryz.func40, Tryz.ntmps40
    go_wp2_with (first
      | ((with_reducible refine gG ?_); refine wpList_want rfl ?_)
      | (go_at_call 41; refine (G1.out _ (hO.rd HR.out)).mono ?_; rintro e ww ⟨a2, c2, rfl, hb, hr⟩; replace hO := hO.addRow hb hr; clear hb hr)
      | (go_at_call 42; refine (G2.out _ _ _ (hO.rdAt 1 rfl) (HT.out.own hO)).mono ?_; rintro e ww ⟨rfl, hb⟩; replace hO := hO.call hb; clear hb)
      | ((with_reducible refine gAlloc (T := 54) ?_); refine own_alloc hO _ _ ibz ?_; clear hO; intro bx ww hO)
      | ((with_reducible refine gLoad ?_); first | refine ldX hO 0 rfl rfl (tA rfl) (tS rfl) ?_ | refine ldC hO 0 rfl rfl (tA rfl) rfl ?_ | refine ldX hO 1 rfl rfl (tA rfl) (tS rfl) ?_ | refine ldC hO 1 rfl rfl (tA rfl) rfl ?_)
      | ((with_reducible refine gStore ?_); first | (refine stX hO 0 rfl rfl rfl rfl rfl (tS rfl) ?_; clear hO; intro ww hO) | (refine stC hO 0 rfl rfl rfl (ltb rfl) rfl (tS rfl) ?_; clear hO; intro ww hO) | (refine stX hO 1 rfl rfl rfl rfl rfl (tS rfl) ?_; clear hO; intro ww hO) | (refine stC hO 1 rfl rfl rfl (ltb rfl) rfl (tS rfl) ?_; clear hO; intro ww hO))
      | ((with_reducible refine gLoad (T := 24) ?_); refine ldO (hO.old HK.out) rfl (tA rfl) (tS rfl) ?_))
    go_ret2
    exact .no ⟨rfl, hO.below⟩

set_option maxHeartbeats 1000000 in
set_option maxRecDepth 100000 in
theorem third_calls (a : Option Addr) (n cap : Nat) (t : List (BitVec 8)) (w : World) (hR : Rd w 1 a n cap (u8s t)) (hn : n ≤ 10000000) (E : Int) (X : List (BitVec 8)) (M : Nat) (hE : Go.Pz.unE t 65536 = E) (hX : Go.Pz.unT t 65536 = X) (hM : X.length = M) :
    Calls Tryz.prog 43 #[.slice a n cap] w fun e w' => ∃ a' c', e = .returned (.tuple #[.slice a' M c', .int .i64 E]) ∧ Below w.heap.size w w' ∧ w'.ownsRow w.heap.size 5 1 (.slice a' M c') M (u8s X) := by
  have hO := Own.start w
  have G1 := Lib.hid (fun w h => unpack_calls a n cap t 65536 w h hn X E M hX hE hM)
  have HR := Lib.hid hR
  clear hR hE hX hM
  generalize hW : w = wn at hO HR ⊢
  clear hW w
  go_enter Tryz.func43, Tryz.ntmps43
  go_wp2_with (first
    | (go_at_call 44; refine (G1.out _ (hO.rd HR.out)).mono ?_; rintro e ww ⟨a2, c2, rfl, hb, hr⟩; replace hO := hO.addRow hb hr; clear hb hr))
  go_ret2
  exact ⟨a2, c2, rfl, hO.below, hO.row 0 rfl⟩
end Go.Proofs.YtniibdglodnhoaaGreatDoor

/- Walk: solid's Open, whatever it is given. -/
namespace Go.Proofs.YtniibdglodnhoaaGreatDoor
open Go.RowKit Go.Own Go.Bv Go.Ord Go.Eq Go.Opn Go.Pb

theorem openT_length (b : List (BitVec 8)) : (openT b).length ≤ b.length := by
  unfold openT
  split
  · simp
  · simp
theorem unboxT_length (key : St) (t : List (BitVec 8)) : (unboxT key t).length ≤ t.length := by
  unfold unboxT
  split
  · rw [St.hide_length, List.length_drop]; omega
  · simp
theorem stepsI0 (kb : Nat) (w : World) : (Instr.index 51 (.agg (stepsC kb)) (.int .i64 0)).run Tryz.prog w = .ok (.func (.func 39) #[] #[]) w := by kernel_rfl
theorem stepsI1 (kb : Nat) (w : World) : (Instr.index 51 (.agg (stepsC kb)) (.int .i64 1)).run Tryz.prog w = .ok (.func (.func 40) #[] #[.pointer (some ⟨kb, 0, none⟩)]) w := by kernel_rfl
theorem stepsI2 (kb : Nat) (w : World) : (Instr.index 51 (.agg (stepsC kb)) (.int .i64 2)).run Tryz.prog w = .ok (.func (.func 43) #[] #[]) w := by kernel_rfl

set_option maxHeartbeats 4000000 in
set_option maxRecDepth 100000 in
theorem sopen_calls (key : St) (a : Option Addr) (n cap : Nat) (b : List (BitVec 8)) (w : World) (hR : Rd w 1 a n cap (u8s b)) (hT : Turns w) (E : Int) (T : List (BitVec 8)) (M : Nat) (hE : soE key b = E) (hX : soT key b = T) (hM : T.length = M) :
    Calls Tryz.prog 9 #[.agg key.C, .slice a n cap] w fun e w' => ∃ a' c', e = .returned (.tuple #[.slice a' M c', .int .i64 E]) ∧ Below w.heap.size w w' ∧ w'.ownsRow w.heap.size 5 1 (.slice a' M c') M (u8s T) := by
  have hO := Own.start w
  have hln : b.length = n := by have := hR.len; rw [u8s_length] at this; omega
  have nilX : E ≠ 0 → T = [] ∧ M = 0 := fun h => by
    have h1 : T = [] := by rw [← hX]; unfold soT; rw [hE, if_neg h]
    exact ⟨h1, by rw [← hM, h1]; rfl⟩
  have HR := Lib.hid hR
  have HT := Lib.hid hT
  by_cases h1 : 131072 < n
  · unfold soE at hE
    rw [hln, if_pos h1] at hE
    subst hE
    obtain ⟨rfl, rfl⟩ := nilX (by decide)
    have d1 : Hid (131072 < n) := h1
    clear hX hM nilX hR hT hln h1
    generalize hW : w = wn at hO HR HT ⊢
    clear hW w
    have d2 : decide ((131072 : Int) < (n : Int)) = true := decide_eq_true (by have := d1.out; omega)
    go_enter Tryz.func9, Tryz.ntmps9
    go_wp2_with (first
      | ((with_reducible refine gG ?_); refine wpList_want rfl ?_)
      | ((with_reducible refine gBox ?_); first | (refine bxA hO rfl ?_; clear hO; intro bk ww hO) | (refine bx1 hO rfl rfl ?_; clear hO; intro bk ww hO)))
    go_ret2
    exact ⟨none, 0, rfl, hO.below, World.ownsRow_nil _ _ _ _⟩
  have hX0 := hX
  unfold soT at hX
  rw [hE] at hX
  unfold soE at hE
  rw [hln, if_neg h1] at hE
  have HC := Lib.hid (fun w h => open_calls a n cap b w h (by omega))
  obtain ⟨E1, hE1⟩ : ∃ x, openE b = x := ⟨_, rfl⟩
  obtain ⟨T1, hT1⟩ : ∃ x, openT b = x := ⟨_, rfl⟩
  obtain ⟨M1, hM1⟩ : ∃ x, T1.length = x := ⟨_, rfl⟩
  have b1 : M1 ≤ 131072 := by rw [← hM1, ← hT1]; have := openT_length b; omega
  unfold RetSE at HC
  rw [hE1, hT1, hM1] at HC
  rw [hE1, hT1] at hE
  rw [hT1] at hX
  obtain ⟨E2, hE2⟩ : ∃ x, unboxE key T1 = x := ⟨_, rfl⟩
  obtain ⟨T2, hT2⟩ : ∃ x, unboxT key T1 = x := ⟨_, rfl⟩
  obtain ⟨M2, hM2⟩ : ∃ x, T2.length = x := ⟨_, rfl⟩
  have b2 : M2 ≤ 131072 := by rw [← hM2, ← hT2]; have := unboxT_length key T1; omega
  have HB := Lib.hid (fun (kb : Nat) (a : Option Addr) (c : Nat) (w : World) hR hK hT => unbox_calls key kb a M1 c T1 w hR hK hT E2 T2 M2 hE2 hT2 hM2)
  unfold TxN at HB
  rw [hE2, hT2] at hE
  rw [hT2] at hX
  obtain ⟨E3, hE3⟩ : ∃ x, Go.Pz.unE T2 65536 = x := ⟨_, rfl⟩
  obtain ⟨T3, hT3⟩ : ∃ x, Go.Pz.unT T2 65536 = x := ⟨_, rfl⟩
  obtain ⟨M3, hM3⟩ : ∃ x, T3.length = x := ⟨_, rfl⟩
  have HD := Lib.hid (fun (a : Option Addr) (c : Nat) (w : World) hR => third_calls a M2 c T2 w hR (by omega) E3 T3 M3 hE3 hT3 hM3)
  rw [hE3] at hE
  rw [hT3] at hX
  have HE := Lib.hid hE
  have HX := Lib.hid hX
  have HM := Lib.hid hM
  have HNIL := Lib.hid nilX
  have HM3 := Lib.hid hM3
  have d1 : Hid (¬ 131072 < n) := h1
  clear hE hX hM nilX hR hT hln h1 hE1 hT1 hM1 hE2 hT2 hM2 hE3 hT3 hM3 b1 b2 hX0
  generalize hW : w = wn at hO HR HT ⊢
  clear hW w
  have d2 : decide ((131072 : Int) < (n : Int)) = false := decide_eq_false (by have := d1.out; omega)
  go_enter Tryz.func9, Tryz.ntmps9
  go_wp2_with (first
    | ((with_reducible refine gG ?_); refine wpList_want rfl ?_)
    | ((with_reducible refine gBox ?_); first | (refine bxA hO rfl ?_; clear hO; intro bk ww hO) | (refine bx1 hO rfl rfl ?_; clear hO; intro bk ww hO))
    | ((with_reducible refine gLoad ?_); first | refine ldX hO 0 rfl rfl (tA rfl) (tS rfl) ?_ | refine ldC hO 0 rfl rfl (tA rfl) rfl ?_)
    | (go_at_call 22; refine (steps_calls key _).mono ?_; rintro e ww ⟨kb, rfl, hb, hh⟩; replace hO := hO.add hb hh; clear hb hh))
  clear d1 d2
  go_loopg [1, 13] 3 (fun mm s1 s13 wr => (mm = 3 ∧ s13 = .int .i64 0 ∧ s1 = .slice a n cap ∧ Own wn wr [.blk kb (.cells key.C 24 (0,0)), .blk bk (.cells key.C 24 (0,0))]) ∨
    (mm = 2 ∧ s13 = .int .i64 1 ∧ Hid (E1 = 0) ∧ ∃ a1 c1, s1 = .slice a1 M1 c1 ∧ Rd wr 1 a1 M1 c1 (u8s T1) ∧ Own wn wr [.blk kb (.cells key.C 24 (0,0)), .blk bk (.cells key.C 24 (0,0))]) ∨
    (mm = 1 ∧ s13 = .int .i64 2 ∧ Hid (E1 = 0) ∧ Hid (E2 = 0) ∧ ∃ a1 c1, s1 = .slice a1 M2 c1 ∧ Rd wr 1 a1 M2 c1 (u8s T2) ∧ Own wn wr [.blk kb (.cells key.C 24 (0,0)), .blk bk (.cells key.C 24 (0,0))]) ∨
    (mm = 0 ∧ s13 = .int .i64 3 ∧ Hid (E1 = 0) ∧ Hid (E2 = 0) ∧ Hid (E3 = 0) ∧ ∃ a1 c1, s1 = .slice a1 M3 c1 ∧ Own wn wr [.sl 5 1 (.slice a1 M3 c1) M3 (u8s T3), .blk kb (.cells key.C 24 (0,0)), .blk bk (.cells key.C 24 (0,0))]))
  case atStart => exact .inl ⟨rfl, rfl, rfl, hO⟩
  case round =>
    rcases hrel with ⟨rfl, rfl, rfl, hO1⟩ | ⟨rfl, rfl, H1, a1, c1, rfl, hr1, hO1⟩ | ⟨rfl, rfl, H1, H2, a1, c1, rfl, hr1, hO1⟩ | ⟨rfl, rfl, H1, H2, H3, a1, c1, rfl, hO1⟩
    · clear hO
      have hO := hO1
      clear hO1
      have i0 := stepsI0 kb
      by_cases h0 : E1 = 0
      · subst h0
        go_wp2_with (first
          | (go_at_call 39; refine (HC.out _ (hO.rd HR.out)).mono ?_; rintro e ww ⟨a2, c2, rfl, hb, hr⟩; replace hO := hO.addRow hb hr; clear hb hr))
        go_roundg 2
        case measure => omega
        case rel => exact .inr (.inl ⟨rfl, rfl, (by first | exact rfl | exact True.intro), a2, c2, rfl, hO.rdAt 0 rfl, hO.tail⟩)
      · have he := HE.out
        rw [if_pos h0] at he
        subst he
        obtain ⟨rfl, rfl⟩ := HNIL.out h0
        have d0 : (E1 == 0) = false := by simpa using h0
        have d0' : decide (E1 = 0) = false := decide_eq_false h0
        have d0'' : (E1 != 0) = true := by simpa using h0
        clear h0 HE HX HM HNIL HM3
        go_wp2_with (first
          | (go_at_call 39; refine (HC.out _ (hO.rd HR.out)).mono ?_; rintro e ww ⟨a2, c2, rfl, hb, hr⟩; replace hO := hO.addRow hb hr; clear hb hr))
        go_ret2
        exact ⟨none, 0, rfl, hO.below, World.ownsRow_nil _ _ _ _⟩
    · clear hO
      have hO := hO1
      clear hO1
      have i0 := stepsI1 kb
      have he := HE.out
      have h1z := H1.out
      subst h1z
      rw [if_neg (by decide)] at he
      by_cases h0 : E2 = 0
      · subst h0
        clear he
        go_wp2_with (first
          | (go_at_call 40; refine (HB.out kb _ _ _ hr1 (hO.blk 0 rfl) (HT.out.own hO)).mono ?_; rintro e ww ⟨a2, c2, r2, rfl, hb, hh, hG⟩; replace hO := hO.add hb hh; clear hb hh))
        go_roundg 1
        case measure => omega
        case rel => exact .inr (.inr (.inl ⟨rfl, rfl, (by first | exact rfl | exact True.intro), (by first | exact rfl | exact True.intro), a2, c2, rfl, hG _ _ (hO.at 0 rfl), hO.tail⟩))
      · rw [if_pos h0] at he
        subst he
        obtain ⟨rfl, rfl⟩ := HNIL.out h0
        have d0 : (E2 == 0) = false := by simpa using h0
        have d0' : decide (E2 = 0) = false := decide_eq_false h0
        have d0'' : (E2 != 0) = true := by simpa using h0
        clear h0 HE HX HM HNIL HM3
        go_wp2_with (first
          | (go_at_call 40; refine (HB.out kb _ _ _ hr1 (hO.blk 0 rfl) (HT.out.own hO)).mono ?_; rintro e ww ⟨a2, c2, r2, rfl, hb, hh, hG⟩; replace hO := hO.add hb hh; clear hb hh))
        go_ret2
        exact ⟨none, 0, rfl, hO.below, World.ownsRow_nil _ _ _ _⟩
    · clear hO
      have hO := hO1
      clear hO1
      have i0 := stepsI2 kb
      have he := HE.out
      have h1z := H1.out
      subst h1z
      have h2z := H2.out
      subst h2z
      rw [if_neg (by decide), if_neg (by decide)] at he
      subst he
      by_cases h0 : E3 = 0
      · subst h0
        go_wp2_with (first
          | (go_at_call 43; refine (HD.out _ _ _ hr1).mono ?_; rintro e ww ⟨a2, c2, rfl, hb, hr⟩; replace hO := hO.addRow hb hr; clear hb hr))
        go_roundg 0
        case measure => omega
        case rel => exact .inr (.inr (.inr ⟨rfl, rfl, (by first | exact rfl | exact True.intro), (by first | exact rfl | exact True.intro), (by first | exact rfl | exact True.intro), a2, c2, rfl, hO⟩))
      · obtain ⟨rfl, rfl⟩ := HNIL.out h0
        have d0 : (E3 == 0) = false := by simpa using h0
        have d0' : decide (E3 = 0) = false := decide_eq_false h0
        have d0'' : (E3 != 0) = true := by simpa using h0
        clear h0 HE HX HM HNIL HM3
        go_wp2_with (first
          | (go_at_call 43; refine (HD.out _ _ _ hr1).mono ?_; rintro e ww ⟨a2, c2, rfl, hb, hr⟩; replace hO := hO.addRow hb hr; clear hb hr))
        go_ret2
        exact ⟨none, 0, rfl, hO.below, World.ownsRow_nil _ _ _ _⟩
    · clear hO
      have hO := hO1
      clear hO1
      have he := HE.out
      have hx := HX.out
      rw [H1.out, H2.out, H3.out] at he
      simp only [ne_eq, not_true_eq_false, if_false] at he
      rw [he, if_pos rfl] at hx
      subst hx
      subst he
      obtain rfl : M3 = M := by rw [← HM3.out, HM.out]
      clear HE HX HM HNIL HM3
      go_wp2
      go_ret2
      exact ⟨a1, c1, rfl, hO.below, hO.row 0 rfl⟩
end Go.Proofs.YtniibdglodnhoaaGreatDoor

/- Texts in a slice, joined; the pieces that they are; how pieces lie. Plain. -/
namespace Go.Sl
open Go.RowKit

structure Pc where
  f : Int
  l : Int
  s : BitVec 32
  deriving DecidableEq
def Pc.C (t : Pc) : Array Value := #[.int .i64 t.f, .int .i64 t.l, .int .u32 (t.s.toNat : Int)]
def pcs : List Pc → List Value
  | [] => []
  | t :: r => .int .i64 t.f :: .int .i64 t.l :: .int .u32 (t.s.toNat : Int) :: pcs r
theorem pcs_length : ∀ l : List Pc, (pcs l).length = l.length * 3
  | [] => rfl
  | t :: r => by simp only [pcs, List.length_cons, pcs_length r]; omega
theorem pcs_cons (t : Pc) (r : List Pc) : pcs (t :: r) = t.C.toList ++ pcs r := rfl
theorem pcs_get : ∀ (l : List Pc) (k : Nat) (h : k < l.length) (j : Nat) (v : Value), l[k].C.toList[j]? = some v → (pcs l)[k * 3 + j]? = some v
  | t :: r, 0, _, j, v, hv => by
    have hj : j < 3 := (List.getElem?_eq_some_iff.1 hv).1
    rw [pcs_cons, Nat.zero_mul, Nat.zero_add, List.getElem?_append_left (by exact hj)]
    exact hv
  | t :: r, k + 1, h, j, v, hv => by
    rw [pcs_cons, List.getElem?_append_right (by show 3 ≤ _; omega)]
    have := pcs_get r k (by simpa using h) j v (by simpa using hv)
    rw [← this]
    congr 1
    show (k + 1) * 3 + j - 3 = _
    omega
theorem pcs_set : ∀ (l : List Pc) (k : Nat) (x : Pc), k < l.length → (((pcs l).set (k * 3) (.int .i64 x.f)).set (k * 3 + 1) (.int .i64 x.l)).set (k * 3 + 2) (.int .u32 (x.s.toNat : Int)) = pcs (l.set k x)
  | t :: r, 0, x, _ => rfl
  | t :: r, k + 1, x, h => by
    have e0 : (k + 1) * 3 = k * 3 + 3 := by omega
    rw [e0, show k * 3 + 3 + 1 = (k * 3 + 1) + 3 by omega, show k * 3 + 3 + 2 = (k * 3 + 2) + 3 by omega]
    show _ :: _ :: _ :: (((pcs r).set (k * 3) _).set (k * 3 + 1) _).set (k * 3 + 2) _ = _
    rw [pcs_set r k x (by simpa using h)]
    rfl
/-- the pieces that texts are, one behind the other -/
def pieceAt (bs : List (List (BitVec 8))) (k : Nat) : Pc := ⟨((bs.take k).flatten.length : Int), ((bs.getD k []).length : Int), Crc.sum (bs.getD k [])⟩
def pieces (bs : List (List (BitVec 8))) : List Pc := (List.range bs.length).map (pieceAt bs)
theorem pieces_length (bs : List (List (BitVec 8))) : (pieces bs).length = bs.length := by simp [pieces]
theorem pieces_get (bs : List (List (BitVec 8))) (k : Nat) (h : k < (pieces bs).length) : (pieces bs)[k] = pieceAt bs k := by simp [pieces]
/-- the first k are laid, the others are not -/
def mix (bs : List (List (BitVec 8))) (k : Nat) : List Pc := (pieces bs).take k ++ List.replicate (bs.length - k) ⟨0, 0, 0#32⟩
theorem mix_length (bs : List (List (BitVec 8))) (k : Nat) (h : k ≤ bs.length) : (mix bs k).length = bs.length := by
  unfold mix
  rw [List.length_append, List.length_take, pieces_length, List.length_replicate]
  omega
theorem mix_zero (bs : List (List (BitVec 8))) : mix bs 0 = List.replicate bs.length ⟨0, 0, 0#32⟩ := by simp [mix]
theorem mix_all (bs : List (List (BitVec 8))) : mix bs bs.length = pieces bs := by
  unfold mix
  rw [Nat.sub_self, List.replicate_zero, List.append_nil, List.take_of_length_le (by rw [pieces_length]; omega)]
theorem mix_set (bs : List (List (BitVec 8))) (k : Nat) (h : k < bs.length) : (mix bs k).set k (pieceAt bs k) = mix bs (k + 1) := by
  have hk : k < (pieces bs).length := by rw [pieces_length]; exact h
  have hl : ((pieces bs).take k).length = k := by rw [List.length_take]; omega
  unfold mix
  rw [List.set_append_right _ _ (by omega), hl, Nat.sub_self, show bs.length - k = (bs.length - (k + 1)) + 1 by omega, List.replicate_succ, List.set_cons_zero, List.take_succ_eq_append_getElem hk, pieces_get, List.append_assoc]
  rfl
theorem flat_next (bs : List (List (BitVec 8))) (k : Nat) (h : k < bs.length) : (bs.take (k + 1)).flatten = (bs.take k).flatten ++ bs[k] := by
  rw [List.take_succ_eq_append_getElem h, List.flatten_append]
  simp
theorem flat_le (bs : List (List (BitVec 8))) (k : Nat) : (bs.take k).flatten.length ≤ bs.flatten.length := by
  have e : bs.flatten = (bs.take k).flatten ++ (bs.drop k).flatten := by rw [← List.flatten_append, List.take_append_drop]
  rw [e, List.length_append]
  omega
theorem flat_bound (m : Nat) : ∀ (bs : List (List (BitVec 8))), (∀ b ∈ bs, b.length ≤ m) → bs.flatten.length ≤ m * bs.length
  | [], _ => by simp
  | b :: r, h => by
    have h1 := h b (by simp)
    have h2 := flat_bound m r (fun x hx => h x (by simp [hx]))
    rw [List.flatten_cons, List.length_append, List.length_cons, Nat.mul_add]
    omega
/-- what is cut out of octets -/
def cutE (b : List (BitVec 8)) (p : Pc) : Int :=
  if p.f < 0 ∨ p.f > b.length ∨ p.l < 0 ∨ p.l > (b.length : Int) - p.f then 1 else if Crc.sum ((b.drop p.f.toNat).take p.l.toNat) ≠ p.s then 7 else 0
def cutT (b : List (BitVec 8)) (p : Pc) : List (BitVec 8) := if cutE b p = 0 then (b.drop p.f.toNat).take p.l.toNat else []
/-- the first error of pieces -/
def testE (b : List (BitVec 8)) : List Pc → Int
  | [] => 0
  | p :: r => if cutE b p = 0 then testE b r else cutE b p
end Go.Sl
namespace Go.Proofs.YtniibdglodnhoaaGreatDoor
/-- the texts themselves -/
def txs (ss : List Tb) : List (List (BitVec 8)) := ss.map Tb.b
theorem txs_length (ss : List Tb) : (txs ss).length = ss.length := by simp [txs]
theorem txs_get (ss : List Tb) (k : Nat) (h : k < ss.length) : (txs ss)[k]'(by rw [txs_length]; exact h) = ss[k].b := by simp [txs]
end Go.Proofs.YtniibdglodnhoaaGreatDoor

/- Engine: a store of three cells into an element of a row of the call's own. -/
namespace Go.Own
open Go.RowKit Go.Ord

section
variable {P : Program} {ops : Array Oper} {Q : Exit → Act → World → Prop} {a : Act} {w w0 : World} {L : List Res} {rest : List Oper}
variable {d : Option Tmp} {ty : TypeId} {pos : String} {aft : Array Edge}
theorem Own.cellPut (hO : Own w0 w L) (i : Nat) {g j n cap sz : Nat} {e : TypeId} {xs : List Value} (v : Value)
    (hi : L[i]? = some (.sl e sz (.slice (some ⟨g, 0, none⟩) n cap) n xs)) (hj : j < n * sz) (h1 : v.oneCell' = true) :
    (store ⟨g, j, none⟩ v).run P w = .ok () (w.setCell ⟨g, j, none⟩ v) ∧ Own w0 (w.setCell ⟨g, j, none⟩ v) (L.set i (.sl e sz (.slice (some ⟨g, 0, none⟩) n cap) n (xs.set j v))) := by
  have hrow := hO.row i hi
  have hlen := hrow.1
  have hc : w.cell? ⟨g, j, none⟩ = some (xs[j]'(by omega)) := by rw [hrow.cellAt j hj]; exact List.getElem?_eq_getElem _
  have hf : w.frozen? ⟨g, j, none⟩ = false := hrow.frozenAt j
  have hst := hrow.stored j v
  refine ⟨?_, hO.grown i hi hst.2 hst.1 (fun k hk => .inl hk)⟩
  rw [run_store P w _ v _ h1, hc]
  simp [hf]
theorem own_set3 (hO : Own w0 w L) (i : Nat) (T : TypeId) (x y : Operand) {g j n cap sz : Nat} {e : TypeId} {xs : List Value} (v0 v1 v2 : Value)
    (hi : L[i]? = some (.sl e sz (.slice (some ⟨g, 0, none⟩) n cap) n xs)) (hx : a.eval x = .pointer (some ⟨g, j, none⟩)) (hy : a.eval y = .agg #[v0, v1, v2]) (hj : j + 2 < n * sz)
    (hu : (P.info? T).map (·.size) = some 3) (h0 : v0.oneCell' = true) (h1 : v1.oneCell' = true) (h2 : v2.oneCell' = true)
    (h : ∀ w', Own w0 w' (L.set i (.sl e sz (.slice (some ⟨g, 0, none⟩) n cap) n (((xs.set j v0).set (j + 1) v1).set (j + 2) v2))) → wpList P ops Q rest (a.put d undef) w') :
    wpList P ops Q ({ dst := d, op := .store T x y, type := ty, pos := pos, after := aft, guard := none } :: rest) a w := by
  refine wpList_plain rfl fun K hK => ?_
  obtain ⟨inf, hinf, hs⟩ := Option.map_eq_some_iff.1 hu
  have hil : i < L.length := (List.getElem?_eq_some_iff.1 hi).1
  obtain ⟨r0, o0⟩ := Own.cellPut (P := P) hO i (j := j) v0 hi (by omega) h0
  obtain ⟨r1, o1⟩ := Own.cellPut (P := P) o0 i (j := j + 1) v1 (List.getElem?_set_self hil) (by omega) h1
  obtain ⟨r2, o2⟩ := Own.cellPut (P := P) o1 i (j := j + 2) v2 (List.getElem?_set_self (by simpa using hil)) (by omega) h2
  have hcs : (storeCells ⟨g, j, none⟩ [v0, v1, v2] 0).run P w = .ok () (((w.setCell ⟨g, j, none⟩ v0).setCell ⟨g, j + 1, none⟩ v1).setCell ⟨g, j + 2, none⟩ v2) := by
    simp only [storeCells, Sem.run_bind, Addr.add_lit, Nat.add_zero, r0, Result.andThen_ok, r1, Nat.zero_add, r2, Nat.add_assoc, Nat.reduceAdd, Sem.run_pure]
  unfold Oper.wp
  simp [execOp, Instr.storeAt, Instr.sureAddr, storeVar, hx, hy, sizeOf, typeInfo, hinf, hs, Value.cells, hcs]
  refine hK _ _ (h _ ?_)
  simpa using o2
end
end Go.Own

/- Walks: slices.Concat of any texts; Few. -/
namespace Go.Proofs.YtniibdglodnhoaaGreatDoor
open Go.RowKit Go.Own Go.Bv Go.Ord Go.Eq Go.Opn Go.Pb Go.Sl

/-- where the texts lie, and that they do -/
def Txs (w : World) (a : Option Addr) (len cap : Nat) (ss : List Tb) : Prop := Rd w 1 a len cap (ss.map Tb.v) ∧ ∀ x ∈ ss, Rd w 1 x.a x.n x.c (u8s x.b)
theorem Txs.len {w : World} {a : Option Addr} {len cap : Nat} {ss : List Tb} (h : Txs w a len cap ss) : ss.length = len := by have := h.1.len; rw [List.length_map] at this; omega
theorem Txs.at {w : World} {a : Option Addr} {len cap : Nat} {ss : List Tb} (h : Txs w a len cap ss) {k : Nat} (hk : k < ss.length) : (ss.map Tb.v)[k]? = some (.slice ss[k].a ss[k].n ss[k].c) ∧ Rd w 1 ss[k].a ss[k].n ss[k].c (u8s ss[k].b) ∧ ss[k].b.length = ss[k].n := by
  have h2 := h.2 _ (List.getElem_mem hk)
  refine ⟨?_, h2, by have := h2.len; rw [u8s_length] at this; omega⟩
  rw [List.getElem?_map, List.getElem?_eq_getElem hk]
  rfl
theorem Txs.own {w0 w : World} {L : List Res} {a : Option Addr} {len cap : Nat} {ss : List Tb} (h : Txs w0 a len cap ss) (hO : Own w0 w L) : Txs w a len cap ss := ⟨hO.rd h.1, fun x hx => hO.rd (h.2 x hx)⟩
/-- all of them up to a place -/
def upTo (ss : List Tb) (k : Nat) : List (BitVec 8) := ((txs ss).take k).flatten
theorem upTo_zero (ss : List Tb) : upTo ss 0 = [] := by simp [upTo]
theorem upTo_next (ss : List Tb) (k : Nat) (h : k < ss.length) : upTo ss (k + 1) = upTo ss k ++ ss[k].b := by
  unfold upTo
  rw [flat_next _ _ (by rw [txs_length]; exact h), txs_get ss k h]
theorem upTo_all (ss : List Tb) : upTo ss ss.length = (txs ss).flatten := by
  unfold upTo
  rw [List.take_of_length_le (by rw [txs_length]; omega)]
theorem upTo_le (ss : List Tb) (k : Nat) : (upTo ss k).length ≤ (txs ss).flatten.length := flat_le _ _

set_option maxHeartbeats 4000000 in
set_option maxRecDepth 100000 in
theorem concat_calls (a : Option Addr) (len cap : Nat) (ss : List Tb) (w : World) (hR : Txs w a len cap ss) (N : Nat) (X : List (BitVec 8)) (hX : (txs ss).flatten = X) (hN : X.length = N) (hmax : N ≤ 1000000) :
    Calls Tryz.prog 19 #[.slice a len cap] w fun e w' => ∃ a' c', e = .returned (.slice a' N c') ∧ Below w.heap.size w w' ∧ w'.ownsRow w.heap.size 5 1 (.slice a' N c') N (u8s X) := by
  have hO := Own.start w
  have hsl := hR.len
  have hle : ∀ k, (upTo ss k).length ≤ N := fun k => by rw [← hN, ← hX]; exact upTo_le ss k
  have hall : upTo ss len = X := by rw [← hsl, upTo_all, hX]
  have hlmax := Nat.le_trans hR.1.le hR.1.max
  unfold maxLen at hlmax
  have HR := Lib.hid hR
  have HSL := Lib.hid hsl
  have HLE := Lib.hid hle
  have HALL := Lib.hid hall
  have HNN := Lib.hid hN
  clear hR hsl hle hall hX hN
  generalize hW : w = wn at hO HR ⊢
  clear hW w
  go_enter Tryz.func19, Tryz.ntmps19
  go_wp2
  go_loopg [3, 11] len (fun m s3 c wr => ∃ k K : Nat, m = len - k ∧ k ≤ len ∧ c = .int .i64 k ∧ s3 = .int .i64 (K : Int) ∧ Hid ((upTo ss k).length = K) ∧ Own wn wr [])
  case atStart => exact ⟨0, 0, rfl, by omega, rfl, rfl, by show _ = _; rw [upTo_zero]; rfl, hO⟩
  case round =>
    obtain ⟨k, K, rfl, hk, rfl, rfl, HK, hO1⟩ := hrel
    clear hO
    have hO := hO1
    clear hO1
    by_cases hlt : k < len
    · have d0 : decide ((k : Int) < (len : Int)) = true := decide_eq_true (by omega)
      have hkl : k < ss.length := by rw [HSL.out]; exact hlt
      obtain ⟨q1, q2, q3⟩ := HR.out.at hkl
      have hnx := upTo_next ss k hkl
      have hle1 := HLE.out (k + 1)
      have hlk : (upTo ss (k + 1)).length = K + ss[k].n := by rw [hnx, List.length_append, HK.out, q3]
      rw [hlk] at hle1
      generalize ss[k] = t at *
      obtain ⟨ta, tn, tc, tb⟩ := t
      dsimp only at q1 q2 q3 hlk hle1
      obtain ⟨ba, off, rfl⟩ := HR.out.1.place (by omega)
      have HX := Lib.hid q1
      have HLK := Lib.hid hlk
      have dz : decide ((K : Int) + (tn : Int) < 0) = false := decide_eq_false (by omega)
      have ez : wrap64 ((K : Int) + (tn : Int)) = (K : Int) + (tn : Int) := by unfold wrap64; omega
      clear q1 q2 q3 hnx hlk hkl
      go_wp2_with ((with_reducible refine gLoad ?_); refine ld_rd (hO.rd HR.out.1) rfl HX.out (tA rfl) ?_)
      go_roundg (len - (k + 1))
      case measure => omega
      case rel => exact ⟨k + 1, K + tn, rfl, by omega, by go_num, by go_num, HLK.out, hO⟩
    · obtain rfl : k = len := by omega
      have d0 : decide ((k : Int) < (k : Int)) = false := decide_eq_false (by omega)
      have hKN : K = N := by have := HK.out; rw [HALL.out, HNN.out] at this; exact this.symm
      subst hKN
      have HG := Lib.hid (grow_calls K (by omega))
      clear HK
      go_wp2_with (go_at_call 36; refine (HG.out _).mono ?_; rintro e ww ⟨aG, cG, rfl, hb, hr⟩; replace hO := hO.addRow hb hr; clear hb hr)
      go_loopg [6, 27] k (fun m s6 c wr => ∃ (j J : Nat) (aK : Option Addr) (cK : Nat), m = k - j ∧ j ≤ k ∧ c = .int .i64 j ∧ s6 = .slice aK J cK ∧ Hid ((upTo ss j).length = J) ∧ Own wn wr [.sl 5 1 (.slice aK J cK) J (u8s (upTo ss j))])
      case atStart => exact ⟨0, 0, aG, cG, rfl, by omega, rfl, rfl, by show _ = _; rw [upTo_zero]; rfl, by rw [upTo_zero]; exact hO⟩
      case round =>
        obtain ⟨j, J, aK, cK, rfl, hj, rfl, rfl, HJ, hO1⟩ := hrel
        clear hO
        have hO := hO1
        clear hO1
        by_cases hlt : j < k
        · have d0 : decide ((j : Int) < (k : Int)) = true := decide_eq_true (by omega)
          have hkl : j < ss.length := by rw [HSL.out]; exact hlt
          obtain ⟨q1, q2, q3⟩ := HR.out.at hkl
          have hnx := upTo_next ss j hkl
          have hle1 := HLE.out (j + 1)
          have hlk : (upTo ss (j + 1)).length = J + ss[j].n := by rw [hnx, List.length_append, HJ.out, q3]
          rw [hlk] at hle1
          generalize ss[j] = t at *
          obtain ⟨ta, tn, tc, tb⟩ := t
          dsimp only at q1 q2 q3 hlk hle1 hnx
          obtain ⟨ba, off, rfl⟩ := HR.out.1.place (by omega)
          have HX := Lib.hid q1
          have HLK := Lib.hid hlk
          have HQ := Lib.hid q2
          have HF : Hid (u8s (upTo ss (j + 1)) = u8s (upTo ss j) ++ u8s tb) := by show _ = _; rw [hnx, u8s_append']
          clear q1 q2 q3 hnx hlk hkl
          go_wp2_with (first
            | ((with_reducible refine gLoad ?_); refine ld_rd (hO.rd HR.out.1) rfl HX.out (tA rfl) ?_)
            | ((with_reducible refine gAppend ?_); refine own_append hO 0 _ _ 29 eu8_8 rfl rfl rfl (hO.rd HQ.out) (u8s_one _) (J + tn) rfl (by simp [maxLen]; omega) (by omega) ?_; clear hO; intro a2 c2 ww hO))
          go_roundg (k - (j + 1))
          case measure => omega
          case rel => exact ⟨j + 1, J + tn, a2, c2, rfl, by omega, by go_num, rfl, HLK.out, by rw [HF.out]; exact hO⟩
        · obtain rfl : j = k := by omega
          have d0 : decide ((j : Int) < (j : Int)) = false := decide_eq_false (by omega)
          have hJ : J = K := by have := HJ.out; rw [HALL.out, HNN.out] at this; exact this.symm
          subst hJ
          go_wp2
          go_ret
          exact ⟨aK, cK, rfl, hO.below, by rw [← HALL.out]; exact hO.row 0 rfl⟩

set_option maxHeartbeats 2000000 in
set_option maxRecDepth 100000 in
theorem few_calls (a : Option Addr) (len cap : Nat) (ss : List Tb) (w : World) (hR : Txs w a len cap ss) (B : Bool) (hB : decide ((∀ x ∈ ss, x.n ≤ 60) ∧ len ≤ 8) = B) :
    Calls Tryz.prog 6 #[.slice a len cap] w fun e w' => e = .returned (.bool B) ∧ Below w.heap.size w w' := by
  have hO := Own.start w
  have hlmax := Nat.le_trans hR.1.le hR.1.max
  unfold maxLen at hlmax
  have HSL := Lib.hid hR.len
  have HR := Lib.hid hR
  have HB := Lib.hid hB
  clear hR hB
  generalize hW : w = wn at hO HR ⊢
  clear hW w
  go_enter Tryz.func6, Tryz.ntmps6
  go_wp2
  go_loopg [7] len (fun m c wr => ∃ k : Nat, m = len - k ∧ k ≤ len ∧ c = .int .i64 k ∧ Hid (∀ x ∈ ss.take k, x.n ≤ 60) ∧ Own wn wr [])
  case atStart => exact ⟨0, rfl, by omega, rfl, (fun x hx => by simp at hx), hO⟩
  case round =>
    obtain ⟨k, rfl, hk, rfl, HK, hO1⟩ := hrel
    clear hO
    have hO := hO1
    clear hO1
    by_cases hlt : k < len
    · have d0 : decide ((k : Int) < (len : Int)) = true := decide_eq_true (by omega)
      have hkl : k < ss.length := by rw [HSL.out]; exact hlt
      obtain ⟨q1, q2, q3⟩ := HR.out.at hkl
      have hmem := List.getElem_mem hkl
      have hnx : ss.take (k + 1) = ss.take k ++ [ss[k]] := List.take_succ_eq_append_getElem hkl
      generalize ss[k] = t at *
      obtain ⟨ta, tn, tc, tb⟩ := t
      dsimp only at q1 q2 q3
      obtain ⟨ba, off, rfl⟩ := HR.out.1.place (by omega)
      have HX := Lib.hid q1
      by_cases h60 : 60 < tn
      · have d1 : decide ((60 : Int) < (tn : Int)) = true := decide_eq_true (by omega)
        have hb : B = false := by
          rw [← HB.out]
          exact decide_eq_false fun h => by have := h.1 _ hmem; dsimp only at this; omega
        subst hb
        clear q1 q2 q3 hnx hkl hmem HB HK
        go_wp2_with ((with_reducible refine gLoad ?_); refine ld_rd (hO.rd HR.out.1) rfl HX.out (tA rfl) ?_)
        go_ret
        exact ⟨rfl, hO.below⟩
      · have d1 : decide ((60 : Int) < (tn : Int)) = false := decide_eq_false (by omega)
        have HK2 : Hid (∀ x ∈ ss.take (k + 1), x.n ≤ 60) := by
          intro x hx
          rw [hnx, List.mem_append, List.mem_singleton] at hx
          rcases hx with hx | rfl
          · exact HK.out x hx
          · dsimp only; omega
        clear q1 q2 q3 hnx hkl hmem HB HK
        go_wp2_with ((with_reducible refine gLoad ?_); refine ld_rd (hO.rd HR.out.1) rfl HX.out (tA rfl) ?_)
        go_roundg (len - (k + 1))
        case measure => omega
        case rel => exact ⟨k + 1, rfl, by omega, by go_num, HK2.out, hO⟩
    · obtain rfl : k = len := by omega
      have d0 : decide ((k : Int) < (k : Int)) = false := decide_eq_false (by omega)
      have hb : B = decide (k ≤ 8) := by
        rw [← HB.out]
        have h := HK.out
        rw [List.take_of_length_le (by rw [HSL.out]; omega)] at h
        rw [decide_eq_decide]
        exact ⟨fun h' => h'.2, fun h' => ⟨h, h'⟩⟩
      subst hb
      clear HB HK
      go_wp2
      go_ret
      exact ⟨by simp; omega, hO.below⟩
end Go.Proofs.YtniibdglodnhoaaGreatDoor

/- Walk: solid's Build. -/
namespace Go.Own
open Go.RowKit
section
variable {P : Program}
/-- four results: two slots, a block, a slot -/
theorem res_ttct {fn : Func} {p u v v2 : Tmp} {ty : TypeId} (h : fn.results = #[.tmp v, .tmp v2, .cell p ty, .tmp u]) (tmps : Array Value) (w : World) (g : Nat) (t : TypeId) (cs : Array Value) (fr : Nat × Nat) (d : TypeDesc)
    (hp : tmps.getD p undef = .pointer (some ⟨g, 0, none⟩)) (hg : w.heap[g]? = some (.cells cs t fr))
    (hu : P.underlying ty = some d) (hd : (match d with | .struct _ | .array _ _ => true | _ => false) = true) (hi : (P.info? ty).map (·.size) = some cs.size) :
    (results fn tmps).run P w = .ok (.tuple #[tmps.getD v undef, tmps.getD v2 undef, .agg cs, tmps.getD u undef]) w := by
  have hp' : tmps[p]?.getD undef = .pointer (some ⟨g, 0, none⟩) := by simpa using hp
  simp [results, h, hp', asAddr, run_loadVar_row w g t ty cs fr d hg hu hd hi]
end
end Go.Own
namespace Go.Proofs.YtniibdglodnhoaaGreatDoor
open Go.RowKit Go.Own Go.Bv Go.Ord Go.Eq Go.Opn Go.Pb Go.Sl

theorem epc : Elem Tryz.prog 32 44 (.agg (Pc.C ⟨0, 0, 0#32⟩)) 3 24 := ⟨Tryz.underlying32, by kernel_rfl, rfl, by decide⟩
theorem ipc : (Tryz.prog.info? 44).map (·.size) = some 3 := by kernel_rfl
theorem made_pcs (bs : List (List (BitVec 8))) (n : Nat) (hl : bs.length = n) (hn : n ≤ 8) : (madeCells (Value.agg (Pc.C ⟨0, 0, 0#32⟩)).cells (n * 3)).toList = pcs (mix bs 0) := by
  rw [mix_zero, hl]
  obtain rfl | rfl | rfl | rfl | rfl | rfl | rfl | rfl | rfl : n = 0 ∨ n = 1 ∨ n = 2 ∨ n = 3 ∨ n = 4 ∨ n = 5 ∨ n = 6 ∨ n = 7 ∨ n = 8 := by omega
  all_goals kernel_rfl

set_option maxHeartbeats 4000000 in
set_option maxRecDepth 100000 in
theorem build_okN (key : St) (n : BitVec 64) (a : Option Addr) (len cap : Nat) (ss : List Tb) (w : World) (hR : Txs w a len cap ss) (hlen : len ≤ 8) (hn : n ≠ 18446744073709551615#64) (hT : Turns w) (X : List (BitVec 8)) (hX : (txs ss).flatten = X) (hX6 : X.length ≤ 600) (T : List (BitVec 8)) (hTT : sealT key n X = T) (M : Nat) (hM : T.length = M) :
    Calls Tryz.prog 7 #[.agg (ringC key n), .slice a len cap] w fun e w' => ∃ a1 c1 g2, e = .returned (.tuple #[.slice a1 M c1, .slice (some ⟨g2, 0, none⟩) len len, .agg (ringC key (n + 1#64)), .int .i64 0]) ∧
      Own w w' [.sl 44 3 (.slice (some ⟨g2, 0, none⟩) len len) len (pcs (pieces (txs ss))), .sl 5 1 (.slice a1 M c1) M (u8s T)] := by
  have hO := Own.start w
  have hsl := hR.len
  have htl : (txs ss).length = len := by rw [txs_length, hsl]
  obtain ⟨N, hN⟩ : ∃ N, X.length = N := ⟨_, rfl⟩
  have hle : ∀ k, (upTo ss k).length ≤ N := fun k => by rw [← hN, ← hX]; exact upTo_le ss k
  have hN480 : N ≤ 600 := by omega
  have HMADE := Lib.hid (made_pcs (txs ss) len htl hlen)
  have HSET := Lib.hid (fun k (hk : k < len) => pcs_set (mix (txs ss) k) k (pieceAt (txs ss) k) (by rw [mix_length _ _ (by omega)]; omega))
  have HMIX := Lib.hid (fun k (hk : k < len) => mix_set (txs ss) k (by omega))
  have HALL : Hid (mix (txs ss) len = pieces (txs ss)) := by show _ = _; rw [← htl, mix_all]
  have HPC : Hid (∀ k (hk : k < ss.length), pieceAt (txs ss) k = ⟨((upTo ss k).length : Int), (ss[k].b.length : Int), Crc.sum ss[k].b⟩) := by
    intro k hk
    have e : (txs ss).getD k [] = ss[k].b := by
      rw [List.getD_eq_getElem?_getD, List.getElem?_eq_getElem (by rw [txs_length]; exact hk), txs_get ss k hk]; rfl
    unfold pieceAt upTo
    rw [e]
  have G1 := Lib.hid (fun w h => concat_calls a len cap ss w h N X hX hN (by omega))
  have G2 := Lib.hid (fun w a c h hT => sseal_ok key n a N c X w h (by omega) hn hT T hTT M hM)
  have HR := Lib.hid hR
  have HT := Lib.hid hT
  have HSL := Lib.hid hsl
  have HLE := Lib.hid hle
  have d0 : decide ((65536 : Int) < (N : Int)) = false := decide_eq_false (by omega)
  obtain ⟨n1, hn1⟩ : ∃ n1, n + 1#64 = n1 := ⟨_, rfl⟩
  rw [hn1] at G2 ⊢
  clear hR hT hsl htl hN hle hX hTT hM hn hn1 hX6
  generalize hW : w = wn at hO HT HR ⊢
  clear hW w
  go_enter Tryz.func7, Tryz.ntmps7
  go_wp2_with (first
    | ((with_reducible refine gBox ?_); first | (refine bxA hO rfl ?_; clear hO; intro br ww hO) | (refine bx1 hO rfl rfl ?_; clear hO; intro br ww hO))
    | ((with_reducible refine gG ?_); refine wpList_want rfl ?_)
    | ((with_reducible refine gAlloc (d := some 6) (T := 27) ?_); refine own_alloc hO _ _ irz ?_; clear hO; intro zb ww hO)
    | ((with_reducible refine gAlloc (d := some 10) (T := 27) ?_); refine own_alloc hO _ _ irz ?_; clear hO; intro bn ww hO)
    | (go_at_call 19; refine (G1.out _ (HR.out.own hO)).mono ?_; rintro e ww ⟨a2, c2, rfl, hb, hr⟩; replace hO := hO.addRow hb hr; clear hb hr)
    | (go_at_call 13; refine (G2.out _ _ _ (hO.rdAt 0 rfl) (HT.out.own hO)).mono ?_; rintro e ww ⟨a3, c3, rfl, hb, hr⟩; replace hO := hO.addRow hb hr; clear hb hr)
    | ((with_reducible refine gMake ?_); refine own_make hO _ _ 32 epc len rfl rfl (by omega) (by omega) (by omega) (by simp [maxLen]; omega) ?_; clear hO; intro gp ww hO)
    | ((with_reducible refine gLoad ?_); first | refine ldX hO 0 rfl rfl (tA rfl) (tS rfl) ?_ | refine ldC hO 0 rfl rfl (tA rfl) rfl ?_ | refine ldX hO 1 rfl rfl (tA rfl) (tS rfl) ?_ | refine ldC hO 1 rfl rfl (tA rfl) rfl ?_ | refine ldX hO 2 rfl rfl (tA rfl) (tS rfl) ?_ | refine ldC hO 2 rfl rfl (tA rfl) rfl ?_ | refine ldX hO 3 rfl rfl (tA rfl) (tS rfl) ?_ | refine ldC hO 3 rfl rfl (tA rfl) rfl ?_ | refine ldX hO 4 rfl rfl (tA rfl) (tS rfl) ?_ | refine ldC hO 4 rfl rfl (tA rfl) rfl ?_ | refine ldX hO 5 rfl rfl (tA rfl) (tS rfl) ?_ | refine ldC hO 5 rfl rfl (tA rfl) rfl ?_)
    | ((with_reducible refine gStore ?_); first | (refine stX hO 0 rfl rfl rfl rfl rfl (tS rfl) ?_; clear hO; intro ww hO) | (refine stC hO 0 rfl rfl rfl (ltb rfl) rfl (tS rfl) ?_; clear hO; intro ww hO) | (refine stX hO 1 rfl rfl rfl rfl rfl (tS rfl) ?_; clear hO; intro ww hO) | (refine stC hO 1 rfl rfl rfl (ltb rfl) rfl (tS rfl) ?_; clear hO; intro ww hO) | (refine stX hO 2 rfl rfl rfl rfl rfl (tS rfl) ?_; clear hO; intro ww hO) | (refine stC hO 2 rfl rfl rfl (ltb rfl) rfl (tS rfl) ?_; clear hO; intro ww hO) | (refine stX hO 3 rfl rfl rfl rfl rfl (tS rfl) ?_; clear hO; intro ww hO) | (refine stC hO 3 rfl rfl rfl (ltb rfl) rfl (tS rfl) ?_; clear hO; intro ww hO) | (refine stX hO 4 rfl rfl rfl rfl rfl (tS rfl) ?_; clear hO; intro ww hO) | (refine stC hO 4 rfl rfl rfl (ltb rfl) rfl (tS rfl) ?_; clear hO; intro ww hO) | (refine stX hO 5 rfl rfl rfl rfl rfl (tS rfl) ?_; clear hO; intro ww hO) | (refine stC hO 5 rfl rfl rfl (ltb rfl) rfl (tS rfl) ?_; clear hO; intro ww hO)))
  replace hO : Own wn ww [.sl 44 3 (.slice (some ⟨gp, 0, none⟩) len len) len (pcs (mix (txs ss) 0)), .blk bn (.cells (ringC key n1) 27 (0,0)), .sl 5 1 (.slice a3 M c3) M (u8s T), .sl 5 1 (.slice a2 N c2) N (u8s X), .blk zb (.cells (ringC St.zero 0#64) 27 (0,0)), .blk br (.cells (ringC key n) 27 (0,0))] := by rw [← HMADE.out]; exact hO
  go_loopg [13, 38] len (fun m s13 c wr => ∃ k K : Nat, m = len - k ∧ k ≤ len ∧ c = .int .i64 k ∧ s13 = .int .i64 (K : Int) ∧ Hid ((upTo ss k).length = K) ∧ Own wn wr [.sl 44 3 (.slice (some ⟨gp, 0, none⟩) len len) len (pcs (mix (txs ss) k)), .blk bn (.cells (ringC key n1) 27 (0,0)), .sl 5 1 (.slice a3 M c3) M (u8s T), .sl 5 1 (.slice a2 N c2) N (u8s X), .blk zb (.cells (ringC St.zero 0#64) 27 (0,0)), .blk br (.cells (ringC key n) 27 (0,0))])
  case atStart => exact ⟨0, 0, rfl, by omega, rfl, rfl, by show _ = _; rw [upTo_zero]; rfl, hO⟩
  case round =>
    obtain ⟨k, K, rfl, hk, rfl, rfl, HK, hO1⟩ := hrel
    clear hO
    have hO := hO1
    clear hO1
    by_cases hlt : k < len
    · have d1 : decide ((k : Int) < (len : Int)) = true := decide_eq_true (by omega)
      have hkl : k < ss.length := by rw [HSL.out]; exact hlt
      obtain ⟨q1, q2, q3⟩ := HR.out.at hkl
      have hnx := upTo_next ss k hkl
      have hle1 := HLE.out (k + 1)
      have hlk : (upTo ss (k + 1)).length = K + ss[k].n := by rw [hnx, List.length_append, HK.out, q3]
      rw [hlk] at hle1
      have hpc := HPC.out k hkl
      have hset := HSET.out k hlt
      rw [HMIX.out k hlt, hpc] at hset
      dsimp only at hset
      rw [HK.out, q3] at hset
      generalize ss[k] = t at *
      obtain ⟨ta, tn, tc, tb⟩ := t
      dsimp only at q1 q2 q3 hlk hle1 hset
      obtain ⟨ba, off, rfl⟩ := HR.out.1.place (by omega)
      obtain ⟨su, hsu⟩ : ∃ su, Crc.sum tb = su := ⟨_, rfl⟩
      rw [hsu] at hset
      have HQ := Lib.hid q2
      have G3 := Lib.hid (fun w h => sum_calls ta tn tc tb w h)
      rw [hsu] at G3
      have HX := Lib.hid q1
      have HLK := Lib.hid hlk
      have HST := Lib.hid hset
      have ez : wrap64 ((K : Int) + (tn : Int)) = (K : Int) + (tn : Int) := by unfold wrap64; omega
      clear q1 q2 q3 hnx hlk hkl hpc hset hsu
      generalize pcs (mix (txs ss) k) = cur at *
      go_wp2_with (first
        | ((with_reducible refine gLoad (T := 29) ?_); refine ld_rd (hO.rd HR.out.1) rfl HX.out (tA rfl) ?_)
        | (go_at_call 20; refine (G3.out _ (hO.rd HQ.out)).mono ?_; rintro e ww ⟨rfl, hb⟩; replace hO := hO.call hb; clear hb)
        | ((with_reducible refine gBld (T := 44) ?_); refine own_bld #[.int .i64 (K : Int), .int .i64 (tn : Int), .int .u32 (su.toNat : Int)] (by kernel_rfl) ?_)
        | ((with_reducible refine gStore (T := 44) ?_); refine own_set3 hO 0 _ _ _ (j := k * 3) (.int .i64 (K : Int)) (.int .i64 (tn : Int)) (.int .u32 (su.toNat : Int)) rfl rfl rfl (by omega) ipc rfl rfl rfl ?_; clear hO; intro ww hO))
      go_roundg (len - (k + 1))
      case measure => omega
      case rel => exact ⟨k + 1, K + tn, rfl, by omega, by go_num, by go_num, HLK.out, by rw [← HST.out]; exact hO⟩
    · obtain rfl : k = len := by omega
      have d1 : decide ((k : Int) < (k : Int)) = false := decide_eq_false (by omega)
      rw [HALL.out] at hO
      clear HK HSET HMIX HPC HMADE
      go_wp2
      refine wp_region_text (by kernel_rfl) (by kernel_rfl) ?_
      replace hO := hO.drew
      generalize World.drew _ = wd at hO ⊢
      go_wp2_with (first
        | ((with_reducible refine gLoad ?_); first | refine ldX hO 0 rfl rfl (tA rfl) (tS rfl) ?_ | refine ldC hO 0 rfl rfl (tA rfl) rfl ?_ | refine ldX hO 1 rfl rfl (tA rfl) (tS rfl) ?_ | refine ldC hO 1 rfl rfl (tA rfl) rfl ?_ | refine ldX hO 2 rfl rfl (tA rfl) (tS rfl) ?_ | refine ldC hO 2 rfl rfl (tA rfl) rfl ?_ | refine ldX hO 3 rfl rfl (tA rfl) (tS rfl) ?_ | refine ldC hO 3 rfl rfl (tA rfl) rfl ?_ | refine ldX hO 4 rfl rfl (tA rfl) (tS rfl) ?_ | refine ldC hO 4 rfl rfl (tA rfl) rfl ?_ | refine ldX hO 5 rfl rfl (tA rfl) (tS rfl) ?_ | refine ldC hO 5 rfl rfl (tA rfl) rfl ?_)
        | ((with_reducible refine gStore ?_); first | (refine stX hO 0 rfl rfl rfl rfl rfl (tS rfl) ?_; clear hO; intro ww hO) | (refine stC hO 0 rfl rfl rfl (ltb rfl) rfl (tS rfl) ?_; clear hO; intro ww hO) | (refine stX hO 1 rfl rfl rfl rfl rfl (tS rfl) ?_; clear hO; intro ww hO) | (refine stC hO 1 rfl rfl rfl (ltb rfl) rfl (tS rfl) ?_; clear hO; intro ww hO) | (refine stX hO 2 rfl rfl rfl rfl rfl (tS rfl) ?_; clear hO; intro ww hO) | (refine stC hO 2 rfl rfl rfl (ltb rfl) rfl (tS rfl) ?_; clear hO; intro ww hO) | (refine stX hO 3 rfl rfl rfl rfl rfl (tS rfl) ?_; clear hO; intro ww hO) | (refine stC hO 3 rfl rfl rfl (ltb rfl) rfl (tS rfl) ?_; clear hO; intro ww hO) | (refine stX hO 4 rfl rfl rfl rfl rfl (tS rfl) ?_; clear hO; intro ww hO) | (refine stC hO 4 rfl rfl rfl (ltb rfl) rfl (tS rfl) ?_; clear hO; intro ww hO) | (refine stX hO 5 rfl rfl rfl rfl rfl (tS rfl) ?_; clear hO; intro ww hO) | (refine stC hO 5 rfl rfl rfl (ltb rfl) rfl (tS rfl) ?_; clear hO; intro ww hO))
        | ((with_reducible refine gI ?_); refine wpI_step rfl rfl (by kernel_rfl) ?_; intro K hK; have HK := Lib.hid hK; clear hK) | ((with_reducible refine gI ?_); first | refine wpI_skip rfl ?_ | refine wpI_want rfl ?_) | ((with_reducible refine gOnlyK0 HK.out ?_); clear HK K; first | (refine wpI_act (by simp only [Act.put, List.setIfInBounds_toArray, List.set_cons_succ, List.set_cons_zero]; rfl) ?_) | skip) | (with_reducible refine wpI_nil ?_))
      refine bodyPost_ret (res_ttct rfl _ _ _ 27 (ringC key n1) (0,0) _ rfl (hO.blk 4 rfl) Tryz.underlying27 rfl (irs _ _)) rfl ⟨a3, c3, gp, rfl, hO.sub (List.Sublist.cons_cons _ (List.Sublist.cons _ (List.Sublist.cons_cons _ (List.nil_sublist _))))⟩

/-- texts that are few and short -/
theorem few_length {w : World} {a : Option Addr} {len cap : Nat} {ss : List Tb} (hR : Txs w a len cap ss) (hlen : len ≤ 8) (h60 : ∀ x ∈ ss, x.n ≤ 60) : (txs ss).flatten.length ≤ 480 := by
  have htl : (txs ss).length = len := by rw [txs_length, hR.len]
  have hb : ∀ b ∈ txs ss, b.length ≤ 60 := fun b hbm => by
    unfold txs at hbm
    obtain ⟨x, hx, rfl⟩ := List.mem_map.1 hbm
    have h1 := (hR.2 x hx).len
    rw [u8s_length] at h1
    have := h60 x hx
    omega
  have h := flat_bound 60 (txs ss) hb
  rw [htl] at h
  have : 60 * len ≤ 480 := by omega
  omega
theorem build_ok (key : St) (n : BitVec 64) (a : Option Addr) (len cap : Nat) (ss : List Tb) (w : World) (hR : Txs w a len cap ss) (hlen : len ≤ 8) (h60 : ∀ x ∈ ss, x.n ≤ 60) (hn : n ≠ 18446744073709551615#64) (hT : Turns w) (X : List (BitVec 8)) (hX : (txs ss).flatten = X) (T : List (BitVec 8)) (hTT : sealT key n X = T) (M : Nat) (hM : T.length = M) :
    Calls Tryz.prog 7 #[.agg (ringC key n), .slice a len cap] w fun e w' => ∃ a1 c1 g2, e = .returned (.tuple #[.slice a1 M c1, .slice (some ⟨g2, 0, none⟩) len len, .agg (ringC key (n + 1#64)), .int .i64 0]) ∧
      Own w w' [.sl 44 3 (.slice (some ⟨g2, 0, none⟩) len len) len (pcs (pieces (txs ss))), .sl 5 1 (.slice a1 M c1) M (u8s T)] := by
  have h := few_length hR hlen h60
  rw [hX] at h
  exact build_okN key n a len cap ss w hR hlen hn hT X hX (by omega) T hTT M hM
end Go.Proofs.YtniibdglodnhoaaGreatDoor

/- Walks: solid's Cut, Test. -/
namespace Go.Proofs.YtniibdglodnhoaaGreatDoor
open Go.RowKit Go.Own Go.Bv Go.Ord Go.Eq Go.Opn Go.Pb Go.Sl

theorem rd_cutAny {w : World} {a : Option Addr} {n cap : Nat} {b : List (BitVec 8)} (h : Rd w 1 a n cap (u8s b)) (F K : Nat) (hFK : F + K ≤ n) :
    ∃ aX, (if cap = F then a else a.map fun x => x.add (F * 1)) = aX ∧ Rd w 1 aX K (cap - F) (u8s ((b.drop F).take K)) := by
  have hln : b.length = n := by have := h.len; rw [u8s_length] at this; omega
  have hle := h.le
  have hm := h.max
  have hXl : ((b.drop F).take K).length = K := by rw [List.length_take, List.length_drop, hln]; omega
  refine ⟨_, rfl, ?_⟩
  cases a with
  | none =>
    obtain ⟨rfl, rfl⟩ := h.nil rfl
    obtain rfl : F = 0 := by omega
    obtain rfl : K = 0 := by omega
    rw [if_pos rfl, List.take_zero]
    exact rd_nil w
  | some x =>
    by_cases hK : K = 0
    · subst hK
      refine ⟨by rw [u8s_length, hXl, Nat.zero_mul], by omega, by omega, fun h0 => ?_, fun h0 => absurd (Nat.zero_mul 1) h0⟩
      split at h0 <;> cases h0
    · obtain ⟨bb, off, he, _, _⟩ := h.at' (by omega)
      cases he
      rw [if_neg (by omega), Nat.mul_one, Option.map_some, Addr.add_lit]
      have h2 := h.cut F K hFK
      have e : ((u8s b).drop F).take K = u8s ((b.drop F).take K) := by unfold u8s; rw [List.map_take, List.map_drop]
      rw [e] at h2
      exact h2
theorem elem8 : Tryz.prog.elem 29 = 5 := by kernel_rfl
theorem hu8 : Tryz.prog.underlying 29 = some (.slice (Tryz.prog.elem 29)) := by rw [elem8]; exact Tryz.underlying29
theorem size8 (w : World) : (sizeOf (Tryz.prog.elem 29)).run Tryz.prog w = .ok 1 w := by
  rw [elem8]
  obtain ⟨inf, hinf, hs⟩ := Option.map_eq_some_iff.1 iu8z
  simp [sizeOf, typeInfo, hinf, hs]
theorem slc_from (a : Option Addr) (n cap F : Nat) (hF : F ≤ n) (aX : Option Addr) (hX : (if cap = F then a else a.map fun x => x.add (F * 1)) = aX) (w : World) :
    (Instr.slice 29 (.slice a n cap) (some (.int .i64 (F : Int))) none none).run Tryz.prog w = .ok (.slice aX (n - F) (cap - F)) w := by
  rw [run_slice_l w 29 a n cap hu8 .i64 F (by omega) (by omega), size8]
  simp only [Result.andThen_ok, sliced, Int.toNat_natCast]
  rw [hX]
theorem slc_to (a : Option Addr) (n cap K : Nat) (hK : K ≤ cap) (w : World) :
    (Instr.slice 29 (.slice a n cap) none (some (.int .i64 (K : Int))) none).run Tryz.prog w = .ok (.slice a K cap) w := by
  rw [run_slice_h w 29 a n cap hu8 .i64 K (by omega) (by omega), size8]
  simp only [Result.andThen_ok, sliced, Int.toNat_natCast, Nat.sub_zero, Nat.zero_mul]
  by_cases h : cap = 0
  · rw [if_pos h]
  · rw [if_neg h]
    cases a <;> simp [Addr.add_zero']
theorem ipcz : (Tryz.prog.info? 44).bind (·.zero) = some (.agg (Pc.C ⟨0, 0, 0#32⟩)) := by kernel_rfl
set_option maxHeartbeats 4000000 in
set_option maxRecDepth 100000 in
theorem cut_calls (a : Option Addr) (n cap : Nat) (b : List (BitVec 8)) (p : Pc) (w : World) (hR : Rd w 1 a n cap (u8s b)) (hn : n ≤ 1000000) (E : Int) (T : List (BitVec 8)) (M : Nat) (hE : cutE b p = E) (hT : cutT b p = T) (hM : T.length = M) :
    Calls Tryz.prog 15 #[.slice a n cap, .agg p.C] w fun e w' => ∃ a' c', e = .returned (.tuple #[.slice a' M c', .int .i64 E]) ∧ Below w.heap.size w w' ∧ w'.ownsRow w.heap.size 5 1 (.slice a' M c') M (u8s T) := by
  have hO := Own.start w
  have hln : b.length = n := by have := hR.len; rw [u8s_length] at this; omega
  have nilT : E ≠ 0 → T = [] ∧ M = 0 := fun h => by
    have h1 : T = [] := by rw [← hT]; unfold cutT; rw [hE, if_neg h]
    exact ⟨h1, by rw [← hM, h1]; rfl⟩
  have hE0 := hE
  unfold cutE at hE
  rw [hln] at hE
  obtain ⟨f, l, s⟩ := p
  dsimp only at hE
  by_cases h1 : f < 0 ∨ f > (n : Int) ∨ l < 0 ∨ l > (n : Int) - f
  · rw [if_pos h1] at hE
    subst hE
    obtain ⟨rfl, rfl⟩ := nilT (by decide)
    clear hT hM nilT hE0 hR hln
    generalize hW : w = wn at hO ⊢
    clear hW w
    by_cases c1 : f < 0
    · have d1 : decide (f < 0) = true := decide_eq_true c1
      clear h1 c1
      go_enter Tryz.func15, Tryz.ntmps15
      go_wp2_with (first
        | (exact False.elim ‹False›)
        | ((with_reducible refine gBox ?_); first | (refine bxA hO rfl ?_; clear hO; intro pb ww hO) | (refine bx1 hO rfl rfl ?_; clear hO; intro pb ww hO))
        | ((with_reducible refine gLoad ?_); first | refine ldX hO 0 rfl rfl (tA rfl) (tS rfl) ?_ | refine ldC hO 0 rfl rfl (tA rfl) rfl ?_))
      go_ret2
      exact ⟨none, 0, rfl, hO.below, World.ownsRow_nil _ _ _ _⟩
    have d1 : decide (f < 0) = false := decide_eq_false c1
    by_cases c2 : (n : Int) < f
    · have d2 : decide ((n : Int) < f) = true := decide_eq_true c2
      clear h1 c1 c2
      go_enter Tryz.func15, Tryz.ntmps15
      go_wp2_with (first
        | ((with_reducible refine gG (d := some 12) ?_); refine wpList_want rfl ?_)
        | ((with_reducible refine gBox ?_); first | (refine bxA hO rfl ?_; clear hO; intro pb ww hO) | (refine bx1 hO rfl rfl ?_; clear hO; intro pb ww hO))
        | ((with_reducible refine gLoad ?_); first | refine ldX hO 0 rfl rfl (tA rfl) (tS rfl) ?_ | refine ldC hO 0 rfl rfl (tA rfl) rfl ?_))
      go_ret2
      exact ⟨none, 0, rfl, hO.below, World.ownsRow_nil _ _ _ _⟩
    have d2 : decide ((n : Int) < f) = false := decide_eq_false c2
    by_cases c3 : l < 0
    · have d3 : decide (l < 0) = true := decide_eq_true c3
      clear h1 c1 c2 c3
      go_enter Tryz.func15, Tryz.ntmps15
      go_wp2_with (first
        | ((with_reducible refine gG (d := some 12) ?_); refine wpList_want rfl ?_) | ((with_reducible refine gG (d := some 19) ?_); refine wpList_want rfl ?_)
        | ((with_reducible refine gBox ?_); first | (refine bxA hO rfl ?_; clear hO; intro pb ww hO) | (refine bx1 hO rfl rfl ?_; clear hO; intro pb ww hO))
        | ((with_reducible refine gLoad ?_); first | refine ldX hO 0 rfl rfl (tA rfl) (tS rfl) ?_ | refine ldC hO 0 rfl rfl (tA rfl) rfl ?_))
      go_ret2
      exact ⟨none, 0, rfl, hO.below, World.ownsRow_nil _ _ _ _⟩
    have d3 : decide (l < 0) = false := decide_eq_false c3
    have d4 : decide ((n : Int) - f < l) = true := decide_eq_true (by omega)
    have e4 : wrap64 ((n : Int) - f) = (n : Int) - f := by unfold wrap64; omega
    clear h1
    go_enter Tryz.func15, Tryz.ntmps15
    go_wp2_with (first
      | ((with_reducible refine gG (d := some 12) ?_); refine wpList_want rfl ?_) | ((with_reducible refine gG (d := some 19) ?_); refine wpList_want rfl ?_) | ((with_reducible refine gG (d := some 24) ?_); refine wpList_want rfl ?_) | ((with_reducible refine gG (d := some 28) ?_); refine wpList_want rfl ?_)
      | ((with_reducible refine gBox ?_); first | (refine bxA hO rfl ?_; clear hO; intro pb ww hO) | (refine bx1 hO rfl rfl ?_; clear hO; intro pb ww hO))
      | ((with_reducible refine gLoad ?_); first | refine ldX hO 0 rfl rfl (tA rfl) (tS rfl) ?_ | refine ldC hO 0 rfl rfl (tA rfl) rfl ?_))
    go_ret2
    exact ⟨none, 0, rfl, hO.below, World.ownsRow_nil _ _ _ _⟩
  rw [if_neg h1] at hE
  obtain ⟨F, rfl⟩ : ∃ F : Nat, f = (F : Int) := ⟨f.toNat, by omega⟩
  obtain ⟨K, rfl⟩ : ∃ K : Nat, l = (K : Int) := ⟨l.toNat, by omega⟩
  rw [Int.toNat_natCast, Int.toNat_natCast] at hE
  have hFK : F + K ≤ n := by omega
  obtain ⟨X, hX⟩ : ∃ X, (b.drop F).take K = X := ⟨_, rfl⟩
  have hXl : X.length = K := by rw [← hX, List.length_take, List.length_drop, hln]; omega
  rw [hX] at hE
  have hT2 : T = if E = 0 then X else [] := by
    rw [← hT]; unfold cutT; rw [hE0]
    dsimp only
    rw [Int.toNat_natCast, Int.toNat_natCast, hX]
  obtain ⟨u, hu⟩ : ∃ u, Crc.sum X = u := ⟨_, rfl⟩
  rw [hu] at hE
  have d1 : decide ((F : Int) < 0) = false := decide_eq_false (by omega)
  have d2 : decide ((n : Int) < (F : Int)) = false := decide_eq_false (by omega)
  have d2' : decide (n < F) = false := decide_eq_false (by omega)
  have d2'' : decide (F ≤ n) = true := decide_eq_true (by omega)
  have d3 : decide ((K : Int) < 0) = false := decide_eq_false (by omega)
  have d4 : decide ((n : Int) - (F : Int) < (K : Int)) = false := decide_eq_false (by omega)
  have e4 : wrap64 ((n : Int) - (F : Int)) = (n : Int) - (F : Int) := by unfold wrap64; omega
  have hle := hR.le
  have hmx := hR.max
  unfold maxLen at hmx
  obtain ⟨aX, hv, hRX⟩ := rd_cutAny hR F K hFK
  rw [hX] at hRX
  have hs1 := slc_from a n cap F (by omega) aX hv
  have hs2 := slc_to aX (n - F) (cap - F) K (by omega)
  obtain ⟨cX, hcX⟩ : ∃ c, cap - F = c := ⟨_, rfl⟩
  obtain ⟨nX, hnX⟩ : ∃ c, n - F = c := ⟨_, rfl⟩
  rw [hcX] at hs1 hs2 hRX
  rw [hnX] at hs1 hs2
  have G1 := Lib.hid (fun w h => clone_calls aX K cX X w h (by omega))
  have G2 := Lib.hid (fun a c w h => sum_calls a K c X w h)
  rw [hu] at G2
  have HRX := Lib.hid hRX
  have HE := Lib.hid hE
  have HT2 := Lib.hid hT2
  have HM := Lib.hid hM
  have HXL := Lib.hid hXl
  clear hR hE hT hM nilT hE0 hln h1 hX hXl hT2 hu hv hRX hle hmx hcX hnX hFK
  generalize hW : w = wn at hO HRX ⊢
  clear hW w
  go_enter Tryz.func15, Tryz.ntmps15
  go_wp2_with (first
    | ((with_reducible refine gG (d := some 12) ?_); refine wpList_want rfl ?_) | ((with_reducible refine gG (d := some 19) ?_); refine wpList_want rfl ?_) | ((with_reducible refine gG (d := some 24) ?_); refine wpList_want rfl ?_) | ((with_reducible refine gG (d := some 28) ?_); refine wpList_want rfl ?_)
    | ((with_reducible refine gBox ?_); first | (refine bxA hO rfl ?_; clear hO; intro pb ww hO) | (refine bx1 hO rfl rfl ?_; clear hO; intro pb ww hO))
    | ((with_reducible refine gLoad ?_); first | refine ldX hO 0 rfl rfl (tA rfl) (tS rfl) ?_ | refine ldC hO 0 rfl rfl (tA rfl) rfl ?_))
  refine wp_region_textS (fun w' => Own wn w' [.blk pb (.cells (Pc.C ⟨(F : Int), (K : Int), s⟩) 44 (0,0))]) (fun op => match op with | .load _ _ => true | _ => false) (by kernel_rfl) (by kernel_rfl) (hO.drew.only (by simp)) ?_
  replace hO := hO.drew
  generalize World.drew _ = wd at hO ⊢
  go_wp2_with (first
    | (((with_reducible refine gIL ?_); first | refine wpI_ldcS (fun w' hS => hS.blk 0 rfl) rfl rfl (tA rfl) rfl ?_); first | (refine wpI_act (by simp only [Act.put, List.setIfInBounds_toArray, List.set_cons_succ, List.set_cons_zero]; rfl) ?_) | skip)
    | (go_at_call 35; refine (G1.out _ (hO.rd HRX.out)).mono ?_; rintro e ww ⟨a2, c2, rfl, hb, hr⟩; replace hO := hO.addRow hb hr; clear hb hr)
    | ((with_reducible refine gI ?_); refine wpI_step rfl rfl (by kernel_rfl) ?_; intro K hK; have HK := Lib.hid hK; clear hK) | ((with_reducible refine gI ?_); first | refine wpI_skip rfl ?_ | refine wpI_want rfl ?_) | ((with_reducible refine gOnlyK HK.out ?_ ?_); exact hO.only (by simp); clear HK K; first | (refine wpI_act (by simp only [Act.put, List.setIfInBounds_toArray, List.set_cons_succ, List.set_cons_zero]; rfl) ?_) | skip) | (with_reducible refine wpI_nil ?_))
  by_cases hus : u = s
  · have d5 : ((u.toNat : Int) != (s.toNat : Int)) = false := by simp [hus]
    have d5' : ((u.toNat : Int) == (s.toNat : Int)) = true := by simp [hus]
    have d5'' : decide ((u.toNat : Int) = (s.toNat : Int)) = true := decide_eq_true (by rw [hus])
    have d5n : decide (u = s) = true := decide_eq_true hus
    have he := HE.out
    rw [if_neg (fun h => h hus)] at he
    have ht := HT2.out
    rw [← he, if_pos rfl] at ht
    subst ht
    subst he
    obtain rfl : M = K := by rw [← HM.out, HXL.out]
    clear HE HT2 HM HXL hus
    refine wp_region_textS (fun w' => Own wn w' [.blk pb (.cells (Pc.C ⟨(F : Int), (M : Int), s⟩) 44 (0,0))]) (fun op => match op with | .load _ _ => true | _ => false) (by kernel_rfl) (by kernel_rfl) (hO.drew.only (by simp)) ?_
    replace hO := hO.drew
    generalize World.drew _ = wd at hO ⊢
    go_wp2_with (first
      | (((with_reducible refine gIL ?_); first | refine wpI_ldcS (fun w' hS => hS.blk 0 rfl) rfl rfl (tA rfl) rfl ?_ | refine wpI_ldcS (fun w' hS => hS.blk 1 rfl) rfl rfl (tA rfl) rfl ?_); first | (refine wpI_act (by simp only [Act.put, List.setIfInBounds_toArray, List.set_cons_succ, List.set_cons_zero]; rfl) ?_) | skip)
      | (go_at_call 20; refine (G2.out _ _ _ (hO.rdAt 0 rfl)).mono ?_; rintro e ww ⟨rfl, hb⟩; replace hO := hO.call hb; clear hb)
      | ((with_reducible refine gI ?_); refine wpI_step rfl rfl (by kernel_rfl) ?_; intro K hK; have HK := Lib.hid hK; clear hK) | ((with_reducible refine gI ?_); first | refine wpI_skip rfl ?_ | refine wpI_want rfl ?_) | ((with_reducible refine gOnlyK HK.out ?_ ?_); exact hO.only (by simp); clear HK K; first | (refine wpI_act (by simp only [Act.put, List.setIfInBounds_toArray, List.set_cons_succ, List.set_cons_zero]; rfl) ?_) | skip) | (with_reducible refine wpI_nil ?_))
    go_ret2
    exact ⟨a2, c2, rfl, hO.below, hO.row 0 rfl⟩
  · have hne : ¬ (u.toNat : Int) = (s.toNat : Int) := fun h => hus (BitVec.eq_of_toNat_eq (by omega))
    have hne2 : ¬ u.toNat = s.toNat := fun h => hus (BitVec.eq_of_toNat_eq h)
    have d5 : ((u.toNat : Int) != (s.toNat : Int)) = true := by simp; omega
    have d5' : ((u.toNat : Int) == (s.toNat : Int)) = false := by simp; omega
    have d5'' : decide ((u.toNat : Int) = (s.toNat : Int)) = false := decide_eq_false hne
    have d5n : decide (u = s) = false := decide_eq_false hus
    have he := HE.out
    rw [if_pos hus] at he
    have ht := HT2.out
    rw [← he, if_neg (by decide)] at ht
    subst ht
    subst he
    obtain rfl : M = 0 := by rw [← HM.out]; rfl
    clear HE HT2 HM HXL hne hne2
    refine wp_region_textS (fun w' => Own wn w' [.blk pb (.cells (Pc.C ⟨(F : Int), (K : Int), s⟩) 44 (0,0))]) (fun op => match op with | .load _ _ => true | _ => false) (by kernel_rfl) (by kernel_rfl) (hO.drew.only (by simp)) ?_
    replace hO := hO.drew
    generalize World.drew _ = wd at hO ⊢
    go_wp2_with (first
      | (((with_reducible refine gIL ?_); first | refine wpI_ldcS (fun w' hS => hS.blk 0 rfl) rfl rfl (tA rfl) rfl ?_ | refine wpI_ldcS (fun w' hS => hS.blk 1 rfl) rfl rfl (tA rfl) rfl ?_); first | (refine wpI_act (by simp only [Act.put, List.setIfInBounds_toArray, List.set_cons_succ, List.set_cons_zero]; rfl) ?_) | skip)
      | (go_at_call 20; refine (G2.out _ _ _ (hO.rdAt 0 rfl)).mono ?_; rintro e ww ⟨rfl, hb⟩; replace hO := hO.call hb; clear hb)
      | ((with_reducible refine gI ?_); refine wpI_step rfl rfl (by kernel_rfl) ?_; intro K hK; have HK := Lib.hid hK; clear hK) | ((with_reducible refine gI ?_); first | refine wpI_skip rfl ?_ | refine wpI_want rfl ?_) | ((with_reducible refine gOnlyK HK.out ?_ ?_); exact hO.only (by simp); clear HK K; first | (refine wpI_act (by simp only [Act.put, List.setIfInBounds_toArray, List.set_cons_succ, List.set_cons_zero]; rfl) ?_) | skip) | (with_reducible refine wpI_nil ?_))
    go_ret2
    exact ⟨none, 0, rfl, hO.below, World.ownsRow_nil _ _ _ _⟩
end Go.Proofs.YtniibdglodnhoaaGreatDoor

/- Walks: solid's Test; Build where the ring is at its end. -/
namespace Go.Sl
open Go.RowKit
theorem testE_step {b : List (BitVec 8)} {l : List Pc} {k : Nat} (h : k < l.length) : testE b (l.drop k) = if cutE b l[k] = 0 then testE b (l.drop (k + 1)) else cutE b l[k] := by
  rw [List.drop_eq_getElem_cons h]
  rfl
end Go.Sl
namespace Go.Proofs.YtniibdglodnhoaaGreatDoor
open Go.RowKit Go.Own Go.Bv Go.Ord Go.Eq Go.Opn Go.Pb Go.Sl

theorem soT_length (key : St) (b : List (BitVec 8)) : (soT key b).length ≤ 65536 := by
  unfold soT
  split
  · rename_i h
    have hl := (Go.Pz.unT_facts (unboxT key (openT b)) 65536)
    by_cases h0 : Go.Pz.unE (unboxT key (openT b)) 65536 = 0
    · have := hl.1 h0
      omega
    · rw [(hl.2 h0).1]; simp
  · simp
section
variable {P : Program} {ops : Array Oper} {Q : Exit → Act → World → Prop} {a : Act} {w : World} {rest : List Oper}
variable {d : Option Tmp} {ty : TypeId} {pos : String} {aft : Array Edge}
theorem ld_pc {T : TypeId} {x : Operand} {b off n cap : Nat} {l : List Pc} {t : Pc} {k : Nat} (hR : Rd w 3 (some ⟨b, off, none⟩) n cap (pcs l)) (ht : l[k]? = some t) (hx : a.eval x = .pointer (some ⟨b, off + k * 3, none⟩))
    (hT : aggT P T = some true) (hs : (P.info? T).map (·.size) = some 3) (h : wpList P ops Q rest (a.put d (.agg t.C)) w) :
    wpList P ops Q ({ dst := d, op := .load T x, type := ty, pos := pos, after := aft, guard := none } :: rest) a w := by
  obtain ⟨hk, he⟩ := List.getElem?_eq_some_iff.1 ht
  exact ld_rds t.C.toList hR hx (fun i v hv => pcs_get l k hk i v (by rw [he]; exact hv)) hT hs (by show 0 < 3; omega) h
end
/-- why a block is not right -/
def teE (key : St) (b : List (BitVec 8)) (l : List Pc) : Int := if soE key b ≠ 0 then soE key b else testE (soT key b) l

set_option maxHeartbeats 4000000 in
set_option maxRecDepth 100000 in
theorem test_calls (key : St) (a : Option Addr) (n cap : Nat) (b : List (BitVec 8)) (a2 : Option Addr) (m c2 : Nat) (l : List Pc) (w : World) (hR : Rd w 1 a n cap (u8s b)) (hL : Rd w 3 a2 m c2 (pcs l)) (hT : Turns w) (E : Int) (hE : teE key b l = E) :
    Calls Tryz.prog 17 #[.agg key.C, .slice a n cap, .slice a2 m c2] w fun e w' => e = .returned (.int .i64 E) ∧ Below w.heap.size w w' := by
  have hO := Own.start w
  have hll : l.length = m := by have := hL.len; rw [pcs_length] at this; omega
  have hmx := Nat.le_trans hL.le hL.max
  unfold maxLen at hmx
  have hTl := soT_length key b
  unfold teE at hE
  obtain ⟨E1, hE1⟩ : ∃ x, soE key b = x := ⟨_, rfl⟩
  obtain ⟨T, hTT⟩ : ∃ x, soT key b = x := ⟨_, rfl⟩
  obtain ⟨M, hM⟩ : ∃ x, T.length = x := ⟨_, rfl⟩
  rw [hE1, hTT] at hE
  rw [hTT, hM] at hTl
  have G1 := Lib.hid (fun w h hT => sopen_calls key a n cap b w h hT E1 T M hE1 hTT hM)
  have HR := Lib.hid hR
  have HL := Lib.hid hL
  have HT := Lib.hid hT
  have HLL := Lib.hid hll
  have HM := Lib.hid hM
  have H0 : Hid ((E1 = 0 ∧ testE T (l.drop 0) = E) ∨ (E1 ≠ 0 ∧ E1 = E)) := by
    by_cases h : E1 = 0
    · rw [if_neg (by simpa using h)] at hE; exact .inl ⟨h, by rw [List.drop_zero]; exact hE⟩
    · rw [if_pos h] at hE; exact .inr ⟨h, hE⟩
  clear hR hL hT hll hE hE1 hTT hM
  generalize hW : w = wn at hO HR HT HL ⊢
  clear hW w
  go_enter Tryz.func17, Tryz.ntmps17
  go_wp2_with (first
    | ((with_reducible refine gBox ?_); first | (refine bxA hO rfl ?_; clear hO; intro bk ww hO) | (refine bx1 hO rfl rfl ?_; clear hO; intro bk ww hO))
    | ((with_reducible refine gLoad ?_); first | refine ldX hO 0 rfl rfl (tA rfl) (tS rfl) ?_ | refine ldC hO 0 rfl rfl (tA rfl) rfl ?_)
    | (go_at_call 9; refine (G1.out _ (hO.rd HR.out) (HT.out.own hO)).mono ?_; rintro e ww ⟨a3, c3, rfl, hb, hr⟩; replace hO := hO.addRow hb hr; clear hb hr))
  go_loopg [8, 9] (m + 1) (fun q s8 s9 wr => ∃ (k : Nat) (e : Int), q = m - k + 1 ∧ k ≤ m ∧ s9 = .int .i64 (k : Int) ∧ s8 = .int .i64 e ∧ Hid ((e = 0 ∧ testE T (l.drop k) = E) ∨ (e ≠ 0 ∧ e = E)) ∧ Own wn wr [.sl 5 1 (.slice a3 M c3) M (u8s T), .blk bk (.cells key.C 24 (0,0))])
  case atStart => exact ⟨0, E1, rfl, by omega, rfl, rfl, H0.out, hO⟩
  case round =>
    obtain ⟨k, e, rfl, hk, rfl, rfl, HK, hO1⟩ := hrel
    clear hO
    have hO := hO1
    clear hO1
    by_cases hlt : k < m
    · have d0 : decide ((k : Int) < (m : Int)) = true := decide_eq_true (by omega)
      by_cases he : e = 0
      · subst he
        have hkl : k < l.length := by rw [HLL.out]; exact hlt
        have hst : testE T (l.drop k) = E := by rcases HK.out with h | h; exact h.2; exact absurd rfl h.1
        rw [testE_step hkl] at hst
        have hx : l[k]? = some l[k] := List.getElem?_eq_getElem hkl
        generalize l[k] = t at *
        obtain ⟨ba, off, rfl⟩ := HL.out.place (by omega)
        obtain ⟨E2, hE2⟩ : ∃ x, cutE T t = x := ⟨_, rfl⟩
        rw [hE2] at hst
        have HX := Lib.hid hx
        have G2 := Lib.hid (fun w h => cut_calls a3 M c3 T t w h (by omega) E2 _ _ hE2 rfl rfl)
        have HS : Hid ((E2 = 0 ∧ testE T (l.drop (k + 1)) = E) ∨ (E2 ≠ 0 ∧ E2 = E)) := by
          by_cases h : E2 = 0
          · rw [if_pos h] at hst; exact .inl ⟨h, hst⟩
          · rw [if_neg h] at hst; exact .inr ⟨h, hst⟩
        clear hst hx hE2 hkl HK H0
        go_wp2_with (first
          | ((with_reducible refine gLoad (T := 44) ?_); refine ld_pc (hO.rd HL.out) HX.out rfl (tA rfl) ipc ?_)
          | (go_at_call 15; refine (G2.out _ (hO.rdAt 0 rfl)).mono ?_; rintro e ww ⟨a5, c5, rfl, hb, hr⟩; replace hO := hO.call hb; clear hb hr))
        go_roundg (m - (k + 1) + 1)
        case measure => omega
        case rel => exact ⟨k + 1, E2, rfl, by omega, by go_num, rfl, HS.out, hO⟩
      · have hee : e = E := by rcases HK.out with h | h; exact absurd h.1 he; exact h.2
        subst hee
        have d5 : (e == 0) = false := by simpa using he
        have d5' : decide (e = 0) = false := decide_eq_false he
        clear HK H0
        go_wp2
        go_ret
        exact ⟨rfl, hO.below⟩
    · obtain rfl : k = m := by omega
      have d0 : decide ((k : Int) < (k : Int)) = false := decide_eq_false (by omega)
      have hee : e = E := by
        rcases HK.out with h | h
        · have h2 := h.2
          rw [List.drop_of_length_le (by rw [HLL.out]; omega)] at h2
          rw [h.1, ← h2]; rfl
        · exact h.2
      subst hee
      clear HK H0
      go_wp2
      go_ret
      exact ⟨rfl, hO.below⟩

set_option maxHeartbeats 4000000 in
set_option maxRecDepth 100000 in
theorem build_full (key : St) (n : BitVec 64) (a : Option Addr) (len cap : Nat) (ss : List Tb) (w : World) (hR : Txs w a len cap ss) (hlen : len ≤ 8) (h60 : ∀ x ∈ ss, x.n ≤ 60) (hn : n = 18446744073709551615#64) (hT : Turns w) :
    Calls Tryz.prog 7 #[.agg (ringC key n), .slice a len cap] w fun e w' => e = .returned (.tuple #[.slice none 0 0, .slice none 0 0, .agg (ringC St.zero 0#64), .int .i64 6]) ∧ Below w.heap.size w w' := by
  have hO := Own.start w
  have htl : (txs ss).length = len := by rw [txs_length, hR.len]
  obtain ⟨X, hX⟩ : ∃ X, (txs ss).flatten = X := ⟨_, rfl⟩
  obtain ⟨N, hN⟩ : ∃ N, X.length = N := ⟨_, rfl⟩
  have hb : ∀ b ∈ txs ss, b.length ≤ 60 := fun b hbm => by
    unfold txs at hbm
    obtain ⟨x, hx, rfl⟩ := List.mem_map.1 hbm
    have h1 := (hR.2 x hx).len
    rw [u8s_length] at h1
    have := h60 x hx
    omega
  have hN480 : N ≤ 480 := by
    have h := flat_bound 60 (txs ss) hb
    rw [hX, hN, htl] at h
    have : 60 * len ≤ 480 := by omega
    omega
  have G1 := Lib.hid (fun w h => concat_calls a len cap ss w h N X hX hN (by omega))
  have G2 := Lib.hid (fun w a c h hT => sseal_full key n a N c X w h (by omega) hn hT)
  have HR := Lib.hid hR
  have HT := Lib.hid hT
  have d0 : decide ((65536 : Int) < (N : Int)) = false := decide_eq_false (by omega)
  clear hR hT htl hN hb hX hn h60
  generalize hW : w = wn at hO HT HR ⊢
  clear hW w
  go_enter Tryz.func7, Tryz.ntmps7
  go_wp2_with (first
    | ((with_reducible refine gBox ?_); first | (refine bxA hO rfl ?_; clear hO; intro br ww hO) | (refine bx1 hO rfl rfl ?_; clear hO; intro br ww hO))
    | ((with_reducible refine gG ?_); refine wpList_want rfl ?_)
    | ((with_reducible refine gAlloc (d := some 6) (T := 27) ?_); refine own_alloc hO _ _ irz ?_; clear hO; intro zb ww hO)
    | ((with_reducible refine gAlloc (d := some 10) (T := 27) ?_); refine own_alloc hO _ _ irz ?_; clear hO; intro bn ww hO)
    | (go_at_call 19; refine (G1.out _ (HR.out.own hO)).mono ?_; rintro e ww ⟨a2, c2, rfl, hb, hr⟩; replace hO := hO.addRow hb hr; clear hb hr)
    | (go_at_call 13; refine (G2.out _ _ _ (hO.rdAt 0 rfl) (HT.out.own hO)).mono ?_; rintro e ww ⟨rfl, hb⟩; replace hO := hO.call hb; clear hb)
    | ((with_reducible refine gBld (T := 27) ?_); refine own_bld (ringC St.zero 0#64) (by kernel_rfl) ?_)
    | ((with_reducible refine gLoad ?_); first | refine ldX hO 0 rfl rfl (tA rfl) (tS rfl) ?_ | refine ldC hO 0 rfl rfl (tA rfl) rfl ?_ | refine ldX hO 1 rfl rfl (tA rfl) (tS rfl) ?_ | refine ldC hO 1 rfl rfl (tA rfl) rfl ?_ | refine ldX hO 2 rfl rfl (tA rfl) (tS rfl) ?_ | refine ldC hO 2 rfl rfl (tA rfl) rfl ?_ | refine ldX hO 3 rfl rfl (tA rfl) (tS rfl) ?_ | refine ldC hO 3 rfl rfl (tA rfl) rfl ?_ | refine ldX hO 4 rfl rfl (tA rfl) (tS rfl) ?_ | refine ldC hO 4 rfl rfl (tA rfl) rfl ?_ | refine ldX hO 5 rfl rfl (tA rfl) (tS rfl) ?_ | refine ldC hO 5 rfl rfl (tA rfl) rfl ?_)
    | ((with_reducible refine gStore ?_); first | (refine stX hO 0 rfl rfl rfl rfl rfl (tS rfl) ?_; clear hO; intro ww hO) | (refine stC hO 0 rfl rfl rfl (ltb rfl) rfl (tS rfl) ?_; clear hO; intro ww hO) | (refine stX hO 1 rfl rfl rfl rfl rfl (tS rfl) ?_; clear hO; intro ww hO) | (refine stC hO 1 rfl rfl rfl (ltb rfl) rfl (tS rfl) ?_; clear hO; intro ww hO) | (refine stX hO 2 rfl rfl rfl rfl rfl (tS rfl) ?_; clear hO; intro ww hO) | (refine stC hO 2 rfl rfl rfl (ltb rfl) rfl (tS rfl) ?_; clear hO; intro ww hO) | (refine stX hO 3 rfl rfl rfl rfl rfl (tS rfl) ?_; clear hO; intro ww hO) | (refine stC hO 3 rfl rfl rfl (ltb rfl) rfl (tS rfl) ?_; clear hO; intro ww hO) | (refine stX hO 4 rfl rfl rfl rfl rfl (tS rfl) ?_; clear hO; intro ww hO) | (refine stC hO 4 rfl rfl rfl (ltb rfl) rfl (tS rfl) ?_; clear hO; intro ww hO) | (refine stX hO 5 rfl rfl rfl rfl rfl (tS rfl) ?_; clear hO; intro ww hO) | (refine stC hO 5 rfl rfl rfl (ltb rfl) rfl (tS rfl) ?_; clear hO; intro ww hO)))
  refine bodyPost_ret (res_ttct rfl _ _ _ 27 (ringC St.zero 0#64) (0,0) _ rfl (hO.blk 2 rfl) Tryz.underlying27 rfl (irs _ _)) rfl ⟨rfl, hO.below⟩
end Go.Proofs.YtniibdglodnhoaaGreatDoor

/- The check sum bit by bit is the check sum by the table. -/
namespace Go.Crc
open Go.Bv

def oct (r : BitVec 32) (c : BitVec 8) : BitVec 32 := halves 8 (r ^^^ c.setWidth 32)

theorem half_even (x : BitVec 32) (h : x.toNat % 2 = 0) : half x = x >>> 1 := by
  have h1 : x &&& 1#32 = 0#32 := by
    apply BitVec.eq_of_toNat_eq
    rw [BitVec.toNat_and]
    exact (Nat.and_two_pow_sub_one_eq_mod x.toNat 1).trans h
  unfold half
  rw [h1]
  have : -(0#32) = 0#32 := by decide
  rw [this, BitVec.and_zero, BitVec.xor_zero]
theorem half_odd (x : BitVec 32) (h : x.toNat % 2 = 1) : half x = (x >>> 1) ^^^ 3988292384#32 := by
  have h1 : x &&& 1#32 = 1#32 := by
    apply BitVec.eq_of_toNat_eq
    rw [BitVec.toNat_and]
    exact (Nat.and_two_pow_sub_one_eq_mod x.toNat 1).trans h
  unfold half
  rw [h1]
  have : 3988292384#32 &&& -(1#32) = 3988292384#32 := by decide
  rw [this]

theorem half_shl (z m : Nat) (h : z * 2 ^ (m + 1) < 2 ^ 32) : half (BitVec.ofNat 32 (z * 2 ^ (m + 1))) = BitVec.ofNat 32 (z * 2 ^ m) := by
  have e : z * 2 ^ (m + 1) = z * 2 ^ m * 2 := by rw [Nat.pow_succ, ← Nat.mul_assoc]
  rw [half_even _ (by rw [BitVec.toNat_ofNat, Nat.mod_eq_of_lt h, e]; omega)]
  apply BitVec.eq_of_toNat_eq
  rw [BitVec.toNat_ushiftRight, Nat.shiftRight_eq_div_pow, BitVec.toNat_ofNat, BitVec.toNat_ofNat, Nat.mod_eq_of_lt h, e]
  rw [e] at h
  rw [Nat.mod_eq_of_lt (by omega)]
  omega
theorem halves_shl (z k : Nat) (hk : k ≤ 8) (h : z * 2 ^ 8 < 2 ^ 32) : halves k (BitVec.ofNat 32 (z * 2 ^ 8)) = BitVec.ofNat 32 (z * 2 ^ (8 - k)) := by
  induction k with
  | zero => rfl
  | succ k ih =>
    simp only [halves]
    rw [ih (by omega), show 8 - k = (8 - (k + 1)) + 1 by omega, half_shl]
    have : 2 ^ (8 - (k + 1) + 1) ≤ 2 ^ 8 := Nat.pow_le_pow_right (by omega) (by omega)
    exact Nat.lt_of_le_of_lt (Nat.mul_le_mul_left z this) h

theorem oct_eq (r : BitVec 32) (c : BitVec 8) : oct r c = step1 r c := by
  unfold oct step1
  have hx : ∀ x : BitVec 32, halves 8 x = tab (x.setWidth 8) ^^^ (x >>> 8) := by
    intro x
    have hlt := x.isLt
    have hz : x.toNat / 256 * 2 ^ 8 < 2 ^ 32 := by omega
    have hsum : x = (x.setWidth 8).setWidth 32 ^^^ BitVec.ofNat 32 (x.toNat / 256 * 2 ^ 8) := by
      apply BitVec.eq_of_getLsbD_eq
      intro i hi
      rw [BitVec.getLsbD_xor, BitVec.getLsbD_setWidth, BitVec.getLsbD_setWidth, BitVec.getLsbD_ofNat]
      by_cases h8 : i < 8
      · have : (x.toNat / 256 * 2 ^ 8).testBit i = false := by
          rw [Nat.testBit_mul_two_pow]; simp; omega
        simp [hi, h8, this]
      · have : (x.toNat / 256 * 2 ^ 8).testBit i = x.getLsbD i := by
          rw [Nat.testBit_mul_two_pow, show (256 : Nat) = 2 ^ 8 by rfl, Nat.testBit_div_two_pow, show i - 8 + 8 = i by omega, BitVec.getLsbD, decide_eq_true (show i ≥ 8 by omega), Bool.true_and]
        simp [hi, h8, this]
    have h1 : halves 8 x = halves 8 ((x.setWidth 8).setWidth 32) ^^^ halves 8 (BitVec.ofNat 32 (x.toNat / 256 * 2 ^ 8)) := by
      rw [← halves_xor, ← hsum]
    rw [h1, halves_shl _ 8 (Nat.le_refl _) hz]
    unfold tab
    congr 1
    apply BitVec.eq_of_toNat_eq
    rw [BitVec.toNat_ushiftRight, Nat.shiftRight_eq_div_pow, BitVec.toNat_ofNat]
    simp
    omega
  rw [hx, low_xor, shr_xor]
  have h1 : (c.setWidth 32).setWidth 8 = c := by
    apply BitVec.eq_of_toNat_eq
    simp only [BitVec.toNat_setWidth]
    have := c.isLt
    omega
  have h2 : (c.setWidth 32) >>> 8 = 0#32 := by
    apply BitVec.eq_of_toNat_eq
    rw [BitVec.toNat_ushiftRight, Nat.shiftRight_eq_div_pow, BitVec.toNat_setWidth]
    have := c.isLt
    simp
    omega
  rw [h1, h2, BitVec.xor_zero]

theorem half_facts (x : BitVec 32) : (∃ y z : BitVec 32, (x.toNat : Int) / 2 = (y.toNat : Int) ∧ ((x.toNat : Int) % 2 == 1) = true ∧ Go.bits .xor .u32 (y.toNat : Int) 3988292384 = (z.toNat : Int) ∧ z = half x) ∨
    (∃ y : BitVec 32, (x.toNat : Int) / 2 = (y.toNat : Int) ∧ ((x.toNat : Int) % 2 == 1) = false ∧ y = half x) := by
  have h2 : (x.toNat : Int) / 2 = ((x >>> 1).toNat : Int) := shr32 x 1
  rcases Nat.mod_two_eq_zero_or_one x.toNat with h | h
  · exact .inr ⟨x >>> 1, h2, by simp; omega, (half_even x h).symm⟩
  · exact .inl ⟨x >>> 1, (x >>> 1) ^^^ 3988292384#32, h2, by simp; omega, xor32 _ 3988292384#32, (half_odd x h).symm⟩

end Go.Crc

/- Walks: the document's answer for layer 3. -/
namespace Go.Proofs.YtniibdglodnhoaaGreatDoor
open Go.RowKit Go.Own Go.Bv Go.Ord Go.Eq

set_option maxHeartbeats 1000000 in
theorem roct_calls (r : BitVec 32) (c : BitVec 8) (w : World) :
    Calls Tryz.prog 67 #[.int .u32 (r.toNat : Int), .int .u8 (c.toNat : Int)] w fun e w' => e = .returned (.int .u32 ((Crc.step1 r c).toNat : Int)) ∧ w = w' := by
  rw [← Crc.oct_eq]
  obtain ⟨x, e0, e1, hx⟩ : ∃ x : BitVec 32, (c.toNat : Int) = ((c.setWidth 32).toNat : Int) ∧ Go.bits .xor .u32 (r.toNat : Int) ((c.setWidth 32).toNat : Int) = (x.toNat : Int) ∧ x = r ^^^ c.setWidth 32 :=
    ⟨_, by rw [BitVec.toNat_setWidth]; have := c.isLt; omega, xor32 _ _, rfl⟩
  have e2 : Go.bits .xor .u32 (r.toNat : Int) (c.toNat : Int) = (x.toNat : Int) := by rw [e0]; exact e1
  have HX : Hid (Crc.oct r c = Crc.halves 8 x) := by rw [hx]; rfl
  have b1 := lt8 c
  clear e0 e1 hx
  rw [HX.out]
  go_enter Tryz.func67, Tryz.ntmps67
  go_wp2
  go_loopg [0, 10] 8 (fun m v k wr => ∃ j : Nat, m = 8 - j ∧ j ≤ 8 ∧ k = .int .i64 j ∧ v = .int .u32 ((Crc.halves j x).toNat : Int) ∧ wr = w)
  case atStart => exact ⟨0, rfl, by omega, rfl, rfl, rfl⟩
  case round =>
    obtain ⟨j, rfl, hj, rfl, rfl, rfl⟩ := hrel
    clear e2
    by_cases hlt : j < 8
    · have hb : decide ((j : Int) < 8) = true := by simp; omega
      have HS : Hid (Crc.halves (j + 1) x = Crc.half (Crc.halves j x)) := rfl
      generalize Crc.halves j x = X at HS ⊢
      rcases Crc.half_facts X with ⟨y, z, f1, f2, f3, f4⟩ | ⟨y, f1, f2, f4⟩
      · have HF := Lib.hid f4
        clear f4
        go_wp2
        go_roundg (8 - (j + 1))
        case measure => omega
        case rel => exact ⟨j + 1, rfl, by omega, by go_num, by rw [HS.out, ← HF.out], rfl⟩
      · have HF := Lib.hid f4
        clear f4
        go_wp2
        go_roundg (8 - (j + 1))
        case measure => omega
        case rel => exact ⟨j + 1, rfl, by omega, by go_num, by rw [HS.out, ← HF.out], rfl⟩
    · obtain rfl : j = 8 := by omega
      go_wp2
      go_ret
      exact ⟨rfl, rfl⟩

set_option maxHeartbeats 1000000 in
set_option maxRecDepth 100000 in
theorem rstep_calls (r : BitVec 32) (a : Option Addr) (n cap : Nat) (bs : List (BitVec 8)) (w : World) (hR : Rd w 1 a n cap (u8s bs)) :
    Calls Tryz.prog 38 #[.int .u32 (r.toNat : Int), .slice a n cap] w fun e w' => e = .returned (.int .u32 ((Crc.step r bs).toNat : Int)) ∧ w = w' := by
  have hlen : bs.length = n := by have := hR.len; rw [u8s_length] at this; omega
  have hmax : n ≤ maxLen := Nat.le_trans hR.le hR.max
  unfold maxLen at hmax
  have hR' := Lib.hid hR
  clear hR
  have HL := Lib.hid hlen
  clear hlen
  go_enter Tryz.func38, Tryz.ntmps38
  go_wp2
  go_loopg [0, 9] n (fun m r' c wr => ∃ k : Nat, m = n - k ∧ k ≤ n ∧ c = .int .i64 k ∧ r' = .int .u32 ((Crc.step r (bs.take k)).toNat : Int) ∧ wr = w)
  case atStart => exact ⟨0, rfl, by omega, rfl, by simp [Crc.step], rfl⟩
  case round =>
    obtain ⟨k, rfl, hk, rfl, rfl, rfl⟩ := hrel
    by_cases hlt : k < n
    · have hkb : k < bs.length := by rw [HL.out]; exact hlt
      have HS := Lib.hid (step_take r bs k hkb)
      obtain ⟨ba, off, ha, hbl, hc⟩ := hR'.out.at' (by omega)
      subst ha
      have hcell : wr.cell? ⟨ba, off + k, none⟩ = some (.int .u8 (bs[k].toNat : Int)) := (hc k (by omega)).trans (u8s_get bs k hkb)
      clear hc hbl
      generalize Crc.step r (bs.take k) = X at HS ⊢
      generalize bs[k] = c at HS hcell
      go_wp2_with (go_at_call 67; refine (roct_calls _ _ _).mono ?_; rintro e w1 ⟨rfl, rfl⟩)
      go_roundg (n - (k + 1))
      case measure => omega
      case rel => exact ⟨k + 1, rfl, by omega, by go_num, by rw [HS.out], rfl⟩
    · obtain rfl : k = n := by omega
      have ht : bs.take k = bs := List.take_of_length_le (by rw [HL.out]; omega)
      rw [ht]
      go_wp2
      go_ret
      exact ⟨rfl, rfl⟩

set_option maxHeartbeats 400000 in
theorem rsum_calls (a : Option Addr) (n cap : Nat) (bs : List (BitVec 8)) (w : World) (hR : Rd w 1 a n cap (u8s bs)) :
    Calls Tryz.prog 21 #[.slice a n cap] w fun e w' => e = .returned (.int .u32 ((Crc.sum bs).toNat : Int)) ∧ w = w' := by
  have hR' := Lib.hid hR
  clear hR
  have e5 : Go.bits .xor .u32 ((Crc.step 4294967295#32 bs).toNat : Int) 4294967295 = ((Crc.sum bs).toNat : Int) := xor32 _ 4294967295#32
  go_enter Tryz.func21, Tryz.ntmps21
  go_wp2_with (go_at_call 38; refine (rstep_calls 4294967295#32 _ _ _ bs _ hR'.out).mono ?_; rintro e w1 ⟨rfl, rfl⟩)
  go_ret
  exact ⟨rfl, rfl⟩

set_option maxHeartbeats 1000000 in
set_option maxRecDepth 100000 in
theorem four3_calls (s : BitVec 32) (w : World) :
    Calls Tryz.prog 65 #[.int .u32 (s.toNat : Int)] w fun e w' => ∃ g, e = .returned (.slice (some ⟨g, 0, none⟩) 4 4) ∧ Below w.heap.size w w' ∧ w'.ownsRow w.heap.size 5 1 (.slice (some ⟨g, 0, none⟩) 4 4) 4 (u8s (octs4 s)) := by
  have hO := Own.start w
  rw [octs4_eq]
  have b1 := lt32 s
  have b0 := nn s
  generalize hW : w = wn at hO ⊢
  clear hW w
  go_enter Tryz.func65, Tryz.ntmps65
  go_wp2_with ((with_reducible refine gBuild ?_); go_must (refine own_build hO 29 4 _ eu8_3 #[.int .u8 ((s.toNat : Int) % 256), .int .u8 ((s.toNat : Int) / 256 % 256), .int .u8 ((s.toNat : Int) / 65536 % 256), .int .u8 ((s.toNat : Int) / 16777216)] (by omega) (by omega) (by simp [go_sem, Instr.fill]) rfl ?_); clear hO; intro g w1 hO)
  go_ret
  exact ⟨g, rfl, hO.below, hO.row 0 rfl⟩

set_option maxHeartbeats 1000000 in
set_option maxRecDepth 100000 in
theorem rseal_calls (a : Option Addr) (n cap : Nat) (bs : List (BitVec 8)) (w : World) (hR : Rd w 1 a n cap (u8s bs)) (hn : n ≤ 140737488351232) :
    Calls Tryz.prog 34 #[.slice a n cap] w fun e w' => ∃ a' c', e = .returned (.slice a' (n + 4) c') ∧ Below w.heap.size w w' ∧ w'.ownsRow w.heap.size 5 1 (.slice a' (n + 4) c') (n + 4) (u8s (bs ++ octs4 (Crc.sum bs))) := by
  have hO := Own.start w
  have hR' := Lib.hid hR
  clear hR
  generalize hW : w = wn at hO hR' ⊢
  clear hW w
  go_enter Tryz.func34, Tryz.ntmps34
  go_wp2_with (first
    | ((with_reducible refine gAppend ?_); refine own_appendNil hO _ _ 29 eu8_3 rfl rfl (hO.rd hR'.out) (u8s_one _) (by simp [maxLen]; omega) (by omega) ?_; clear hO; intro a1 c1 w1 hO)
    | (go_at_call 21; refine (rsum_calls _ _ _ bs _ (hO.rd hR'.out)).mono ?_; rintro e w2 ⟨rfl, rfl⟩)
    | (go_at_call 65; refine (four3_calls _ _).mono ?_; rintro e w3 ⟨g, rfl, hb, hr⟩; replace hO := hO.addRow hb hr; clear hb hr)
    | ((with_reducible refine gAppend ?_); refine own_append hO 1 _ _ 29 eu8_3 rfl rfl rfl (hO.rdAt 0 rfl) (u8s_one _) (n + 4) rfl (by simp [maxLen]; omega) (by omega) ?_; clear hO; intro a2 c2 w4 hO))
  go_ret
  refine ⟨_, _, rfl, hO.below, ?_⟩
  have := hO.row 1 rfl
  simpa [u8s_append] using this

theorem fi22 : flatInt Tryz.prog 29 = false := by kernel_rfl

set_option maxHeartbeats 2000000 in
set_option maxRecDepth 100000 in
theorem ropen_calls (a : Option Addr) (n cap : Nat) (bs : List (BitVec 8)) (w : World) (hR : Rd w 1 a n cap (u8s bs)) (hn : n ≤ 140737488351232) :
    Calls Tryz.prog 23 #[.slice a n cap] w (RetSE w (openT bs) (openE bs)) := by
  have hO := Own.start w
  have hlen : bs.length = n := by have := hR.len; rw [u8s_length] at this; omega
  by_cases h4 : n < 4
  · have e1 : openE bs = 2 := by simp [openE, hlen, h4]
    have e2 : openT bs = [] := by simp [openT, openOk, hlen]; omega
    rw [e1, e2]
    generalize hW : w = wn at hO ⊢
    clear hR hlen e1 e2 hW w
    go_enter Tryz.func23, Tryz.ntmps23
    go_wp2
    go_ret2
    exact ⟨none, 0, rfl, hO.below, World.ownsRow_nil _ _ _ _⟩
  · obtain ⟨m, rfl⟩ : ∃ m, n = m + 4 := ⟨n - 4, by omega⟩
    have hm4 : bs.length - 4 = m := by omega
    obtain ⟨B, hB⟩ : ∃ B : Bool, decide (octs4 (Crc.sum (bs.take m)) = bs.drop m) = B := ⟨_, rfl⟩
    have e1 : openE bs = if B = true then 0 else 7 := by
      unfold openE openOk
      rw [if_neg (by omega), hm4, ← hB]
      simp [hlen]
    have e2 : openT bs = if B = true then bs.take m else [] := by rw [← hB]; simp [openT, openOk, hlen]
    rw [e1, e2]
    have hcap : ¬ cap = m := by have := hR.le; omega
    have hcap0 : ¬ cap = 0 := by have := hR.le; omega
    have hle : m + 4 ≤ cap := hR.le
    have HRT : Hid (Rd w 1 a m cap (u8s (bs.take m))) := by
      have := hR.take m (by omega)
      rw [Nat.mul_one] at this
      rw [u8s_take]; exact this
    obtain ⟨b, off, rfl, hzz⟩ := rd_sub hR m 4 (by omega) (by omega)
    clear hzz
    have HT : Hid ((bs.take m).length = m) := by show _ = _; simp; omega
    have hstr : ((strB (bs.take m ++ octs4 (Crc.sum (bs.take m)))).toList == (strB bs).toList) = B := by
      rw [strB_beq, ← hB, decide_eq_decide]
      constructor
      · intro h
        have h2 := congrArg (fun l => l.drop m) h
        have : (bs.take m).length = m := by simp; omega
        simpa [List.drop_left' this] using h2
      · intro h
        rw [h, List.take_append_drop]
    have HR := Lib.hid hR
    have hmm : m ≤ 140737488351232 := by omega
    generalize hW : w = wn at hO HRT HR ⊢
    clear e1 e2 hm4 hlen hR h4 hW w hB
    cases B
    all_goals
      simp only [Bool.false_eq_true, if_true, if_false]
      go_enter Tryz.func23, Tryz.ntmps23
      go_wp2
      refine wp_region_textS (fun w' => Below wn.heap.size wn w') (fun op => match op with | .convert _ _ (.tmp 16) => true | _ => false) (by kernel_rfl) (by kernel_rfl) hO.drew.below ?_
      replace hO := hO.drew
      generalize World.drew _ = w3 at hO ⊢
      go_wp2_with (first
        | (go_at_call 34; refine (rseal_calls _ _ _ (bs.take m) _ (hO.rd HRT.out) hmm).mono ?_; rintro e w4 ⟨a1, c1, rfl, hb, hr⟩; replace hO := hO.addRow hb hr; clear hb hr; have hcv := run_bytes_string (P := Tryz.prog) w4 Tryz.underlying29 Tryz.underlying5 Tryz.underlying9 (hO.rdAt 0 rfl))
        | ((with_reducible refine gI ?_); refine wpI_step rfl rfl (ok_convS fi22) ?_; intro _ _)
        | ((with_reducible refine gI ?_); refine wpI_steady (.string (strB bs)) rfl rfl (ok_convS fi22) (fun w' hS => run_value rfl (run_bytes_string w' Tryz.underlying29 Tryz.underlying5 Tryz.underlying9 (HR.out.below hS))) ?_; clear hcv)
        | ((with_reducible refine gI ?_); refine wpI_step rfl rfl (by first | exact ok_int rfl rfl | exact ok_bool rfl rfl | exact ok_str rfl rfl | exact ok_conv rfl | rfl) ?_; intro _ _) | ((with_reducible refine gI ?_); first | refine wpI_skip rfl ?_ | refine wpI_want rfl ?_) | ((with_reducible refine gOnly ?_ ?_); exact hO.below) | (with_reducible refine wpI_nil ?_)
        | ((with_reducible refine gAppend ?_); refine own_appendNil hO _ _ 29 eu8_3 rfl rfl (hO.rd HRT.out) (u8s_one _) (by simp [maxLen]; omega) (by omega) ?_; clear hO; intro a5 c5 w5 hO))
      go_ret2
      first
        | exact ⟨none, 0, rfl, hO.below, World.ownsRow_nil _ _ _ _⟩
        | exact ⟨a5, c5, by rw [HT.out]; rfl, hO.below, by rw [HT.out]; exact hO.row 0 rfl⟩
end Go.Proofs.YtniibdglodnhoaaGreatDoor

/- The document's reading of tokens: it answers as the program does. Plain. No program in sight. -/
namespace Go.Pz
open Go.Pb Go.Mt Go.Kc

/-- a number of so many bits by a tree, or none -/
def rn (b : List (BitVec 8)) (tree : Nat) : Nat → Nat → Rr → Option (Nat × Rr)
  | 0, node, r => some (node, r)
  | k + 1, node, r => if nxtE 528 b r ((tree + node : Nat) : Int) = 0 then rn b tree k (node * 2 + (r.set (tree + node)).toNat) (r.next b (tree + node)) else none
def rtok (b : List (BitVec 8)) (r : Rr) : Option (Tok × Rr) :=
  if nxtE 528 b r ((0 : Nat) : Int) = 0 then
    (if r.set 0 = false then
      (match rn b 0 8 1 (r.next b 0) with
      | some (v, t) => some (⟨BitVec.ofNat 8 (v - 256), 0, 0⟩, t)
      | none => none)
    else
      (match rn b 256 4 1 (r.next b 0) with
      | some (v, t) => (match rn b 272 8 1 t with
        | some (d, u) => some (⟨0, ((v - 16 + 3 : Nat) : Int), ((d - 256 + 1 : Nat) : Int)⟩, u)
        | none => none)
      | none => none))
  else none
def rloop (b : List (BitVec 8)) (n : Nat) : Nat → Rr → List Tok → Option (Rr × List Tok)
  | 0, r, l => some (r, l)
  | f + 1, r, l => if told l < n then (match rtok b r with | some (t, u) => rloop b n f u (l ++ [t]) | none => none) else some (r, l)

theorem un_badX {b : List (BitVec 8)} {tree : Nat} : ∀ (k node : Nat) {s : Us}, s.bad = true → (un b tree k node s).2 = s
  | 0, _, _, _ => rfl
  | k + 1, node, s, h => by
    have e : (ub b s (tree + node)).2 = s := by unfold ub; rw [if_pos h]
    show (un b tree k _ (ub b s (tree + node)).2).2 = s
    rw [e]
    exact un_badX k _ h
theorem ub_ok {b : List (BitVec 8)} {r : Rr} {a : Nat} (h : nxtE 528 b r (a : Int) = 0) : ub b ⟨r, false⟩ a = (r.set a, ⟨r.next b a, false⟩) := by
  unfold ub
  rw [if_neg (by simp)]
  dsimp only
  rw [if_pos h]
theorem ub_no {b : List (BitVec 8)} {r : Rr} {a : Nat} (h : ¬ nxtE 528 b r (a : Int) = 0) : ub b ⟨r, false⟩ a = (false, ⟨r, true⟩) := by
  unfold ub
  rw [if_neg (by simp)]
  dsimp only
  rw [if_neg h]
theorem un_rn {b : List (BitVec 8)} {tree : Nat} : ∀ (k node : Nat) (r : Rr),
    (∀ v t, rn b tree k node r = some (v, t) → un b tree k node ⟨r, false⟩ = (v, ⟨t, false⟩)) ∧ (rn b tree k node r = none → (un b tree k node ⟨r, false⟩).2.bad = true)
  | 0, node, r => ⟨fun v t h => by simp only [rn, Option.some.injEq, Prod.mk.injEq] at h; obtain ⟨rfl, rfl⟩ := h; rfl, fun h => by simp [rn] at h⟩
  | k + 1, node, r => by
    by_cases h : nxtE 528 b r ((tree + node : Nat) : Int) = 0
    · have e := ub_ok h
      have ih := un_rn (b := b) (tree := tree) k (node * 2 + (r.set (tree + node)).toNat) (r.next b (tree + node))
      have e1 : rn b tree (k + 1) node r = rn b tree k (node * 2 + (r.set (tree + node)).toNat) (r.next b (tree + node)) := by
        show (if nxtE 528 b r ((tree + node : Nat) : Int) = 0 then _ else _) = _
        rw [if_pos h]
      have e2 : un b tree (k + 1) node ⟨r, false⟩ = un b tree k (node * 2 + (r.set (tree + node)).toNat) ⟨r.next b (tree + node), false⟩ := by
        show un b tree k (node * 2 + (ub b ⟨r, false⟩ (tree + node)).1.toNat) (ub b ⟨r, false⟩ (tree + node)).2 = _
        rw [e]
      rw [e1, e2]
      exact ih
    · have e := ub_no h
      have e1 : rn b tree (k + 1) node r = none := by
        show (if nxtE 528 b r ((tree + node : Nat) : Int) = 0 then _ else _) = _
        rw [if_neg h]
      have e2 : un b tree (k + 1) node ⟨r, false⟩ = un b tree k (node * 2 + (false).toNat) ⟨r, true⟩ := by
        show un b tree k (node * 2 + (ub b ⟨r, false⟩ (tree + node)).1.toNat) (ub b ⟨r, false⟩ (tree + node)).2 = _
        rw [e]
      rw [e1, e2]
      refine ⟨fun v t h => ?_, fun _ => ?_⟩
      · cases h
      · rw [un_badX k _ rfl]
theorem rn_lt {b : List (BitVec 8)} {tree k node : Nat} {r : Rr} {v : Nat} {t : Rr} (h : rn b tree k node r = some (v, t)) : node * 2 ^ k ≤ v ∧ v < (node + 1) * 2 ^ k := by
  have e := (un_rn k node r).1 v t h
  have := un_lt (b := b) (tree := tree) k node ⟨r, false⟩
  rw [e] at this
  exact this
theorem rn_rok {b : List (BitVec 8)} {tree k node : Nat} {r : Rr} {v : Nat} {t : Rr} (h : rn b tree k node r = some (v, t)) (hr : Rok 528 b r) : Rok 528 b t := by
  have e := (un_rn k node r).1 v t h
  have := un_rok (b := b) (tree := tree) k node (s := ⟨r, false⟩) hr
  rw [e] at this
  exact this
theorem rn_step {b : List (BitVec 8)} {tree k node : Nat} {r : Rr} (h : nxtE 528 b r ((tree + node : Nat) : Int) = 0) : rn b tree (k + 1) node r = rn b tree k (node * 2 + (r.set (tree + node)).toNat) (r.next b (tree + node)) := by
  show (if nxtE 528 b r ((tree + node : Nat) : Int) = 0 then _ else _) = _
  rw [if_pos h]
theorem rn_stop {b : List (BitVec 8)} {tree k node : Nat} {r : Rr} (h : ¬ nxtE 528 b r ((tree + node : Nat) : Int) = 0) : rn b tree (k + 1) node r = none := by
  show (if nxtE 528 b r ((tree + node : Nat) : Int) = 0 then _ else _) = _
  rw [if_neg h]
theorem next_rok {b : List (BitVec 8)} {r : Rr} {a : Nat} (hr : Rok 528 b r) (h : nxtE 528 b r (a : Int) = 0) : Rok 528 b (r.next b a) := by
  obtain ⟨k, e, hk, hm⟩ := nxtE_ok h
  obtain rfl : a = k := by omega
  exact rok_next hr hk hm

/-- what a token that is read is -/
theorem rtok_is {b : List (BitVec 8)} {r : Rr} {t : Tok} {u : Rr} (h : rtok b r = some (t, u)) : ((t.len = 0 ∧ t.dist = 0) ∨ (3 ≤ t.len ∧ t.len ≤ 18 ∧ 1 ≤ t.dist ∧ t.dist ≤ 256 ∧ t.lit = 0)) := by
  unfold rtok at h
  split at h
  · split at h
    · split at h
      · simp only [Option.some.injEq, Prod.mk.injEq] at h
        obtain ⟨rfl, rfl⟩ := h
        exact .inl ⟨rfl, rfl⟩
      · cases h
    · split at h
      · rename_i v t1 h1
        split at h
        · rename_i d u1 h2
          simp only [Option.some.injEq, Prod.mk.injEq] at h
          obtain ⟨rfl, rfl⟩ := h
          have l1 := rn_lt h1
          have l2 := rn_lt h2
          refine .inr ⟨?_, ?_, ?_, ?_, rfl⟩ <;> dsimp only <;> omega
        · cases h
      · cases h
  · cases h
theorem rtok_rok {b : List (BitVec 8)} {r : Rr} {t : Tok} {u : Rr} (h : rtok b r = some (t, u)) (hr : Rok 528 b r) : Rok 528 b u := by
  unfold rtok at h
  split at h
  · rename_i h0
    have hr1 := next_rok hr h0
    split at h
    · split at h
      · rename_i h1
        simp only [Option.some.injEq, Prod.mk.injEq] at h
        obtain ⟨rfl, rfl⟩ := h
        exact rn_rok h1 hr1
      · cases h
    · split at h
      · rename_i v t1 h1
        split at h
        · rename_i d u1 h2
          simp only [Option.some.injEq, Prod.mk.injEq] at h
          obtain ⟨rfl, rfl⟩ := h
          exact rn_rok h2 (rn_rok h1 hr1)
        · cases h
      · cases h
  · cases h
theorem rtok_size {b : List (BitVec 8)} {r : Rr} {t : Tok} {u : Rr} (h : rtok b r = some (t, u)) : 1 ≤ t.size ∧ t.size ≤ 18 ∧ 0 ≤ t.len ∧ (t.size : Int) = if t.len < 1 then 1 else t.len := by
  unfold Tok.size
  rcases rtok_is h with ⟨h1, _⟩ | ⟨h1, h2, _⟩
  · rw [if_pos h1, if_pos (by omega)]; omega
  · rw [if_neg (by omega), if_neg (by omega)]; omega

theorem utok_none {b : List (BitVec 8)} {r : Rr} {out : List (BitVec 8)} {most : Nat} (h : rtok b r = none) : (utok b ⟨r, false⟩ out most).1.bad = true := by
  unfold rtok at h
  unfold utok
  dsimp only
  by_cases h0 : nxtE 528 b r ((0 : Nat) : Int) = 0
  · rw [if_pos h0] at h
    rw [ub_ok h0]
    dsimp only
    by_cases hs : r.set 0 = false
    · rw [if_pos hs] at h
      rw [if_pos hs]
      dsimp only
      refine (un_rn 8 1 (r.next b 0)).2 ?_
      cases he : rn b 0 8 1 (r.next b 0) with
      | none => rfl
      | some x => rw [he] at h; cases h
    · rw [if_neg hs] at h
      rw [if_neg hs]
      obtain ⟨j1, j2⟩ := un_rn (b := b) (tree := 256) 4 1 (r.next b 0)
      cases he : rn b 256 4 1 (r.next b 0) with
      | none =>
        have e := j2 he
        have e2 : (un b 272 8 1 (un b 256 4 1 ⟨r.next b 0, false⟩).2).2.bad = true := by rw [un_badX _ _ e]; exact e
        split
        · rfl
        · exact e2
      | some x =>
        obtain ⟨v, t⟩ := x
        rw [he] at h
        dsimp only at h
        have e := j1 _ _ he
        rw [e]
        dsimp only
        split
        · rfl
        · dsimp only
          refine (un_rn 8 1 t).2 ?_
          cases h2 : rn b 272 8 1 t with
          | none => rfl
          | some x => rw [h2] at h; cases h
  · rw [ub_no h0]
    dsimp only
    rw [if_pos rfl]
    dsimp only
    rw [un_badX _ _ rfl]
theorem utok_some {b : List (BitVec 8)} {r : Rr} {out : List (BitVec 8)} {most : Nat} {t : Tok} {u : Rr} (h : rtok b r = some (t, u)) (hl : out.length < most) :
    (t.ok out.length ∧ out.length + t.size ≤ most → utok b ⟨r, false⟩ out most = (⟨u, false⟩, Tok.tell out t)) ∧ (¬ (t.ok out.length ∧ out.length + t.size ≤ most) → (utok b ⟨r, false⟩ out most).1.bad = true) := by
  unfold rtok at h
  unfold utok
  dsimp only
  by_cases h0 : nxtE 528 b r ((0 : Nat) : Int) = 0
  · rw [if_pos h0] at h
    rw [ub_ok h0]
    dsimp only
    by_cases hs : r.set 0 = false
    · rw [if_pos hs] at h
      rw [if_pos hs]
      cases he : rn b 0 8 1 (r.next b 0) with
      | none => rw [he] at h; cases h
      | some x =>
        obtain ⟨v, t1⟩ := x
        rw [he] at h
        simp only [Option.some.injEq, Prod.mk.injEq] at h
        obtain ⟨rfl, rfl⟩ := h
        rw [(un_rn 8 1 (r.next b 0)).1 _ _ he]
        refine ⟨fun _ => rfl, fun hn => absurd ⟨.inl ⟨rfl, rfl⟩, ?_⟩ hn⟩
        show out.length + 1 ≤ most
        omega
    · rw [if_neg hs] at h
      rw [if_neg hs]
      cases he : rn b 256 4 1 (r.next b 0) with
      | none => rw [he] at h; cases h
      | some x =>
        obtain ⟨v, t1⟩ := x
        rw [he] at h
        dsimp only at h
        cases h2 : rn b 272 8 1 t1 with
        | none => rw [h2] at h; cases h
        | some x =>
          obtain ⟨d, u1⟩ := x
          rw [h2] at h
          simp only [Option.some.injEq, Prod.mk.injEq] at h
          obtain ⟨rfl, rfl⟩ := h
          rw [(un_rn 4 1 (r.next b 0)).1 _ _ he]
          dsimp only
          rw [(un_rn 8 1 t1).1 _ _ h2]
          dsimp only
          have l1 := rn_lt he
          have l2 := rn_lt h2
          have hsz : Tok.size ⟨0, ((v - 16 + 3 : Nat) : Int), ((d - 256 + 1 : Nat) : Int)⟩ = v - 16 + 3 := by
            unfold Tok.size
            dsimp only
            rw [if_neg (by omega)]
            omega
          have hok : Tok.ok ⟨0, ((v - 16 + 3 : Nat) : Int), ((d - 256 + 1 : Nat) : Int)⟩ out.length ↔ d - 256 + 1 ≤ out.length := by
            unfold Tok.ok
            dsimp only
            constructor
            · rintro (h | h) <;> omega
            · intro h; exact .inr ⟨by omega, by omega, by omega, by omega, by omega, rfl⟩
          rw [hsz, hok]
          constructor
          · intro hh
            rw [if_neg (by omega)]
            unfold Tok.tell
            dsimp only
            rw [if_neg (by omega), Int.toNat_natCast, Int.toNat_natCast]
          · intro hh
            rw [if_pos (by omega)]
  · rw [if_neg h0] at h; cases h

theorem rloop_go {b : List (BitVec 8)} {n f : Nat} {r : Rr} {l : List Tok} {t : Tok} {u : Rr} (hl : told l < n) (h : rtok b r = some (t, u)) : rloop b n (f + 1) r l = rloop b n f u (l ++ [t]) := by
  show (if told l < n then (match rtok b r with | some (t, u) => rloop b n f u (l ++ [t]) | none => none) else some (r, l)) = _
  rw [if_pos hl, h]
theorem rloop_no {b : List (BitVec 8)} {n f : Nat} {r : Rr} {l : List Tok} (hl : told l < n) (h : rtok b r = none) : rloop b n (f + 1) r l = none := by
  show (if told l < n then (match rtok b r with | some (t, u) => rloop b n f u (l ++ [t]) | none => none) else some (r, l)) = _
  rw [if_pos hl, h]
theorem rloop_end {b : List (BitVec 8)} {n : Nat} {r : Rr} {l : List Tok} (hl : ¬ told l < n) : ∀ f, rloop b n f r l = some (r, l)
  | 0 => rfl
  | f + 1 => by
    show (if told l < n then (match rtok b r with | some (t, u) => rloop b n f u (l ++ [t]) | none => none) else some (r, l)) = _
    rw [if_neg hl]
theorem rloop_pre {b : List (BitVec 8)} {n : Nat} : ∀ (f : Nat) {r : Rr} {l : List Tok} {t : Rr} {m : List Tok}, rloop b n f r l = some (t, m) → ∃ x, m = l ++ x
  | 0, r, l, t, m, h => by simp only [rloop, Option.some.injEq, Prod.mk.injEq] at h; exact ⟨[], by simp [h.2]⟩
  | f + 1, r, l, t, m, h => by
    unfold rloop at h
    split at h
    · split at h
      · obtain ⟨x, hx⟩ := rloop_pre f h
        exact ⟨_, by rw [hx, List.append_assoc]⟩
      · cases h
    · simp only [Option.some.injEq, Prod.mk.injEq] at h; exact ⟨[], by simp [h.2]⟩
/-- the document's loop, and the program's -/
theorem rloop_uloop {b : List (BitVec 8)} {n : Nat} : ∀ (f : Nat) (r : Rr) (l : List Tok), okFrom 0 l → told l ≤ n → n ≤ told l + f →
    (rloop b n f r l = none → (uloop b n f ⟨r, false⟩ (text l)).1.bad = true) ∧
    (∀ t m, rloop b n f r l = some (t, m) → (okFrom 0 m ∧ told m ≤ n → uloop b n f ⟨r, false⟩ (text l) = (⟨t, false⟩, text m)) ∧ (¬ (okFrom 0 m ∧ told m ≤ n) → (uloop b n f ⟨r, false⟩ (text l)).1.bad = true))
  | 0, r, l, hk, h1, h2 => by
    refine ⟨fun h => by simp [rloop] at h, fun t m h => ?_⟩
    simp only [rloop, Option.some.injEq, Prod.mk.injEq] at h
    obtain ⟨rfl, rfl⟩ := h
    exact ⟨fun _ => rfl, fun hn => absurd ⟨hk, h1⟩ hn⟩
  | f + 1, r, l, hk, h1, h2 => by
    have hl := text_length hk
    by_cases hlt : told l < n
    · have eU : uloop b n (f + 1) ⟨r, false⟩ (text l) = uloop b n f (utok b ⟨r, false⟩ (text l) n).1 (utok b ⟨r, false⟩ (text l) n).2 := by
        conv => lhs; unfold uloop
        rw [if_pos ⟨rfl, by rw [hl]; exact hlt⟩]
      have stop : (utok b ⟨r, false⟩ (text l) n).1.bad = true → (uloop b n (f + 1) ⟨r, false⟩ (text l)).1.bad = true := fun h => by
        rw [eU, uloop_stop (.inl h) f]; exact h
      cases ht : rtok b r with
      | none =>
        have eR : rloop b n (f + 1) r l = none := by unfold rloop; rw [if_pos hlt, ht]
        exact ⟨fun _ => stop (utok_none ht), fun t m h => by rw [eR] at h; cases h⟩
      | some x =>
        obtain ⟨t, u⟩ := x
        have eR : rloop b n (f + 1) r l = rloop b n f u (l ++ [t]) := by
          show (if told l < n then (match rtok b r with | some (t, u) => rloop b n f u (l ++ [t]) | none => none) else some (r, l)) = _
          rw [if_pos hlt, ht]
        obtain ⟨s1, s2⟩ := utok_some (out := text l) (most := n) ht (by rw [hl]; exact hlt)
        rw [hl] at s1 s2
        have hsz := rtok_size ht
        by_cases hg : t.ok (told l) ∧ told l + t.size ≤ n
        · have e := s1 hg
          rw [eU, eR, e]
          dsimp only
          have hx : Tok.tell (text l) t = text (l ++ [t]) := by rw [text_append]; rfl
          rw [hx]
          refine rloop_uloop f u (l ++ [t]) ?_ ?_ ?_
          · rw [okFrom_append]; exact ⟨hk, by rw [Nat.zero_add]; exact ⟨hg.1, trivial⟩⟩
          · rw [told_append, told_one]; exact hg.2
          · rw [told_append, told_one]; omega
        · have hb := stop (s2 hg)
          refine ⟨fun _ => hb, fun t' m h => ⟨fun hm => ?_, fun _ => hb⟩⟩
          rw [eR] at h
          obtain ⟨x, rfl⟩ := rloop_pre f h
          exfalso
          apply hg
          obtain ⟨m1, m2⟩ := hm
          rw [okFrom_append, okFrom_append, Nat.zero_add] at m1
          rw [told_append, told_append, told_one] at m2
          exact ⟨m1.1.2.1, by omega⟩
    · have eR : rloop b n (f + 1) r l = some (r, l) := by unfold rloop; rw [if_neg hlt]
      refine ⟨fun h => (by rw [eR] at h; cases h), fun t m h => ?_⟩
      rw [eR] at h
      simp only [Option.some.injEq, Prod.mk.injEq] at h
      obtain ⟨rfl, rfl⟩ := h
      exact ⟨fun _ => uloop_stop (.inr (by rw [hl]; omega)) _, fun hn => absurd ⟨hk, h1⟩ hn⟩
end Go.Pz
