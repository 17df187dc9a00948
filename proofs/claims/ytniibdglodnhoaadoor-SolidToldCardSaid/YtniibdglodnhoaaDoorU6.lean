/- Of several texts of this claim, one behind the other: Vr Gv Sc Sd Sp Ag Se Sg Sh Si Sj. -/
import Derived.Test.YtniibdglodnhoaaDoorU5
import Derived.Test.YtniibdglodnhoaaDoorVW

/- Walks of the document's envelope: eight, Bytes, Same, From; both From's and Bytes' refusals. -/
namespace Go.Bva
open Go.RowKit Go.Bv
section
variable {P : Program} {ops : Array Oper} {Q : Exit → Act → World → Prop} {a : Act} {w : World} {rest : List Oper}
variable {d : Option Tmp} {ty : TypeId} {pos : String} {aft : Array Edge}
def brem (u : BitVec 64) : BitVec 64 := u % 256#64
def bquo (u : BitVec 64) : BitVec 64 := u / 256#64
def blow (u : BitVec 64) : BitVec 8 := u.setWidth 8
theorem rem_u64 {t yt : TypeId} {x y : Operand} {u : BitVec 64} (hx : a.eval x = .int .u64 (u.toNat : Int)) (hy : a.eval y = .int .u64 256)
    (h : wpList P ops Q rest (a.put d (.int .u64 ((brem u).toNat : Int))) w) : wpList P ops Q ({ dst := d, op := .binOp .rem t x y yt, type := ty, pos := pos, after := aft, guard := none } :: rest) a w := by
  unfold brem at h
  refine step_val ?_ h
  simp only [execOp, hx, hy]
  have e : ∀ z : Int, IntKind.u64.wrap z = z % 18446744073709551616 := fun z => by simp [IntKind.wrap, IntKind.bits, IntKind.signed]
  have hu := u.isLt
  simp [go_sem, binOp, eqGuard, Op.intArith, e, BitVec.toNat_umod, Int.tmod_eq_emod_of_nonneg]
  try omega
theorem quo_u64 {t yt : TypeId} {x y : Operand} {u : BitVec 64} (hx : a.eval x = .int .u64 (u.toNat : Int)) (hy : a.eval y = .int .u64 256)
    (h : wpList P ops Q rest (a.put d (.int .u64 ((bquo u).toNat : Int))) w) : wpList P ops Q ({ dst := d, op := .binOp .quo t x y yt, type := ty, pos := pos, after := aft, guard := none } :: rest) a w := by
  unfold bquo at h
  refine step_val ?_ h
  simp only [execOp, hx, hy]
  have e : ∀ z : Int, IntKind.u64.wrap z = z % 18446744073709551616 := fun z => by simp [IntKind.wrap, IntKind.bits, IntKind.signed]
  have hu := u.isLt
  simp [go_sem, binOp, eqGuard, Op.intArith, e, BitVec.toNat_udiv, Int.tdiv_eq_ediv_of_nonneg]
  try omega
theorem cnv_64_8 {s t : TypeId} {x : Operand} {u : BitVec 64} (hs : P.underlying s = some (.int .u64)) (ht : P.underlying t = some (.int .u8)) (hx : a.eval x = .int .u64 (u.toNat : Int))
    (h : wpList P ops Q rest (a.put d (.int .u8 ((blow u).toNat : Int))) w) : wpList P ops Q ({ dst := d, op := .convert s t x, type := ty, pos := pos, after := aft, guard := none } :: rest) a w := by
  unfold blow at h
  refine step_val ?_ h
  have e : IntKind.u8.wrap (u.toNat : Int) = ((u.setWidth 8).toNat : Int) := by
    rw [IntKind.wrap_u8', BitVec.toNat_setWidth]; omega
  simp only [execOp, hx]
  have hc : (convert s t (.int IntKind.u64 (u.toNat : Int))).run P w = .ok (.int IntKind.u8 (IntKind.u8.wrap (u.toNat : Int))) w := by simp [convert, run_underlying hs, run_underlying ht, Conv.intToInt]
  simp [hc, e]
end
end Go.Bva
namespace Go.Proofs.YtniibdglodnhoaaDoor
open Go.RowKit Go.Own Go.Bv Go.Ord Go.Eq

def quoK (n : BitVec 64) : Nat → BitVec 64
  | 0 => n
  | k + 1 => Go.Bva.bquo (quoK n k)
def reK (n : BitVec 64) : Nat → List (BitVec 8)
  | 0 => []
  | k + 1 => reK n k ++ [Go.Bva.blow (Go.Bva.brem (quoK n k))]
theorem reK_length (n : BitVec 64) : ∀ k, (reK n k).length = k
  | 0 => rfl
  | k + 1 => by show (reK n k ++ _).length = _; rw [List.length_append, reK_length n k]; rfl
theorem reK_eight (n : BitVec 64) : reK n 8 = eight n := by
  simp only [reK, quoK, eight, List.nil_append, List.cons_append, List.cons.injEq, and_true]
  have := n.isLt
  refine ⟨?_, ?_, ?_, ?_, ?_, ?_, ?_, ?_⟩ <;> apply BitVec.eq_of_toNat_eq <;> simp [Go.Bva.blow, Go.Bva.brem, Go.Bva.bquo, Nat.shiftRight_eq_div_pow] <;> omega

set_option maxHeartbeats 1000000 in
set_option maxRecDepth 100000 in
theorem bytes_no (n : BitVec 64) (u : St) (a : Option Addr) (len cap : Nat) (w : World) (hl : 65536 < len) :
    Calls Tryd.prog 18 #[.agg (boxC n (.slice a len cap) u)] w fun e w' => e = .returned (.tuple #[.slice none 0 0, .int .i64 3]) ∧ Below w.heap.size w w' := by
  have hO := Own.start w
  have d1 : decide ((65536 : Int) < (len : Int)) = true := by simp; omega
  generalize hW : w = wn at hO ⊢
  clear hW w
  go_enter Tryd.func18, Tryd.ntmps18
  go_wp2_with (first
    | ((with_reducible refine gBox ?_); first | (refine bxA hO rfl ?_; clear hO; intro b ww hO) | (refine bx1 hO rfl rfl ?_; clear hO; intro b ww hO))
    | ((with_reducible refine gLoad (T := 28) ?_); refine ldC hO 0 rfl rfl (tA rfl) rfl ?_))
  go_ret2
  exact ⟨rfl, hO.below⟩

set_option maxHeartbeats 1000000 in
set_option maxRecDepth 100000 in
theorem from_long (a : Option Addr) (len cap : Nat) (w : World) (hl : 65560 < len) :
    Calls Tryd.prog 34 #[.slice a len cap] w fun e w' => e = .returned (.tuple #[.agg (boxC 0#64 (.slice none 0 0) St.zero), .int .i64 3]) ∧ Below w.heap.size w w' := by
  have hO := Own.start w
  have d0 : decide ((len : Int) < 24) = false := by simp; omega
  have d1 : decide ((65560 : Int) < (len : Int)) = true := by simp; omega
  generalize hW : w = wn at hO ⊢
  clear hW w
  go_enter Tryd.func34, Tryd.ntmps34
  go_wp2_with (first
    | ((with_reducible refine gAlloc (T := 51) ?_); refine own_alloc hO _ _ ibz ?_; clear hO; intro bx ww hO)
    | ((with_reducible refine gLoad (T := 51) ?_); refine ldX hO 0 rfl rfl (tA rfl) (tS rfl) ?_)
    | ((with_reducible refine gStore (T := 51) ?_); refine stX hO 0 rfl rfl rfl rfl rfl (tS rfl) ?_; clear hO; intro ww hO))
  refine bodyPost_ret (res_ct rfl _ _ bx 51 (boxC 0#64 (.slice none 0 0) St.zero) (0,0) _ rfl (hO.blk 0 rfl) Tryd.underlying51 rfl (ibs _ _ _)) rfl ⟨rfl, hO.below⟩

end Go.Proofs.YtniibdglodnhoaaDoor

/- Results that are texts: an opaque piece of memory that holds them. -/
namespace Go.Proofs.YtniibdglodnhoaaDoor
open Go.RowKit Go.Own Go.Bv Go.Ord

/-- a piece of memory that holds, wherever it is held, these octets at this place -/
def Gives (r : Res) (a : Option Addr) (m c : Nat) (X : List (BitVec 8)) : Prop := ∀ lo w', Res.holds lo w' r → Rd w' 1 a m c (u8s X)
theorem gives_sl {e : TypeId} {a : Option Addr} {N c n : Nat} {xs : List Value} {X : List (BitVec 8)} (hn : n ≤ N) (h : xs.take (n * 1) = u8s X) : Gives (.sl e 1 (.slice a N c) N xs) a n c X := fun lo w' hh => by
  obtain ⟨a', c', h1, h2⟩ := rd_of_row hh
  simp only [Value.slice.injEq, true_and] at h1
  obtain ⟨rfl, rfl⟩ := h1
  rw [← h]
  exact h2.take n hn
theorem gives_row {e : TypeId} {a : Option Addr} {n c : Nat} {X : List (BitVec 8)} (hl : X.length = n) : Gives (.sl e 1 (.slice a n c) n (u8s X)) a n c X :=
  gives_sl (Nat.le_refl _) (List.take_of_length_le (by rw [u8s_length]; omega))
theorem gives_blk {g : Nat} {C : Array Value} {t : TypeId} {fr : Nat × Nat} {n : Nat} {X : List (BitVec 8)} (hC : C.toList.take n = u8s X) (hl : X.length = n) (hm : n ≤ maxLen) : Gives (.blk g (.cells C t fr)) (some ⟨g, 0, none⟩) n n X := fun lo w' hh =>
  rd_blk_off hh.2 0 (by rw [List.drop_zero]; exact hC) (by rw [u8s_length]; exact hl) (Nat.le_refl _) hm
end Go.Proofs.YtniibdglodnhoaaDoor

/- Walks: what solid's opening goes through. -/
namespace Go.Proofs.YtniibdglodnhoaaDoor
open Go.RowKit Go.Own Go.Bv Go.Ord Go.Eq Go.Opn Go.Pb

/-- a text handed back, and an Errno -/
def TxN (w : World) (X : List (BitVec 8)) (M : Nat) (E : Int) (e : Ending) (w' : World) : Prop :=
  ∃ a' c' r, e = .returned (.tuple #[.slice a' M c', .int .i64 E]) ∧ Below w.heap.size w w' ∧ Res.holds w.heap.size w' r ∧ Gives r a' M c' X
theorem TxN.no {w w' : World} {E : Int} {e : Ending} (h : e = .returned (.tuple #[.slice none 0 0, .int .i64 E]) ∧ Below w.heap.size w w') : TxN w [] 0 E e w' :=
  ⟨none, 0, .sl 5 1 (.slice none 0 0) 0 [], h.1, h.2, World.ownsRow_nil _ _ _ _, gives_row (X := []) rfl⟩
theorem TxN.row {w w' : World} {n : Nat} {X : List (BitVec 8)} {E : Int} {e : Ending} (hl : X.length = n) (h : ∃ a' c', e = .returned (.tuple #[.slice a' n c', .int .i64 E]) ∧ Below w.heap.size w w' ∧ w'.ownsRow w.heap.size 5 1 (.slice a' n c') n (u8s X)) : TxN w X n E e w' := by
  obtain ⟨a', c', h1, h2, h3⟩ := h
  exact ⟨a', c', .sl 5 1 (.slice a' n c') n (u8s X), h1, h2, h3, gives_row hl⟩

/-- what opening goes through, as values -/
def stepsC (kb : Nat) : Array Value := #[.func (.func 14) #[] #[], .func (.func 33) #[] #[.pointer (some ⟨kb, 0, none⟩)], .func (.func 36) #[] #[]]

theorem istz : (Tryd.prog.info? 57).bind (·.zero) = some (.agg #[.nilFunc, .nilFunc, .nilFunc]) := by kernel_rfl
theorem ists (kb : Nat) : (Tryd.prog.info? 57).map (·.size) = some (stepsC kb).size := (by kernel_rfl : (Tryd.prog.info? 57).map (·.size) = some 3)

set_option maxHeartbeats 1000000 in
set_option maxRecDepth 100000 in
theorem steps_calls (key : St) (w : World) :
    Calls Tryd.prog 21 #[.agg key.C] w fun e w' => ∃ kb, e = .returned (.agg (stepsC kb)) ∧ Below w.heap.size w w' ∧ Res.holds w.heap.size w' (.blk kb (.cells key.C 24 (0,0))) := by
  have hO := Own.start w
  generalize hW : w = wn at hO ⊢
  clear hW w
  go_enter Tryd.func21, Tryd.ntmps21
  go_wp2_with (first
    | ((with_reducible refine gBox ?_); first | (refine bxA hO rfl ?_; clear hO; intro kb ww hO) | (refine bx1 hO rfl rfl ?_; clear hO; intro kb ww hO))
    | ((with_reducible refine gAlloc ?_); refine own_alloc hO _ _ istz ?_; clear hO; intro zb ww hO)
    | ((with_reducible refine gStore ?_); refine stX hO 0 rfl rfl rfl rfl rfl (ists kb) ?_; clear hO; intro ww hO))
  refine bodyPost_ret (results_cell_row rfl _ _ zb 57 (stepsC kb) (0,0) _ rfl (hO.blk 0 rfl) Tryd.underlying57 rfl (ists kb)) rfl ⟨kb, rfl, hO.below, hO.at 1 rfl⟩

/-- a whole block that is not of the call's own -/
theorem ldO {P : Program} {ops : Array Oper} {Q : Exit → Act → World → Prop} {a : Act} {w : World} {rest : List Oper} {d : Option Tmp} {ty : TypeId} {pos : String} {aft : Array Edge} {T : TypeId} {p : Tmp} {b : Nat} {C : Array Value} {t : TypeId} {fr : Nat × Nat}
    (hg : w.heap[b]? = some (.cells C t fr)) (hx : tmpAt a p = some (.pointer (some ⟨b, 0, none⟩))) (hT : aggT P T = some true) (hs : (P.info? T).map (·.size) = some C.size)
    (h : wpList P ops Q rest (a.put d (.agg C)) w) :
    wpList P ops Q ({ dst := d, op := .load T (.tmp p), type := ty, pos := pos, after := aft, guard := none } :: rest) a w := by
  refine own_loadAll T _ b C t fr hg (eval_tmp hx) ?_ hs h
  obtain ⟨dd, hd, hdd⟩ := Option.map_eq_some_iff.1 hT
  rw [hd]
  simp only [Option.map_some, Option.some.injEq]
  exact hdd

set_option maxHeartbeats 2000000 in
set_option maxRecDepth 100000 in
theorem unbox_calls (key : St) (kb : Nat) (a : Option Addr) (n cap : Nat) (t : List (BitVec 8)) (w : World) (hR : Rd w 1 a n cap (u8s t)) (hK : w.heap[kb]? = some (.cells key.C 24 (0,0))) (hT : Turns w) (E : Int) (X : List (BitVec 8)) (M : Nat) (hE : unboxE key t = E) (hX : unboxT key t = X) (hM : X.length = M) :
    Calls Tryd.prog 33 #[.slice a n cap, .pointer (some ⟨kb, 0, none⟩)] w (TxN w X M E) := by
  have hO := Own.start w
  have hln : t.length = n := by have := hR.len; rw [u8s_length] at this; omega
  have nilX : E ≠ 0 → X = [] ∧ M = 0 := fun h => by
    have h1 : X = [] := by rw [← hX]; unfold unboxT; rw [hE, if_neg h]
    exact ⟨h1, by rw [← hM, h1]; rfl⟩
  have HR := Lib.hid hR
  have HT := Lib.hid hT
  have HK := Lib.hid hK
  unfold unboxE at hE
  rw [hln] at hE
  by_cases h1 : n < 24
  · rw [if_pos h1] at hE
    subst hE
    obtain ⟨rfl, rfl⟩ := nilX (by decide)
    have G1 := Lib.hid (fun w => from_no a n cap w h1)
    clear hX hM nilX hR hT hK hln h1
    generalize hW : w = wn at hO HR HT HK ⊢
    clear hW w
    go_enter Tryd.func33, Tryd.ntmps33
    go_wp2_with (first
      | ((with_reducible refine gG ?_); refine wpList_want rfl ?_)
      | (go_at_call 34; refine (G1.out _).mono ?_; rintro e ww ⟨rfl, hb⟩; replace hO := hO.call hb; clear hb)
      | ((with_reducible refine gAlloc (T := 51) ?_); refine own_alloc hO _ _ ibz ?_; clear hO; intro bx ww hO)
      | ((with_reducible refine gLoad ?_); first | refine ldX hO 0 rfl rfl (tA rfl) (tS rfl) ?_ | refine ldC hO 0 rfl rfl (tA rfl) rfl ?_)
      | ((with_reducible refine gStore ?_); first | (refine stX hO 0 rfl rfl rfl rfl rfl (tS rfl) ?_; clear hO; intro ww hO) | (refine stC hO 0 rfl rfl rfl (ltb rfl) rfl (tS rfl) ?_; clear hO; intro ww hO)))
    go_ret2
    exact .no ⟨rfl, hO.below⟩
  rw [if_neg h1] at hE
  by_cases h2 : 65560 < n
  · rw [if_pos h2] at hE
    subst hE
    obtain ⟨rfl, rfl⟩ := nilX (by decide)
    have G1 := Lib.hid (fun w => from_long a n cap w h2)
    clear hX hM nilX hR hT hK hln h1 h2
    generalize hW : w = wn at hO HR HT HK ⊢
    clear hW w
    go_enter Tryd.func33, Tryd.ntmps33
    go_wp2_with (first
      | ((with_reducible refine gG ?_); refine wpList_want rfl ?_)
      | (go_at_call 34; refine (G1.out _).mono ?_; rintro e ww ⟨rfl, hb⟩; replace hO := hO.call hb; clear hb)
      | ((with_reducible refine gAlloc (T := 51) ?_); refine own_alloc hO _ _ ibz ?_; clear hO; intro bx ww hO)
      | ((with_reducible refine gLoad ?_); first | refine ldX hO 0 rfl rfl (tA rfl) (tS rfl) ?_ | refine ldC hO 0 rfl rfl (tA rfl) rfl ?_)
      | ((with_reducible refine gStore ?_); first | (refine stX hO 0 rfl rfl rfl rfl rfl (tS rfl) ?_; clear hO; intro ww hO) | (refine stC hO 0 rfl rfl rfl (ltb rfl) rfl (tS rfl) ?_; clear hO; intro ww hO)))
    go_ret2
    exact .no ⟨rfl, hO.below⟩
  rw [if_neg h2] at hE
  have G1 := Lib.hid (fun w h => from_ok a n cap t w h (by omega) (by omega))
  obtain ⟨N, hN⟩ : ∃ N, num t 8 = N := ⟨_, rfl⟩
  obtain ⟨u, hu⟩ : ∃ u, St.of ((t.drop 8).take 16) = u := ⟨_, rfl⟩
  obtain ⟨v, hv⟩ : ∃ v, t.drop 24 = v := ⟨_, rfl⟩
  have hvl : v.length = n - 24 := by rw [← hv, List.length_drop, hln]
  unfold unboxT at hX
  unfold unboxE at hX
  rw [hln, if_neg h1, if_neg h2, hN, hu, hv] at hX
  rw [hN, hu, hv] at G1 hE
  by_cases h3 : u = key.tag N v
  · rw [if_pos h3] at hE hX
    rw [if_pos rfl] at hX
    subst hE
    have hMn : M = n - 24 := by rw [← hM, ← hX, St.hide_length, hvl]
    have g2 := fun w a c h hT => open_ok key N a (n - 24) c v w h (by omega) hT
    rw [← h3, hX] at g2
    rw [← hMn] at g2 G1
    unfold BkRet at g2
    have G2 := Lib.hid g2
    have HX := Lib.hid (fun (g : Nat) (C : Array Value) (h : C.toList.take M = u8s X) => gives_blk (g := g) (t := 5) (fr := (0,0)) h hM (by simp [maxLen]; omega))
    clear hX hM nilX hR hT hK hln h1 h2 h3 g2 hN hu hv hvl hMn
    generalize hW : w = wn at hO HR HT HK ⊢
    clear hW w
    go_enter Tryd.func33, Tryd.ntmps33
    go_wp2_with (first
      | ((with_reducible refine gG ?_); refine wpList_want rfl ?_)
      | (go_at_call 34; refine (G1.out _ (hO.rd HR.out)).mono ?_; rintro e ww ⟨a2, c2, rfl, hb, hr⟩; replace hO := hO.addRow hb hr; clear hb hr)
      | (go_at_call 35; refine (G2.out _ _ _ (hO.rdAt 1 rfl) (HT.out.own hO)).mono ?_; rintro e ww ⟨g, C, rfl, hb, hh, hC⟩; replace hO := hO.add hb hh; clear hb hh)
      | ((with_reducible refine gAlloc (T := 51) ?_); refine own_alloc hO _ _ ibz ?_; clear hO; intro bx ww hO)
      | ((with_reducible refine gLoad ?_); first | refine ldX hO 0 rfl rfl (tA rfl) (tS rfl) ?_ | refine ldC hO 0 rfl rfl (tA rfl) rfl ?_ | refine ldX hO 1 rfl rfl (tA rfl) (tS rfl) ?_ | refine ldC hO 1 rfl rfl (tA rfl) rfl ?_)
      | ((with_reducible refine gStore ?_); first | (refine stX hO 0 rfl rfl rfl rfl rfl (tS rfl) ?_; clear hO; intro ww hO) | (refine stC hO 0 rfl rfl rfl (ltb rfl) rfl (tS rfl) ?_; clear hO; intro ww hO) | (refine stX hO 1 rfl rfl rfl rfl rfl (tS rfl) ?_; clear hO; intro ww hO) | (refine stC hO 1 rfl rfl rfl (ltb rfl) rfl (tS rfl) ?_; clear hO; intro ww hO))
      | ((with_reducible refine gLoad (T := 24) ?_); refine ldO (hO.old HK.out) rfl (tA rfl) (tS rfl) ?_))
    go_ret2
    exact ⟨some ⟨g, 0, none⟩, M, _, rfl, hO.below, hO.at 0 rfl, HX.out _ _ hC⟩
  · rw [if_neg h3] at hE
    subst hE
    obtain ⟨rfl, rfl⟩ := nilX (by decide)
    have g2 := fun w a c h hT => open_bad key N a (n - 24) c v u w h (by omega) h3 hT
    have G2 := Lib.hid g2
    clear hX hM nilX hR hT hK hln h1 h2 h3 g2 hN hu hv hvl
    generalize hW : w = wn at hO HR HT HK ⊢
    clear hW w
    go_enter Tryd.func33, Tryd.ntmps33
    go_wp2_with (first
      | ((with_reducible refine gG ?_); refine wpList_want rfl ?_)
      | (go_at_call 34; refine (G1.out _ (hO.rd HR.out)).mono ?_; rintro e ww ⟨a2, c2, rfl, hb, hr⟩; replace hO := hO.addRow hb hr; clear hb hr)
      | (go_at_call 35; refine (G2.out _ _ _ (hO.rdAt 1 rfl) (HT.out.own hO)).mono ?_; rintro e ww ⟨rfl, hb⟩; replace hO := hO.call hb; clear hb)
      | ((with_reducible refine gAlloc (T := 51) ?_); refine own_alloc hO _ _ ibz ?_; clear hO; intro bx ww hO)
      | ((with_reducible refine gLoad ?_); first | refine ldX hO 0 rfl rfl (tA rfl) (tS rfl) ?_ | refine ldC hO 0 rfl rfl (tA rfl) rfl ?_ | refine ldX hO 1 rfl rfl (tA rfl) (tS rfl) ?_ | refine ldC hO 1 rfl rfl (tA rfl) rfl ?_)
      | ((with_reducible refine gStore ?_); first | (refine stX hO 0 rfl rfl rfl rfl rfl (tS rfl) ?_; clear hO; intro ww hO) | (refine stC hO 0 rfl rfl rfl (ltb rfl) rfl (tS rfl) ?_; clear hO; intro ww hO) | (refine stX hO 1 rfl rfl rfl rfl rfl (tS rfl) ?_; clear hO; intro ww hO) | (refine stC hO 1 rfl rfl rfl (ltb rfl) rfl (tS rfl) ?_; clear hO; intro ww hO))
      | ((with_reducible refine gLoad (T := 24) ?_); refine ldO (hO.old HK.out) rfl (tA rfl) (tS rfl) ?_))
    go_ret2
    exact .no ⟨rfl, hO.below⟩

set_option maxHeartbeats 1000000 in
set_option maxRecDepth 100000 in
theorem third_calls (a : Option Addr) (n cap : Nat) (t : List (BitVec 8)) (w : World) (hR : Rd w 1 a n cap (u8s t)) (hn : n ≤ 10000000) (E : Int) (X : List (BitVec 8)) (M : Nat) (hE : Go.Pz.unE t 65536 = E) (hX : Go.Pz.unT t 65536 = X) (hM : X.length = M) :
    Calls Tryd.prog 36 #[.slice a n cap] w fun e w' => ∃ a' c', e = .returned (.tuple #[.slice a' M c', .int .i64 E]) ∧ Below w.heap.size w w' ∧ w'.ownsRow w.heap.size 5 1 (.slice a' M c') M (u8s X) := by
  have hO := Own.start w
  have G1 := Lib.hid (fun w h => unpack_calls a n cap t 65536 w h hn X E M hX hE hM)
  have HR := Lib.hid hR
  clear hR hE hX hM
  generalize hW : w = wn at hO HR ⊢
  clear hW w
  go_enter Tryd.func36, Tryd.ntmps36
  go_wp2_with (first
    | (go_at_call 37; refine (G1.out _ (hO.rd HR.out)).mono ?_; rintro e ww ⟨a2, c2, rfl, hb, hr⟩; replace hO := hO.addRow hb hr; clear hb hr))
  go_ret2
  exact ⟨a2, c2, rfl, hO.below, hO.row 0 rfl⟩
end Go.Proofs.YtniibdglodnhoaaDoor

/- Walk: solid's Open, whatever it is given. -/
namespace Go.Proofs.YtniibdglodnhoaaDoor
open Go.RowKit Go.Own Go.Bv Go.Ord Go.Eq Go.Opn Go.Pb

theorem openT_length (b : List (BitVec 8)) : (openT b).length ≤ b.length := by
  unfold openT
  split
  · simp
  · simp
theorem unboxT_length (key : St) (t : List (BitVec 8)) : (unboxT key t).length ≤ t.length := by
  unfold unboxT
  split
  · rw [St.hide_length, List.length_drop]; omega
  · simp
theorem stepsI0 (kb : Nat) (w : World) : (Instr.index 57 (.agg (stepsC kb)) (.int .i64 0)).run Tryd.prog w = .ok (.func (.func 14) #[] #[]) w := by kernel_rfl
theorem stepsI1 (kb : Nat) (w : World) : (Instr.index 57 (.agg (stepsC kb)) (.int .i64 1)).run Tryd.prog w = .ok (.func (.func 33) #[] #[.pointer (some ⟨kb, 0, none⟩)]) w := by kernel_rfl
theorem stepsI2 (kb : Nat) (w : World) : (Instr.index 57 (.agg (stepsC kb)) (.int .i64 2)).run Tryd.prog w = .ok (.func (.func 36) #[] #[]) w := by kernel_rfl

set_option maxHeartbeats 4000000 in
set_option maxRecDepth 100000 in
theorem sopen_calls (key : St) (a : Option Addr) (n cap : Nat) (b : List (BitVec 8)) (w : World) (hR : Rd w 1 a n cap (u8s b)) (hT : Turns w) (E : Int) (T : List (BitVec 8)) (M : Nat) (hE : soE key b = E) (hX : soT key b = T) (hM : T.length = M) :
    Calls Tryd.prog 10 #[.agg key.C, .slice a n cap] w fun e w' => ∃ a' c', e = .returned (.tuple #[.slice a' M c', .int .i64 E]) ∧ Below w.heap.size w w' ∧ w'.ownsRow w.heap.size 5 1 (.slice a' M c') M (u8s T) := by
  have hO := Own.start w
  have hln : b.length = n := by have := hR.len; rw [u8s_length] at this; omega
  have nilX : E ≠ 0 → T = [] ∧ M = 0 := fun h => by
    have h1 : T = [] := by rw [← hX]; unfold soT; rw [hE, if_neg h]
    exact ⟨h1, by rw [← hM, h1]; rfl⟩
  have HR := Lib.hid hR
  have HT := Lib.hid hT
  by_cases h1 : 131072 < n
  · unfold soE at hE
    rw [hln, if_pos h1] at hE
    subst hE
    obtain ⟨rfl, rfl⟩ := nilX (by decide)
    have d1 : Hid (131072 < n) := h1
    clear hX hM nilX hR hT hln h1
    generalize hW : w = wn at hO HR HT ⊢
    clear hW w
    have d2 : decide ((131072 : Int) < (n : Int)) = true := decide_eq_true (by have := d1.out; omega)
    go_enter Tryd.func10, Tryd.ntmps10
    go_wp2_with (first
      | ((with_reducible refine gG ?_); refine wpList_want rfl ?_)
      | ((with_reducible refine gBox ?_); first | (refine bxA hO rfl ?_; clear hO; intro bk ww hO) | (refine bx1 hO rfl rfl ?_; clear hO; intro bk ww hO)))
    go_ret2
    exact ⟨none, 0, rfl, hO.below, World.ownsRow_nil _ _ _ _⟩
  have hX0 := hX
  unfold soT at hX
  rw [hE] at hX
  unfold soE at hE
  rw [hln, if_neg h1] at hE
  have HC := Lib.hid (fun w h => open_calls a n cap b w h (by omega))
  obtain ⟨E1, hE1⟩ : ∃ x, openE b = x := ⟨_, rfl⟩
  obtain ⟨T1, hT1⟩ : ∃ x, openT b = x := ⟨_, rfl⟩
  obtain ⟨M1, hM1⟩ : ∃ x, T1.length = x := ⟨_, rfl⟩
  have b1 : M1 ≤ 131072 := by rw [← hM1, ← hT1]; have := openT_length b; omega
  unfold RetSE at HC
  rw [hE1, hT1, hM1] at HC
  rw [hE1, hT1] at hE
  rw [hT1] at hX
  obtain ⟨E2, hE2⟩ : ∃ x, unboxE key T1 = x := ⟨_, rfl⟩
  obtain ⟨T2, hT2⟩ : ∃ x, unboxT key T1 = x := ⟨_, rfl⟩
  obtain ⟨M2, hM2⟩ : ∃ x, T2.length = x := ⟨_, rfl⟩
  have b2 : M2 ≤ 131072 := by rw [← hM2, ← hT2]; have := unboxT_length key T1; omega
  have HB := Lib.hid (fun (kb : Nat) (a : Option Addr) (c : Nat) (w : World) hR hK hT => unbox_calls key kb a M1 c T1 w hR hK hT E2 T2 M2 hE2 hT2 hM2)
  unfold TxN at HB
  rw [hE2, hT2] at hE
  rw [hT2] at hX
  obtain ⟨E3, hE3⟩ : ∃ x, Go.Pz.unE T2 65536 = x := ⟨_, rfl⟩
  obtain ⟨T3, hT3⟩ : ∃ x, Go.Pz.unT T2 65536 = x := ⟨_, rfl⟩
  obtain ⟨M3, hM3⟩ : ∃ x, T3.length = x := ⟨_, rfl⟩
  have HD := Lib.hid (fun (a : Option Addr) (c : Nat) (w : World) hR => third_calls a M2 c T2 w hR (by omega) E3 T3 M3 hE3 hT3 hM3)
  rw [hE3] at hE
  rw [hT3] at hX
  have HE := Lib.hid hE
  have HX := Lib.hid hX
  have HM := Lib.hid hM
  have HNIL := Lib.hid nilX
  have HM3 := Lib.hid hM3
  have d1 : Hid (¬ 131072 < n) := h1
  clear hE hX hM nilX hR hT hln h1 hE1 hT1 hM1 hE2 hT2 hM2 hE3 hT3 hM3 b1 b2 hX0
  generalize hW : w = wn at hO HR HT ⊢
  clear hW w
  have d2 : decide ((131072 : Int) < (n : Int)) = false := decide_eq_false (by have := d1.out; omega)
  go_enter Tryd.func10, Tryd.ntmps10
  go_wp2_with (first
    | ((with_reducible refine gG ?_); refine wpList_want rfl ?_)
    | ((with_reducible refine gBox ?_); first | (refine bxA hO rfl ?_; clear hO; intro bk ww hO) | (refine bx1 hO rfl rfl ?_; clear hO; intro bk ww hO))
    | ((with_reducible refine gLoad ?_); first | refine ldX hO 0 rfl rfl (tA rfl) (tS rfl) ?_ | refine ldC hO 0 rfl rfl (tA rfl) rfl ?_)
    | (go_at_call 21; refine (steps_calls key _).mono ?_; rintro e ww ⟨kb, rfl, hb, hh⟩; replace hO := hO.add hb hh; clear hb hh))
  clear d1 d2
  go_loopg [1, 13] 3 (fun mm s1 s13 wr => (mm = 3 ∧ s13 = .int .i64 0 ∧ s1 = .slice a n cap ∧ Own wn wr [.blk kb (.cells key.C 24 (0,0)), .blk bk (.cells key.C 24 (0,0))]) ∨
    (mm = 2 ∧ s13 = .int .i64 1 ∧ Hid (E1 = 0) ∧ ∃ a1 c1, s1 = .slice a1 M1 c1 ∧ Rd wr 1 a1 M1 c1 (u8s T1) ∧ Own wn wr [.blk kb (.cells key.C 24 (0,0)), .blk bk (.cells key.C 24 (0,0))]) ∨
    (mm = 1 ∧ s13 = .int .i64 2 ∧ Hid (E1 = 0) ∧ Hid (E2 = 0) ∧ ∃ a1 c1, s1 = .slice a1 M2 c1 ∧ Rd wr 1 a1 M2 c1 (u8s T2) ∧ Own wn wr [.blk kb (.cells key.C 24 (0,0)), .blk bk (.cells key.C 24 (0,0))]) ∨
    (mm = 0 ∧ s13 = .int .i64 3 ∧ Hid (E1 = 0) ∧ Hid (E2 = 0) ∧ Hid (E3 = 0) ∧ ∃ a1 c1, s1 = .slice a1 M3 c1 ∧ Own wn wr [.sl 5 1 (.slice a1 M3 c1) M3 (u8s T3), .blk kb (.cells key.C 24 (0,0)), .blk bk (.cells key.C 24 (0,0))]))
  case atStart => exact .inl ⟨rfl, rfl, rfl, hO⟩
  case round =>
    rcases hrel with ⟨rfl, rfl, rfl, hO1⟩ | ⟨rfl, rfl, H1, a1, c1, rfl, hr1, hO1⟩ | ⟨rfl, rfl, H1, H2, a1, c1, rfl, hr1, hO1⟩ | ⟨rfl, rfl, H1, H2, H3, a1, c1, rfl, hO1⟩
    · clear hO
      have hO := hO1
      clear hO1
      have i0 := stepsI0 kb
      by_cases h0 : E1 = 0
      · subst h0
        go_wp2_with (first
          | (go_at_call 14; refine (HC.out _ (hO.rd HR.out)).mono ?_; rintro e ww ⟨a2, c2, rfl, hb, hr⟩; replace hO := hO.addRow hb hr; clear hb hr))
        go_roundg 2
        case measure => omega
        case rel => exact .inr (.inl ⟨rfl, rfl, (by first | exact rfl | exact True.intro), a2, c2, rfl, hO.rdAt 0 rfl, hO.tail⟩)
      · have he := HE.out
        rw [if_pos h0] at he
        subst he
        obtain ⟨rfl, rfl⟩ := HNIL.out h0
        have d0 : (E1 == 0) = false := by simpa using h0
        have d0' : decide (E1 = 0) = false := decide_eq_false h0
        have d0'' : (E1 != 0) = true := by simpa using h0
        clear h0 HE HX HM HNIL HM3
        go_wp2_with (first
          | (go_at_call 14; refine (HC.out _ (hO.rd HR.out)).mono ?_; rintro e ww ⟨a2, c2, rfl, hb, hr⟩; replace hO := hO.addRow hb hr; clear hb hr))
        go_ret2
        exact ⟨none, 0, rfl, hO.below, World.ownsRow_nil _ _ _ _⟩
    · clear hO
      have hO := hO1
      clear hO1
      have i0 := stepsI1 kb
      have he := HE.out
      have h1z := H1.out
      subst h1z
      rw [if_neg (by decide)] at he
      by_cases h0 : E2 = 0
      · subst h0
        clear he
        go_wp2_with (first
          | (go_at_call 33; refine (HB.out kb _ _ _ hr1 (hO.blk 0 rfl) (HT.out.own hO)).mono ?_; rintro e ww ⟨a2, c2, r2, rfl, hb, hh, hG⟩; replace hO := hO.add hb hh; clear hb hh))
        go_roundg 1
        case measure => omega
        case rel => exact .inr (.inr (.inl ⟨rfl, rfl, (by first | exact rfl | exact True.intro), (by first | exact rfl | exact True.intro), a2, c2, rfl, hG _ _ (hO.at 0 rfl), hO.tail⟩))
      · rw [if_pos h0] at he
        subst he
        obtain ⟨rfl, rfl⟩ := HNIL.out h0
        have d0 : (E2 == 0) = false := by simpa using h0
        have d0' : decide (E2 = 0) = false := decide_eq_false h0
        have d0'' : (E2 != 0) = true := by simpa using h0
        clear h0 HE HX HM HNIL HM3
        go_wp2_with (first
          | (go_at_call 33; refine (HB.out kb _ _ _ hr1 (hO.blk 0 rfl) (HT.out.own hO)).mono ?_; rintro e ww ⟨a2, c2, r2, rfl, hb, hh, hG⟩; replace hO := hO.add hb hh; clear hb hh))
        go_ret2
        exact ⟨none, 0, rfl, hO.below, World.ownsRow_nil _ _ _ _⟩
    · clear hO
      have hO := hO1
      clear hO1
      have i0 := stepsI2 kb
      have he := HE.out
      have h1z := H1.out
      subst h1z
      have h2z := H2.out
      subst h2z
      rw [if_neg (by decide), if_neg (by decide)] at he
      subst he
      by_cases h0 : E3 = 0
      · subst h0
        go_wp2_with (first
          | (go_at_call 36; refine (HD.out _ _ _ hr1).mono ?_; rintro e ww ⟨a2, c2, rfl, hb, hr⟩; replace hO := hO.addRow hb hr; clear hb hr))
        go_roundg 0
        case measure => omega
        case rel => exact .inr (.inr (.inr ⟨rfl, rfl, (by first | exact rfl | exact True.intro), (by first | exact rfl | exact True.intro), (by first | exact rfl | exact True.intro), a2, c2, rfl, hO⟩))
      · obtain ⟨rfl, rfl⟩ := HNIL.out h0
        have d0 : (E3 == 0) = false := by simpa using h0
        have d0' : decide (E3 = 0) = false := decide_eq_false h0
        have d0'' : (E3 != 0) = true := by simpa using h0
        clear h0 HE HX HM HNIL HM3
        go_wp2_with (first
          | (go_at_call 36; refine (HD.out _ _ _ hr1).mono ?_; rintro e ww ⟨a2, c2, rfl, hb, hr⟩; replace hO := hO.addRow hb hr; clear hb hr))
        go_ret2
        exact ⟨none, 0, rfl, hO.below, World.ownsRow_nil _ _ _ _⟩
    · clear hO
      have hO := hO1
      clear hO1
      have he := HE.out
      have hx := HX.out
      rw [H1.out, H2.out, H3.out] at he
      simp only [ne_eq, not_true_eq_false, if_false] at he
      rw [he, if_pos rfl] at hx
      subst hx
      subst he
      obtain rfl : M3 = M := by rw [← HM3.out, HM.out]
      clear HE HX HM HNIL HM3
      go_wp2
      go_ret2
      exact ⟨a1, c1, rfl, hO.below, hO.row 0 rfl⟩
end Go.Proofs.YtniibdglodnhoaaDoor

/- Texts in a slice, joined; the pieces that they are; how pieces lie. Plain. -/
namespace Go.Sl
open Go.RowKit

structure Pc where
  f : Int
  l : Int
  s : BitVec 32
  deriving DecidableEq
def Pc.C (t : Pc) : Array Value := #[.int .i64 t.f, .int .i64 t.l, .int .u32 (t.s.toNat : Int)]
def pcs : List Pc → List Value
  | [] => []
  | t :: r => .int .i64 t.f :: .int .i64 t.l :: .int .u32 (t.s.toNat : Int) :: pcs r
theorem pcs_length : ∀ l : List Pc, (pcs l).length = l.length * 3
  | [] => rfl
  | t :: r => by simp only [pcs, List.length_cons, pcs_length r]; omega
theorem pcs_cons (t : Pc) (r : List Pc) : pcs (t :: r) = t.C.toList ++ pcs r := rfl
theorem pcs_get : ∀ (l : List Pc) (k : Nat) (h : k < l.length) (j : Nat) (v : Value), l[k].C.toList[j]? = some v → (pcs l)[k * 3 + j]? = some v
  | t :: r, 0, _, j, v, hv => by
    have hj : j < 3 := (List.getElem?_eq_some_iff.1 hv).1
    rw [pcs_cons, Nat.zero_mul, Nat.zero_add, List.getElem?_append_left (by exact hj)]
    exact hv
  | t :: r, k + 1, h, j, v, hv => by
    rw [pcs_cons, List.getElem?_append_right (by show 3 ≤ _; omega)]
    have := pcs_get r k (by simpa using h) j v (by simpa using hv)
    rw [← this]
    congr 1
    show (k + 1) * 3 + j - 3 = _
    omega
theorem pcs_set : ∀ (l : List Pc) (k : Nat) (x : Pc), k < l.length → (((pcs l).set (k * 3) (.int .i64 x.f)).set (k * 3 + 1) (.int .i64 x.l)).set (k * 3 + 2) (.int .u32 (x.s.toNat : Int)) = pcs (l.set k x)
  | t :: r, 0, x, _ => rfl
  | t :: r, k + 1, x, h => by
    have e0 : (k + 1) * 3 = k * 3 + 3 := by omega
    rw [e0, show k * 3 + 3 + 1 = (k * 3 + 1) + 3 by omega, show k * 3 + 3 + 2 = (k * 3 + 2) + 3 by omega]
    show _ :: _ :: _ :: (((pcs r).set (k * 3) _).set (k * 3 + 1) _).set (k * 3 + 2) _ = _
    rw [pcs_set r k x (by simpa using h)]
    rfl
theorem pcs_inj : ∀ {l r : List Pc}, pcs l = pcs r → l = r
  | [], [], _ => rfl
  | [], t :: r, h => by simp [pcs] at h
  | t :: l, [], h => by simp [pcs] at h
  | s :: l, t :: r, h => by
    simp only [pcs, List.cons.injEq, Value.int.injEq, true_and] at h
    obtain ⟨h1, h2, h3, h4⟩ := h
    have h5 := BitVec.eq_of_toNat_eq (Int.ofNat.inj h3)
    obtain ⟨a, b, c⟩ := s
    obtain ⟨a', b', c'⟩ := t
    dsimp only at h1 h2 h5
    rw [h1, h2, h5, pcs_inj h4]
/-- the pieces that texts are, one behind the other -/
def pieceAt (bs : List (List (BitVec 8))) (k : Nat) : Pc := ⟨((bs.take k).flatten.length : Int), ((bs.getD k []).length : Int), Crc.sum (bs.getD k [])⟩
def pieces (bs : List (List (BitVec 8))) : List Pc := (List.range bs.length).map (pieceAt bs)
theorem pieces_length (bs : List (List (BitVec 8))) : (pieces bs).length = bs.length := by simp [pieces]
theorem pieces_get (bs : List (List (BitVec 8))) (k : Nat) (h : k < (pieces bs).length) : (pieces bs)[k] = pieceAt bs k := by simp [pieces]
/-- the first k are laid, the others are not -/
def mix (bs : List (List (BitVec 8))) (k : Nat) : List Pc := (pieces bs).take k ++ List.replicate (bs.length - k) ⟨0, 0, 0#32⟩
theorem mix_length (bs : List (List (BitVec 8))) (k : Nat) (h : k ≤ bs.length) : (mix bs k).length = bs.length := by
  unfold mix
  rw [List.length_append, List.length_take, pieces_length, List.length_replicate]
  omega
theorem mix_zero (bs : List (List (BitVec 8))) : mix bs 0 = List.replicate bs.length ⟨0, 0, 0#32⟩ := by simp [mix]
theorem mix_all (bs : List (List (BitVec 8))) : mix bs bs.length = pieces bs := by
  unfold mix
  rw [Nat.sub_self, List.replicate_zero, List.append_nil, List.take_of_length_le (by rw [pieces_length]; omega)]
theorem mix_set (bs : List (List (BitVec 8))) (k : Nat) (h : k < bs.length) : (mix bs k).set k (pieceAt bs k) = mix bs (k + 1) := by
  have hk : k < (pieces bs).length := by rw [pieces_length]; exact h
  have hl : ((pieces bs).take k).length = k := by rw [List.length_take]; omega
  unfold mix
  rw [List.set_append_right _ _ (by omega), hl, Nat.sub_self, show bs.length - k = (bs.length - (k + 1)) + 1 by omega, List.replicate_succ, List.set_cons_zero, List.take_succ_eq_append_getElem hk, pieces_get, List.append_assoc]
  rfl
theorem flat_next (bs : List (List (BitVec 8))) (k : Nat) (h : k < bs.length) : (bs.take (k + 1)).flatten = (bs.take k).flatten ++ bs[k] := by
  rw [List.take_succ_eq_append_getElem h, List.flatten_append]
  simp
theorem flat_cut (bs : List (List (BitVec 8))) (k : Nat) (h : k < bs.length) : (bs.flatten.drop (bs.take k).flatten.length).take bs[k].length = bs[k] := by
  have e : bs.flatten = (bs.take k).flatten ++ (bs[k] ++ (bs.drop (k + 1)).flatten) := by
    rw [← List.append_assoc, ← flat_next bs k h, ← List.flatten_append, List.take_append_drop]
  rw [e, List.drop_left, List.take_left]
theorem flat_le (bs : List (List (BitVec 8))) (k : Nat) : (bs.take k).flatten.length ≤ bs.flatten.length := by
  have e : bs.flatten = (bs.take k).flatten ++ (bs.drop k).flatten := by rw [← List.flatten_append, List.take_append_drop]
  rw [e, List.length_append]
  omega
theorem flat_bound (m : Nat) : ∀ (bs : List (List (BitVec 8))), (∀ b ∈ bs, b.length ≤ m) → bs.flatten.length ≤ m * bs.length
  | [], _ => by simp
  | b :: r, h => by
    have h1 := h b (by simp)
    have h2 := flat_bound m r (fun x hx => h x (by simp [hx]))
    rw [List.flatten_cons, List.length_append, List.length_cons, Nat.mul_add]
    omega
/-- what is cut out of octets -/
def cutE (b : List (BitVec 8)) (p : Pc) : Int :=
  if p.f < 0 ∨ p.f > b.length ∨ p.l < 0 ∨ p.l > (b.length : Int) - p.f then 1 else if Crc.sum ((b.drop p.f.toNat).take p.l.toNat) ≠ p.s then 7 else 0
def cutT (b : List (BitVec 8)) (p : Pc) : List (BitVec 8) := if cutE b p = 0 then (b.drop p.f.toNat).take p.l.toNat else []
theorem cut_piece (bs : List (List (BitVec 8))) (k : Nat) (h : k < bs.length) : cutE bs.flatten (pieceAt bs k) = 0 ∧ cutT bs.flatten (pieceAt bs k) = bs[k] := by
  have e : bs.getD k [] = bs[k] := by simp [h]
  have hc := flat_cut bs k h
  have h1 := flat_le bs (k + 1)
  rw [flat_next bs k h, List.length_append] at h1
  have h0 : cutE bs.flatten (pieceAt bs k) = 0 := by
    unfold cutE pieceAt
    dsimp only
    rw [if_neg (by rw [e]; omega), Int.toNat_natCast, Int.toNat_natCast, e, hc]
    simp
  refine ⟨h0, ?_⟩
  unfold cutT
  rw [if_pos h0]
  unfold pieceAt
  dsimp only
  rw [Int.toNat_natCast, Int.toNat_natCast, e, hc]
/-- the first error of pieces -/
def testE (b : List (BitVec 8)) : List Pc → Int
  | [] => 0
  | p :: r => if cutE b p = 0 then testE b r else cutE b p
theorem test_all (b : List (BitVec 8)) : ∀ l : List Pc, (∀ p ∈ l, cutE b p = 0) → testE b l = 0
  | [], _ => rfl
  | p :: r, h => by
    unfold testE
    rw [if_pos (h p (by simp))]
    exact test_all b r (fun q hq => h q (by simp [hq]))
theorem test_pieces (bs : List (List (BitVec 8))) : testE bs.flatten (pieces bs) = 0 := by
  refine test_all _ _ fun p hp => ?_
  unfold pieces at hp
  obtain ⟨k, hk, rfl⟩ := List.mem_map.1 hp
  exact (cut_piece bs k (List.mem_range.1 hk)).1
end Go.Sl
namespace Go.Proofs.YtniibdglodnhoaaDoor
/-- the texts themselves -/
def txs (ss : List Tb) : List (List (BitVec 8)) := ss.map Tb.b
theorem txs_length (ss : List Tb) : (txs ss).length = ss.length := by simp [txs]
theorem txs_get (ss : List Tb) (k : Nat) (h : k < ss.length) : (txs ss)[k]'(by rw [txs_length]; exact h) = ss[k].b := by simp [txs]
end Go.Proofs.YtniibdglodnhoaaDoor

/- Engine: a store of three cells into an element of a row of the call's own. -/
namespace Go.Own
open Go.RowKit Go.Ord

section
variable {P : Program} {ops : Array Oper} {Q : Exit → Act → World → Prop} {a : Act} {w w0 : World} {L : List Res} {rest : List Oper}
variable {d : Option Tmp} {ty : TypeId} {pos : String} {aft : Array Edge}
theorem Own.cellPut (hO : Own w0 w L) (i : Nat) {g j n cap sz : Nat} {e : TypeId} {xs : List Value} (v : Value)
    (hi : L[i]? = some (.sl e sz (.slice (some ⟨g, 0, none⟩) n cap) n xs)) (hj : j < n * sz) (h1 : v.oneCell' = true) :
    (store ⟨g, j, none⟩ v).run P w = .ok () (w.setCell ⟨g, j, none⟩ v) ∧ Own w0 (w.setCell ⟨g, j, none⟩ v) (L.set i (.sl e sz (.slice (some ⟨g, 0, none⟩) n cap) n (xs.set j v))) := by
  have hrow := hO.row i hi
  have hlen := hrow.1
  have hc : w.cell? ⟨g, j, none⟩ = some (xs[j]'(by omega)) := by rw [hrow.cellAt j hj]; exact List.getElem?_eq_getElem _
  have hf : w.frozen? ⟨g, j, none⟩ = false := hrow.frozenAt j
  have hst := hrow.stored j v
  refine ⟨?_, hO.grown i hi hst.2 hst.1 (fun k hk => .inl hk)⟩
  rw [run_store P w _ v _ h1, hc]
  simp [hf]
theorem own_set3 (hO : Own w0 w L) (i : Nat) (T : TypeId) (x y : Operand) {g j n cap sz : Nat} {e : TypeId} {xs : List Value} (v0 v1 v2 : Value)
    (hi : L[i]? = some (.sl e sz (.slice (some ⟨g, 0, none⟩) n cap) n xs)) (hx : a.eval x = .pointer (some ⟨g, j, none⟩)) (hy : a.eval y = .agg #[v0, v1, v2]) (hj : j + 2 < n * sz)
    (hu : (P.info? T).map (·.size) = some 3) (h0 : v0.oneCell' = true) (h1 : v1.oneCell' = true) (h2 : v2.oneCell' = true)
    (h : ∀ w', Own w0 w' (L.set i (.sl e sz (.slice (some ⟨g, 0, none⟩) n cap) n (((xs.set j v0).set (j + 1) v1).set (j + 2) v2))) → wpList P ops Q rest (a.put d undef) w') :
    wpList P ops Q ({ dst := d, op := .store T x y, type := ty, pos := pos, after := aft, guard := none } :: rest) a w := by
  refine wpList_plain rfl fun K hK => ?_
  obtain ⟨inf, hinf, hs⟩ := Option.map_eq_some_iff.1 hu
  have hil : i < L.length := (List.getElem?_eq_some_iff.1 hi).1
  obtain ⟨r0, o0⟩ := Own.cellPut (P := P) hO i (j := j) v0 hi (by omega) h0
  obtain ⟨r1, o1⟩ := Own.cellPut (P := P) o0 i (j := j + 1) v1 (List.getElem?_set_self hil) (by omega) h1
  obtain ⟨r2, o2⟩ := Own.cellPut (P := P) o1 i (j := j + 2) v2 (List.getElem?_set_self (by simpa using hil)) (by omega) h2
  have hcs : (storeCells ⟨g, j, none⟩ [v0, v1, v2] 0).run P w = .ok () (((w.setCell ⟨g, j, none⟩ v0).setCell ⟨g, j + 1, none⟩ v1).setCell ⟨g, j + 2, none⟩ v2) := by
    simp only [storeCells, Sem.run_bind, Addr.add_lit, Nat.add_zero, r0, Result.andThen_ok, r1, Nat.zero_add, r2, Nat.add_assoc, Nat.reduceAdd, Sem.run_pure]
  unfold Oper.wp
  simp [execOp, Instr.storeAt, Instr.sureAddr, storeVar, hx, hy, sizeOf, typeInfo, hinf, hs, Value.cells, hcs]
  refine hK _ _ (h _ ?_)
  simpa using o2
end
end Go.Own

/- Walks: slices.Concat of any texts; Few. -/
namespace Go.Proofs.YtniibdglodnhoaaDoor
open Go.RowKit Go.Own Go.Bv Go.Ord Go.Eq Go.Opn Go.Pb Go.Sl

/-- where the texts lie, and that they do -/
def Txs (w : World) (a : Option Addr) (len cap : Nat) (ss : List Tb) : Prop := Rd w 1 a len cap (ss.map Tb.v) ∧ ∀ x ∈ ss, Rd w 1 x.a x.n x.c (u8s x.b)
theorem Txs.len {w : World} {a : Option Addr} {len cap : Nat} {ss : List Tb} (h : Txs w a len cap ss) : ss.length = len := by have := h.1.len; rw [List.length_map] at this; omega
theorem Txs.at {w : World} {a : Option Addr} {len cap : Nat} {ss : List Tb} (h : Txs w a len cap ss) {k : Nat} (hk : k < ss.length) : (ss.map Tb.v)[k]? = some (.slice ss[k].a ss[k].n ss[k].c) ∧ Rd w 1 ss[k].a ss[k].n ss[k].c (u8s ss[k].b) ∧ ss[k].b.length = ss[k].n := by
  have h2 := h.2 _ (List.getElem_mem hk)
  refine ⟨?_, h2, by have := h2.len; rw [u8s_length] at this; omega⟩
  rw [List.getElem?_map, List.getElem?_eq_getElem hk]
  rfl
theorem Txs.own {w0 w : World} {L : List Res} {a : Option Addr} {len cap : Nat} {ss : List Tb} (h : Txs w0 a len cap ss) (hO : Own w0 w L) : Txs w a len cap ss := ⟨hO.rd h.1, fun x hx => hO.rd (h.2 x hx)⟩
/-- all of them up to a place -/
def upTo (ss : List Tb) (k : Nat) : List (BitVec 8) := ((txs ss).take k).flatten
theorem upTo_zero (ss : List Tb) : upTo ss 0 = [] := by simp [upTo]
theorem upTo_next (ss : List Tb) (k : Nat) (h : k < ss.length) : upTo ss (k + 1) = upTo ss k ++ ss[k].b := by
  unfold upTo
  rw [flat_next _ _ (by rw [txs_length]; exact h), txs_get ss k h]
theorem upTo_all (ss : List Tb) : upTo ss ss.length = (txs ss).flatten := by
  unfold upTo
  rw [List.take_of_length_le (by rw [txs_length]; omega)]
theorem upTo_le (ss : List Tb) (k : Nat) : (upTo ss k).length ≤ (txs ss).flatten.length := flat_le _ _

set_option maxHeartbeats 4000000 in
set_option maxRecDepth 100000 in
theorem concat_calls (a : Option Addr) (len cap : Nat) (ss : List Tb) (w : World) (hR : Txs w a len cap ss) (N : Nat) (X : List (BitVec 8)) (hX : (txs ss).flatten = X) (hN : X.length = N) (hmax : N ≤ 1000000) :
    Calls Tryd.prog 19 #[.slice a len cap] w fun e w' => ∃ a' c', e = .returned (.slice a' N c') ∧ Below w.heap.size w w' ∧ w'.ownsRow w.heap.size 5 1 (.slice a' N c') N (u8s X) := by
  have hO := Own.start w
  have hsl := hR.len
  have hle : ∀ k, (upTo ss k).length ≤ N := fun k => by rw [← hN, ← hX]; exact upTo_le ss k
  have hall : upTo ss len = X := by rw [← hsl, upTo_all, hX]
  have hlmax := Nat.le_trans hR.1.le hR.1.max
  unfold maxLen at hlmax
  have HR := Lib.hid hR
  have HSL := Lib.hid hsl
  have HLE := Lib.hid hle
  have HALL := Lib.hid hall
  have HNN := Lib.hid hN
  clear hR hsl hle hall hX hN
  generalize hW : w = wn at hO HR ⊢
  clear hW w
  go_enter Tryd.func19, Tryd.ntmps19
  go_wp2
  go_loopg [3, 11] len (fun m s3 c wr => ∃ k K : Nat, m = len - k ∧ k ≤ len ∧ c = .int .i64 k ∧ s3 = .int .i64 (K : Int) ∧ Hid ((upTo ss k).length = K) ∧ Own wn wr [])
  case atStart => exact ⟨0, 0, rfl, by omega, rfl, rfl, by show _ = _; rw [upTo_zero]; rfl, hO⟩
  case round =>
    obtain ⟨k, K, rfl, hk, rfl, rfl, HK, hO1⟩ := hrel
    clear hO
    have hO := hO1
    clear hO1
    by_cases hlt : k < len
    · have d0 : decide ((k : Int) < (len : Int)) = true := decide_eq_true (by omega)
      have hkl : k < ss.length := by rw [HSL.out]; exact hlt
      obtain ⟨q1, q2, q3⟩ := HR.out.at hkl
      have hnx := upTo_next ss k hkl
      have hle1 := HLE.out (k + 1)
      have hlk : (upTo ss (k + 1)).length = K + ss[k].n := by rw [hnx, List.length_append, HK.out, q3]
      rw [hlk] at hle1
      generalize ss[k] = t at *
      obtain ⟨ta, tn, tc, tb⟩ := t
      dsimp only at q1 q2 q3 hlk hle1
      obtain ⟨ba, off, rfl⟩ := HR.out.1.place (by omega)
      have HX := Lib.hid q1
      have HLK := Lib.hid hlk
      have dz : decide ((K : Int) + (tn : Int) < 0) = false := decide_eq_false (by omega)
      have ez : wrap64 ((K : Int) + (tn : Int)) = (K : Int) + (tn : Int) := by unfold wrap64; omega
      clear q1 q2 q3 hnx hlk hkl
      go_wp2_with ((with_reducible refine gLoad ?_); refine ld_rd (hO.rd HR.out.1) rfl HX.out (tA rfl) ?_)
      go_roundg (len - (k + 1))
      case measure => omega
      case rel => exact ⟨k + 1, K + tn, rfl, by omega, by go_num, by go_num, HLK.out, hO⟩
    · obtain rfl : k = len := by omega
      have d0 : decide ((k : Int) < (k : Int)) = false := decide_eq_false (by omega)
      have hKN : K = N := by have := HK.out; rw [HALL.out, HNN.out] at this; exact this.symm
      subst hKN
      have HG := Lib.hid (grow_calls K (by omega))
      clear HK
      go_wp2_with (go_at_call 31; refine (HG.out _).mono ?_; rintro e ww ⟨aG, cG, rfl, hb, hr⟩; replace hO := hO.addRow hb hr; clear hb hr)
      go_loopg [6, 27] k (fun m s6 c wr => ∃ (j J : Nat) (aK : Option Addr) (cK : Nat), m = k - j ∧ j ≤ k ∧ c = .int .i64 j ∧ s6 = .slice aK J cK ∧ Hid ((upTo ss j).length = J) ∧ Own wn wr [.sl 5 1 (.slice aK J cK) J (u8s (upTo ss j))])
      case atStart => exact ⟨0, 0, aG, cG, rfl, by omega, rfl, rfl, by show _ = _; rw [upTo_zero]; rfl, by rw [upTo_zero]; exact hO⟩
      case round =>
        obtain ⟨j, J, aK, cK, rfl, hj, rfl, rfl, HJ, hO1⟩ := hrel
        clear hO
        have hO := hO1
        clear hO1
        by_cases hlt : j < k
        · have d0 : decide ((j : Int) < (k : Int)) = true := decide_eq_true (by omega)
          have hkl : j < ss.length := by rw [HSL.out]; exact hlt
          obtain ⟨q1, q2, q3⟩ := HR.out.at hkl
          have hnx := upTo_next ss j hkl
          have hle1 := HLE.out (j + 1)
          have hlk : (upTo ss (j + 1)).length = J + ss[j].n := by rw [hnx, List.length_append, HJ.out, q3]
          rw [hlk] at hle1
          generalize ss[j] = t at *
          obtain ⟨ta, tn, tc, tb⟩ := t
          dsimp only at q1 q2 q3 hlk hle1 hnx
          obtain ⟨ba, off, rfl⟩ := HR.out.1.place (by omega)
          have HX := Lib.hid q1
          have HLK := Lib.hid hlk
          have HQ := Lib.hid q2
          have HF : Hid (u8s (upTo ss (j + 1)) = u8s (upTo ss j) ++ u8s tb) := by show _ = _; rw [hnx, u8s_append']
          clear q1 q2 q3 hnx hlk hkl
          go_wp2_with (first
            | ((with_reducible refine gLoad ?_); refine ld_rd (hO.rd HR.out.1) rfl HX.out (tA rfl) ?_)
            | ((with_reducible refine gAppend ?_); refine own_append hO 0 _ _ 28 eu8_8 rfl rfl rfl (hO.rd HQ.out) (u8s_one _) (J + tn) rfl (by simp [maxLen]; omega) (by omega) ?_; clear hO; intro a2 c2 ww hO))
          go_roundg (k - (j + 1))
          case measure => omega
          case rel => exact ⟨j + 1, J + tn, a2, c2, rfl, by omega, by go_num, rfl, HLK.out, by rw [HF.out]; exact hO⟩
        · obtain rfl : j = k := by omega
          have d0 : decide ((j : Int) < (j : Int)) = false := decide_eq_false (by omega)
          have hJ : J = K := by have := HJ.out; rw [HALL.out, HNN.out] at this; exact this.symm
          subst hJ
          go_wp2
          go_ret
          exact ⟨aK, cK, rfl, hO.below, by rw [← HALL.out]; exact hO.row 0 rfl⟩

set_option maxHeartbeats 2000000 in
set_option maxRecDepth 100000 in
theorem few_calls (a : Option Addr) (len cap : Nat) (ss : List Tb) (w : World) (hR : Txs w a len cap ss) (B : Bool) (hB : decide ((∀ x ∈ ss, x.n ≤ 60) ∧ len ≤ 8) = B) :
    Calls Tryd.prog 11 #[.slice a len cap] w fun e w' => e = .returned (.bool B) ∧ Below w.heap.size w w' := by
  have hO := Own.start w
  have hlmax := Nat.le_trans hR.1.le hR.1.max
  unfold maxLen at hlmax
  have HSL := Lib.hid hR.len
  have HR := Lib.hid hR
  have HB := Lib.hid hB
  clear hR hB
  generalize hW : w = wn at hO HR ⊢
  clear hW w
  go_enter Tryd.func11, Tryd.ntmps11
  go_wp2
  go_loopg [7] len (fun m c wr => ∃ k : Nat, m = len - k ∧ k ≤ len ∧ c = .int .i64 k ∧ Hid (∀ x ∈ ss.take k, x.n ≤ 60) ∧ Own wn wr [])
  case atStart => exact ⟨0, rfl, by omega, rfl, (fun x hx => by simp at hx), hO⟩
  case round =>
    obtain ⟨k, rfl, hk, rfl, HK, hO1⟩ := hrel
    clear hO
    have hO := hO1
    clear hO1
    by_cases hlt : k < len
    · have d0 : decide ((k : Int) < (len : Int)) = true := decide_eq_true (by omega)
      have hkl : k < ss.length := by rw [HSL.out]; exact hlt
      obtain ⟨q1, q2, q3⟩ := HR.out.at hkl
      have hmem := List.getElem_mem hkl
      have hnx : ss.take (k + 1) = ss.take k ++ [ss[k]] := List.take_succ_eq_append_getElem hkl
      generalize ss[k] = t at *
      obtain ⟨ta, tn, tc, tb⟩ := t
      dsimp only at q1 q2 q3
      obtain ⟨ba, off, rfl⟩ := HR.out.1.place (by omega)
      have HX := Lib.hid q1
      by_cases h60 : 60 < tn
      · have d1 : decide ((60 : Int) < (tn : Int)) = true := decide_eq_true (by omega)
        have hb : B = false := by
          rw [← HB.out]
          exact decide_eq_false fun h => by have := h.1 _ hmem; dsimp only at this; omega
        subst hb
        clear q1 q2 q3 hnx hkl hmem HB HK
        go_wp2_with ((with_reducible refine gLoad ?_); refine ld_rd (hO.rd HR.out.1) rfl HX.out (tA rfl) ?_)
        go_ret
        exact ⟨rfl, hO.below⟩
      · have d1 : decide ((60 : Int) < (tn : Int)) = false := decide_eq_false (by omega)
        have HK2 : Hid (∀ x ∈ ss.take (k + 1), x.n ≤ 60) := by
          intro x hx
          rw [hnx, List.mem_append, List.mem_singleton] at hx
          rcases hx with hx | rfl
          · exact HK.out x hx
          · dsimp only; omega
        clear q1 q2 q3 hnx hkl hmem HB HK
        go_wp2_with ((with_reducible refine gLoad ?_); refine ld_rd (hO.rd HR.out.1) rfl HX.out (tA rfl) ?_)
        go_roundg (len - (k + 1))
        case measure => omega
        case rel => exact ⟨k + 1, rfl, by omega, by go_num, HK2.out, hO⟩
    · obtain rfl : k = len := by omega
      have d0 : decide ((k : Int) < (k : Int)) = false := decide_eq_false (by omega)
      have hb : B = decide (k ≤ 8) := by
        rw [← HB.out]
        have h := HK.out
        rw [List.take_of_length_le (by rw [HSL.out]; omega)] at h
        rw [decide_eq_decide]
        exact ⟨fun h' => h'.2, fun h' => ⟨h, h'⟩⟩
      subst hb
      clear HB HK
      go_wp2
      go_ret
      exact ⟨by simp; omega, hO.below⟩
end Go.Proofs.YtniibdglodnhoaaDoor

/- Walk: solid's Build. -/
namespace Go.Own
open Go.RowKit
section
variable {P : Program}
/-- four results: two slots, a block, a slot -/
theorem res_ttct {fn : Func} {p u v v2 : Tmp} {ty : TypeId} (h : fn.results = #[.tmp v, .tmp v2, .cell p ty, .tmp u]) (tmps : Array Value) (w : World) (g : Nat) (t : TypeId) (cs : Array Value) (fr : Nat × Nat) (d : TypeDesc)
    (hp : tmps.getD p undef = .pointer (some ⟨g, 0, none⟩)) (hg : w.heap[g]? = some (.cells cs t fr))
    (hu : P.underlying ty = some d) (hd : (match d with | .struct _ | .array _ _ => true | _ => false) = true) (hi : (P.info? ty).map (·.size) = some cs.size) :
    (results fn tmps).run P w = .ok (.tuple #[tmps.getD v undef, tmps.getD v2 undef, .agg cs, tmps.getD u undef]) w := by
  have hp' : tmps[p]?.getD undef = .pointer (some ⟨g, 0, none⟩) := by simpa using hp
  simp [results, h, hp', asAddr, run_loadVar_row w g t ty cs fr d hg hu hd hi]
end
end Go.Own
namespace Go.Proofs.YtniibdglodnhoaaDoor
open Go.RowKit Go.Own Go.Bv Go.Ord Go.Eq Go.Opn Go.Pb Go.Sl

theorem epc : Elem Tryd.prog 33 39 (.agg (Pc.C ⟨0, 0, 0#32⟩)) 3 24 := ⟨Tryd.underlying33, by kernel_rfl, rfl, by decide⟩
theorem ipc : (Tryd.prog.info? 39).map (·.size) = some 3 := by kernel_rfl
theorem made_pcs (bs : List (List (BitVec 8))) (n : Nat) (hl : bs.length = n) (hn : n ≤ 8) : (madeCells (Value.agg (Pc.C ⟨0, 0, 0#32⟩)).cells (n * 3)).toList = pcs (mix bs 0) := by
  rw [mix_zero, hl]
  obtain rfl | rfl | rfl | rfl | rfl | rfl | rfl | rfl | rfl : n = 0 ∨ n = 1 ∨ n = 2 ∨ n = 3 ∨ n = 4 ∨ n = 5 ∨ n = 6 ∨ n = 7 ∨ n = 8 := by omega
  all_goals kernel_rfl

set_option maxHeartbeats 4000000 in
set_option maxRecDepth 100000 in
theorem build_okN (key : St) (n : BitVec 64) (a : Option Addr) (len cap : Nat) (ss : List Tb) (w : World) (hR : Txs w a len cap ss) (hlen : len ≤ 8) (hn : n ≠ 18446744073709551615#64) (hT : Turns w) (X : List (BitVec 8)) (hX : (txs ss).flatten = X) (hX6 : X.length ≤ 600) (T : List (BitVec 8)) (hTT : sealT key n X = T) (M : Nat) (hM : T.length = M) :
    Calls Tryd.prog 8 #[.agg (ringC key n), .slice a len cap] w fun e w' => ∃ a1 c1 g2, e = .returned (.tuple #[.slice a1 M c1, .slice (some ⟨g2, 0, none⟩) len len, .agg (ringC key (n + 1#64)), .int .i64 0]) ∧
      Own w w' [.sl 39 3 (.slice (some ⟨g2, 0, none⟩) len len) len (pcs (pieces (txs ss))), .sl 5 1 (.slice a1 M c1) M (u8s T)] := by
  have hO := Own.start w
  have hsl := hR.len
  have htl : (txs ss).length = len := by rw [txs_length, hsl]
  obtain ⟨N, hN⟩ : ∃ N, X.length = N := ⟨_, rfl⟩
  have hle : ∀ k, (upTo ss k).length ≤ N := fun k => by rw [← hN, ← hX]; exact upTo_le ss k
  have hN480 : N ≤ 600 := by omega
  have HMADE := Lib.hid (made_pcs (txs ss) len htl hlen)
  have HSET := Lib.hid (fun k (hk : k < len) => pcs_set (mix (txs ss) k) k (pieceAt (txs ss) k) (by rw [mix_length _ _ (by omega)]; omega))
  have HMIX := Lib.hid (fun k (hk : k < len) => mix_set (txs ss) k (by omega))
  have HALL : Hid (mix (txs ss) len = pieces (txs ss)) := by show _ = _; rw [← htl, mix_all]
  have HPC : Hid (∀ k (hk : k < ss.length), pieceAt (txs ss) k = ⟨((upTo ss k).length : Int), (ss[k].b.length : Int), Crc.sum ss[k].b⟩) := by
    intro k hk
    have e : (txs ss).getD k [] = ss[k].b := by
      rw [List.getD_eq_getElem?_getD, List.getElem?_eq_getElem (by rw [txs_length]; exact hk), txs_get ss k hk]; rfl
    unfold pieceAt upTo
    rw [e]
  have G1 := Lib.hid (fun w h => concat_calls a len cap ss w h N X hX hN (by omega))
  have G2 := Lib.hid (fun w a c h hT => sseal_ok key n a N c X w h (by omega) hn hT T hTT M hM)
  have HR := Lib.hid hR
  have HT := Lib.hid hT
  have HSL := Lib.hid hsl
  have HLE := Lib.hid hle
  have d0 : decide ((65536 : Int) < (N : Int)) = false := decide_eq_false (by omega)
  obtain ⟨n1, hn1⟩ : ∃ n1, n + 1#64 = n1 := ⟨_, rfl⟩
  rw [hn1] at G2 ⊢
  clear hR hT hsl htl hN hle hX hTT hM hn hn1 hX6
  generalize hW : w = wn at hO HT HR ⊢
  clear hW w
  go_enter Tryd.func8, Tryd.ntmps8
  go_wp2_with (first
    | ((with_reducible refine gBox ?_); first | (refine bxA hO rfl ?_; clear hO; intro br ww hO) | (refine bx1 hO rfl rfl ?_; clear hO; intro br ww hO))
    | ((with_reducible refine gG ?_); refine wpList_want rfl ?_)
    | ((with_reducible refine gAlloc (d := some 6) (T := 27) ?_); refine own_alloc hO _ _ irz ?_; clear hO; intro zb ww hO)
    | ((with_reducible refine gAlloc (d := some 10) (T := 27) ?_); refine own_alloc hO _ _ irz ?_; clear hO; intro bn ww hO)
    | (go_at_call 19; refine (G1.out _ (HR.out.own hO)).mono ?_; rintro e ww ⟨a2, c2, rfl, hb, hr⟩; replace hO := hO.addRow hb hr; clear hb hr)
    | (go_at_call 7; refine (G2.out _ _ _ (hO.rdAt 0 rfl) (HT.out.own hO)).mono ?_; rintro e ww ⟨a3, c3, rfl, hb, hr⟩; replace hO := hO.addRow hb hr; clear hb hr)
    | ((with_reducible refine gMake ?_); refine own_make hO _ _ 33 epc len rfl rfl (by omega) (by omega) (by omega) (by simp [maxLen]; omega) ?_; clear hO; intro gp ww hO)
    | ((with_reducible refine gLoad ?_); first | refine ldX hO 0 rfl rfl (tA rfl) (tS rfl) ?_ | refine ldC hO 0 rfl rfl (tA rfl) rfl ?_ | refine ldX hO 1 rfl rfl (tA rfl) (tS rfl) ?_ | refine ldC hO 1 rfl rfl (tA rfl) rfl ?_ | refine ldX hO 2 rfl rfl (tA rfl) (tS rfl) ?_ | refine ldC hO 2 rfl rfl (tA rfl) rfl ?_ | refine ldX hO 3 rfl rfl (tA rfl) (tS rfl) ?_ | refine ldC hO 3 rfl rfl (tA rfl) rfl ?_ | refine ldX hO 4 rfl rfl (tA rfl) (tS rfl) ?_ | refine ldC hO 4 rfl rfl (tA rfl) rfl ?_ | refine ldX hO 5 rfl rfl (tA rfl) (tS rfl) ?_ | refine ldC hO 5 rfl rfl (tA rfl) rfl ?_)
    | ((with_reducible refine gStore ?_); first | (refine stX hO 0 rfl rfl rfl rfl rfl (tS rfl) ?_; clear hO; intro ww hO) | (refine stC hO 0 rfl rfl rfl (ltb rfl) rfl (tS rfl) ?_; clear hO; intro ww hO) | (refine stX hO 1 rfl rfl rfl rfl rfl (tS rfl) ?_; clear hO; intro ww hO) | (refine stC hO 1 rfl rfl rfl (ltb rfl) rfl (tS rfl) ?_; clear hO; intro ww hO) | (refine stX hO 2 rfl rfl rfl rfl rfl (tS rfl) ?_; clear hO; intro ww hO) | (refine stC hO 2 rfl rfl rfl (ltb rfl) rfl (tS rfl) ?_; clear hO; intro ww hO) | (refine stX hO 3 rfl rfl rfl rfl rfl (tS rfl) ?_; clear hO; intro ww hO) | (refine stC hO 3 rfl rfl rfl (ltb rfl) rfl (tS rfl) ?_; clear hO; intro ww hO) | (refine stX hO 4 rfl rfl rfl rfl rfl (tS rfl) ?_; clear hO; intro ww hO) | (refine stC hO 4 rfl rfl rfl (ltb rfl) rfl (tS rfl) ?_; clear hO; intro ww hO) | (refine stX hO 5 rfl rfl rfl rfl rfl (tS rfl) ?_; clear hO; intro ww hO) | (refine stC hO 5 rfl rfl rfl (ltb rfl) rfl (tS rfl) ?_; clear hO; intro ww hO)))
  replace hO : Own wn ww [.sl 39 3 (.slice (some ⟨gp, 0, none⟩) len len) len (pcs (mix (txs ss) 0)), .blk bn (.cells (ringC key n1) 27 (0,0)), .sl 5 1 (.slice a3 M c3) M (u8s T), .sl 5 1 (.slice a2 N c2) N (u8s X), .blk zb (.cells (ringC St.zero 0#64) 27 (0,0)), .blk br (.cells (ringC key n) 27 (0,0))] := by rw [← HMADE.out]; exact hO
  go_loopg [13, 38] len (fun m s13 c wr => ∃ k K : Nat, m = len - k ∧ k ≤ len ∧ c = .int .i64 k ∧ s13 = .int .i64 (K : Int) ∧ Hid ((upTo ss k).length = K) ∧ Own wn wr [.sl 39 3 (.slice (some ⟨gp, 0, none⟩) len len) len (pcs (mix (txs ss) k)), .blk bn (.cells (ringC key n1) 27 (0,0)), .sl 5 1 (.slice a3 M c3) M (u8s T), .sl 5 1 (.slice a2 N c2) N (u8s X), .blk zb (.cells (ringC St.zero 0#64) 27 (0,0)), .blk br (.cells (ringC key n) 27 (0,0))])
  case atStart => exact ⟨0, 0, rfl, by omega, rfl, rfl, by show _ = _; rw [upTo_zero]; rfl, hO⟩
  case round =>
    obtain ⟨k, K, rfl, hk, rfl, rfl, HK, hO1⟩ := hrel
    clear hO
    have hO := hO1
    clear hO1
    by_cases hlt : k < len
    · have d1 : decide ((k : Int) < (len : Int)) = true := decide_eq_true (by omega)
      have hkl : k < ss.length := by rw [HSL.out]; exact hlt
      obtain ⟨q1, q2, q3⟩ := HR.out.at hkl
      have hnx := upTo_next ss k hkl
      have hle1 := HLE.out (k + 1)
      have hlk : (upTo ss (k + 1)).length = K + ss[k].n := by rw [hnx, List.length_append, HK.out, q3]
      rw [hlk] at hle1
      have hpc := HPC.out k hkl
      have hset := HSET.out k hlt
      rw [HMIX.out k hlt, hpc] at hset
      dsimp only at hset
      rw [HK.out, q3] at hset
      generalize ss[k] = t at *
      obtain ⟨ta, tn, tc, tb⟩ := t
      dsimp only at q1 q2 q3 hlk hle1 hset
      obtain ⟨ba, off, rfl⟩ := HR.out.1.place (by omega)
      obtain ⟨su, hsu⟩ : ∃ su, Crc.sum tb = su := ⟨_, rfl⟩
      rw [hsu] at hset
      have HQ := Lib.hid q2
      have G3 := Lib.hid (fun w h => sum_calls ta tn tc tb w h)
      rw [hsu] at G3
      have HX := Lib.hid q1
      have HLK := Lib.hid hlk
      have HST := Lib.hid hset
      have ez : wrap64 ((K : Int) + (tn : Int)) = (K : Int) + (tn : Int) := by unfold wrap64; omega
      clear q1 q2 q3 hnx hlk hkl hpc hset hsu
      generalize pcs (mix (txs ss) k) = cur at *
      go_wp2_with (first
        | ((with_reducible refine gLoad (T := 28) ?_); refine ld_rd (hO.rd HR.out.1) rfl HX.out (tA rfl) ?_)
        | (go_at_call 20; refine (G3.out _ (hO.rd HQ.out)).mono ?_; rintro e ww ⟨rfl, hb⟩; replace hO := hO.call hb; clear hb)
        | ((with_reducible refine gBld (T := 39) ?_); refine own_bld #[.int .i64 (K : Int), .int .i64 (tn : Int), .int .u32 (su.toNat : Int)] (by kernel_rfl) ?_)
        | ((with_reducible refine gStore (T := 39) ?_); refine own_set3 hO 0 _ _ _ (j := k * 3) (.int .i64 (K : Int)) (.int .i64 (tn : Int)) (.int .u32 (su.toNat : Int)) rfl rfl rfl (by omega) ipc rfl rfl rfl ?_; clear hO; intro ww hO))
      go_roundg (len - (k + 1))
      case measure => omega
      case rel => exact ⟨k + 1, K + tn, rfl, by omega, by go_num, by go_num, HLK.out, by rw [← HST.out]; exact hO⟩
    · obtain rfl : k = len := by omega
      have d1 : decide ((k : Int) < (k : Int)) = false := decide_eq_false (by omega)
      rw [HALL.out] at hO
      clear HK HSET HMIX HPC HMADE
      go_wp2
      refine wp_region_text (by kernel_rfl) (by kernel_rfl) ?_
      replace hO := hO.drew
      generalize World.drew _ = wd at hO ⊢
      go_wp2_with (first
        | ((with_reducible refine gLoad ?_); first | refine ldX hO 0 rfl rfl (tA rfl) (tS rfl) ?_ | refine ldC hO 0 rfl rfl (tA rfl) rfl ?_ | refine ldX hO 1 rfl rfl (tA rfl) (tS rfl) ?_ | refine ldC hO 1 rfl rfl (tA rfl) rfl ?_ | refine ldX hO 2 rfl rfl (tA rfl) (tS rfl) ?_ | refine ldC hO 2 rfl rfl (tA rfl) rfl ?_ | refine ldX hO 3 rfl rfl (tA rfl) (tS rfl) ?_ | refine ldC hO 3 rfl rfl (tA rfl) rfl ?_ | refine ldX hO 4 rfl rfl (tA rfl) (tS rfl) ?_ | refine ldC hO 4 rfl rfl (tA rfl) rfl ?_ | refine ldX hO 5 rfl rfl (tA rfl) (tS rfl) ?_ | refine ldC hO 5 rfl rfl (tA rfl) rfl ?_)
        | ((with_reducible refine gStore ?_); first | (refine stX hO 0 rfl rfl rfl rfl rfl (tS rfl) ?_; clear hO; intro ww hO) | (refine stC hO 0 rfl rfl rfl (ltb rfl) rfl (tS rfl) ?_; clear hO; intro ww hO) | (refine stX hO 1 rfl rfl rfl rfl rfl (tS rfl) ?_; clear hO; intro ww hO) | (refine stC hO 1 rfl rfl rfl (ltb rfl) rfl (tS rfl) ?_; clear hO; intro ww hO) | (refine stX hO 2 rfl rfl rfl rfl rfl (tS rfl) ?_; clear hO; intro ww hO) | (refine stC hO 2 rfl rfl rfl (ltb rfl) rfl (tS rfl) ?_; clear hO; intro ww hO) | (refine stX hO 3 rfl rfl rfl rfl rfl (tS rfl) ?_; clear hO; intro ww hO) | (refine stC hO 3 rfl rfl rfl (ltb rfl) rfl (tS rfl) ?_; clear hO; intro ww hO) | (refine stX hO 4 rfl rfl rfl rfl rfl (tS rfl) ?_; clear hO; intro ww hO) | (refine stC hO 4 rfl rfl rfl (ltb rfl) rfl (tS rfl) ?_; clear hO; intro ww hO) | (refine stX hO 5 rfl rfl rfl rfl rfl (tS rfl) ?_; clear hO; intro ww hO) | (refine stC hO 5 rfl rfl rfl (ltb rfl) rfl (tS rfl) ?_; clear hO; intro ww hO))
        | ((with_reducible refine gI ?_); refine wpI_step rfl rfl (by kernel_rfl) ?_; intro K hK; have HK := Lib.hid hK; clear hK) | ((with_reducible refine gI ?_); first | refine wpI_skip rfl ?_ | refine wpI_want rfl ?_) | ((with_reducible refine gOnlyK0 HK.out ?_); clear HK K; first | (refine wpI_act (by simp only [Act.put, List.setIfInBounds_toArray, List.set_cons_succ, List.set_cons_zero]; rfl) ?_) | skip) | (with_reducible refine wpI_nil ?_))
      refine bodyPost_ret (res_ttct rfl _ _ _ 27 (ringC key n1) (0,0) _ rfl (hO.blk 4 rfl) Tryd.underlying27 rfl (irs _ _)) rfl ⟨a3, c3, gp, rfl, hO.sub (List.Sublist.cons_cons _ (List.Sublist.cons _ (List.Sublist.cons_cons _ (List.nil_sublist _))))⟩

/-- texts that are few and short -/
theorem few_length {w : World} {a : Option Addr} {len cap : Nat} {ss : List Tb} (hR : Txs w a len cap ss) (hlen : len ≤ 8) (h60 : ∀ x ∈ ss, x.n ≤ 60) : (txs ss).flatten.length ≤ 480 := by
  have htl : (txs ss).length = len := by rw [txs_length, hR.len]
  have hb : ∀ b ∈ txs ss, b.length ≤ 60 := fun b hbm => by
    unfold txs at hbm
    obtain ⟨x, hx, rfl⟩ := List.mem_map.1 hbm
    have h1 := (hR.2 x hx).len
    rw [u8s_length] at h1
    have := h60 x hx
    omega
  have h := flat_bound 60 (txs ss) hb
  rw [htl] at h
  have : 60 * len ≤ 480 := by omega
  omega
theorem build_ok (key : St) (n : BitVec 64) (a : Option Addr) (len cap : Nat) (ss : List Tb) (w : World) (hR : Txs w a len cap ss) (hlen : len ≤ 8) (h60 : ∀ x ∈ ss, x.n ≤ 60) (hn : n ≠ 18446744073709551615#64) (hT : Turns w) (X : List (BitVec 8)) (hX : (txs ss).flatten = X) (T : List (BitVec 8)) (hTT : sealT key n X = T) (M : Nat) (hM : T.length = M) :
    Calls Tryd.prog 8 #[.agg (ringC key n), .slice a len cap] w fun e w' => ∃ a1 c1 g2, e = .returned (.tuple #[.slice a1 M c1, .slice (some ⟨g2, 0, none⟩) len len, .agg (ringC key (n + 1#64)), .int .i64 0]) ∧
      Own w w' [.sl 39 3 (.slice (some ⟨g2, 0, none⟩) len len) len (pcs (pieces (txs ss))), .sl 5 1 (.slice a1 M c1) M (u8s T)] := by
  have h := few_length hR hlen h60
  rw [hX] at h
  exact build_okN key n a len cap ss w hR hlen hn hT X hX (by omega) T hTT M hM
end Go.Proofs.YtniibdglodnhoaaDoor

/- Walks: solid's Cut, Test. -/
namespace Go.Proofs.YtniibdglodnhoaaDoor
open Go.RowKit Go.Own Go.Bv Go.Ord Go.Eq Go.Opn Go.Pb Go.Sl

theorem rd_cutAny {w : World} {a : Option Addr} {n cap : Nat} {b : List (BitVec 8)} (h : Rd w 1 a n cap (u8s b)) (F K : Nat) (hFK : F + K ≤ n) :
    ∃ aX, (if cap = F then a else a.map fun x => x.add (F * 1)) = aX ∧ Rd w 1 aX K (cap - F) (u8s ((b.drop F).take K)) := by
  have hln : b.length = n := by have := h.len; rw [u8s_length] at this; omega
  have hle := h.le
  have hm := h.max
  have hXl : ((b.drop F).take K).length = K := by rw [List.length_take, List.length_drop, hln]; omega
  refine ⟨_, rfl, ?_⟩
  cases a with
  | none =>
    obtain ⟨rfl, rfl⟩ := h.nil rfl
    obtain rfl : F = 0 := by omega
    obtain rfl : K = 0 := by omega
    rw [if_pos rfl, List.take_zero]
    exact rd_nil w
  | some x =>
    by_cases hK : K = 0
    · subst hK
      refine ⟨by rw [u8s_length, hXl, Nat.zero_mul], by omega, by omega, fun h0 => ?_, fun h0 => absurd (Nat.zero_mul 1) h0⟩
      split at h0 <;> cases h0
    · obtain ⟨bb, off, he, _, _⟩ := h.at' (by omega)
      cases he
      rw [if_neg (by omega), Nat.mul_one, Option.map_some, Addr.add_lit]
      have h2 := h.cut F K hFK
      have e : ((u8s b).drop F).take K = u8s ((b.drop F).take K) := by unfold u8s; rw [List.map_take, List.map_drop]
      rw [e] at h2
      exact h2
theorem elem8 : Tryd.prog.elem 28 = 5 := by kernel_rfl
theorem hu8 : Tryd.prog.underlying 28 = some (.slice (Tryd.prog.elem 28)) := by rw [elem8]; exact Tryd.underlying28
theorem size8 (w : World) : (sizeOf (Tryd.prog.elem 28)).run Tryd.prog w = .ok 1 w := by
  rw [elem8]
  obtain ⟨inf, hinf, hs⟩ := Option.map_eq_some_iff.1 iu8z
  simp [sizeOf, typeInfo, hinf, hs]
theorem slc_from (a : Option Addr) (n cap F : Nat) (hF : F ≤ n) (aX : Option Addr) (hX : (if cap = F then a else a.map fun x => x.add (F * 1)) = aX) (w : World) :
    (Instr.slice 28 (.slice a n cap) (some (.int .i64 (F : Int))) none none).run Tryd.prog w = .ok (.slice aX (n - F) (cap - F)) w := by
  rw [run_slice_l w 28 a n cap hu8 .i64 F (by omega) (by omega), size8]
  simp only [Result.andThen_ok, sliced, Int.toNat_natCast]
  rw [hX]
theorem slc_to (a : Option Addr) (n cap K : Nat) (hK : K ≤ cap) (w : World) :
    (Instr.slice 28 (.slice a n cap) none (some (.int .i64 (K : Int))) none).run Tryd.prog w = .ok (.slice a K cap) w := by
  rw [run_slice_h w 28 a n cap hu8 .i64 K (by omega) (by omega), size8]
  simp only [Result.andThen_ok, sliced, Int.toNat_natCast, Nat.sub_zero, Nat.zero_mul]
  by_cases h : cap = 0
  · rw [if_pos h]
  · rw [if_neg h]
    cases a <;> simp [Addr.add_zero']
theorem ipcz : (Tryd.prog.info? 39).bind (·.zero) = some (.agg (Pc.C ⟨0, 0, 0#32⟩)) := by kernel_rfl
set_option maxHeartbeats 4000000 in
set_option maxRecDepth 100000 in
theorem cut_calls (a : Option Addr) (n cap : Nat) (b : List (BitVec 8)) (p : Pc) (w : World) (hR : Rd w 1 a n cap (u8s b)) (hn : n ≤ 1000000) (E : Int) (T : List (BitVec 8)) (M : Nat) (hE : cutE b p = E) (hT : cutT b p = T) (hM : T.length = M) :
    Calls Tryd.prog 13 #[.slice a n cap, .agg p.C] w fun e w' => ∃ a' c', e = .returned (.tuple #[.slice a' M c', .int .i64 E]) ∧ Below w.heap.size w w' ∧ w'.ownsRow w.heap.size 5 1 (.slice a' M c') M (u8s T) := by
  have hO := Own.start w
  have hln : b.length = n := by have := hR.len; rw [u8s_length] at this; omega
  have nilT : E ≠ 0 → T = [] ∧ M = 0 := fun h => by
    have h1 : T = [] := by rw [← hT]; unfold cutT; rw [hE, if_neg h]
    exact ⟨h1, by rw [← hM, h1]; rfl⟩
  have hE0 := hE
  unfold cutE at hE
  rw [hln] at hE
  obtain ⟨f, l, s⟩ := p
  dsimp only at hE
  by_cases h1 : f < 0 ∨ f > (n : Int) ∨ l < 0 ∨ l > (n : Int) - f
  · rw [if_pos h1] at hE
    subst hE
    obtain ⟨rfl, rfl⟩ := nilT (by decide)
    clear hT hM nilT hE0 hR hln
    generalize hW : w = wn at hO ⊢
    clear hW w
    by_cases c1 : f < 0
    · have d1 : decide (f < 0) = true := decide_eq_true c1
      clear h1 c1
      go_enter Tryd.func13, Tryd.ntmps13
      go_wp2_with (first
        | (exact False.elim ‹False›)
        | ((with_reducible refine gBox ?_); first | (refine bxA hO rfl ?_; clear hO; intro pb ww hO) | (refine bx1 hO rfl rfl ?_; clear hO; intro pb ww hO))
        | ((with_reducible refine gLoad ?_); first | refine ldX hO 0 rfl rfl (tA rfl) (tS rfl) ?_ | refine ldC hO 0 rfl rfl (tA rfl) rfl ?_))
      go_ret2
      exact ⟨none, 0, rfl, hO.below, World.ownsRow_nil _ _ _ _⟩
    have d1 : decide (f < 0) = false := decide_eq_false c1
    by_cases c2 : (n : Int) < f
    · have d2 : decide ((n : Int) < f) = true := decide_eq_true c2
      clear h1 c1 c2
      go_enter Tryd.func13, Tryd.ntmps13
      go_wp2_with (first
        | ((with_reducible refine gG (d := some 12) ?_); refine wpList_want rfl ?_)
        | ((with_reducible refine gBox ?_); first | (refine bxA hO rfl ?_; clear hO; intro pb ww hO) | (refine bx1 hO rfl rfl ?_; clear hO; intro pb ww hO))
        | ((with_reducible refine gLoad ?_); first | refine ldX hO 0 rfl rfl (tA rfl) (tS rfl) ?_ | refine ldC hO 0 rfl rfl (tA rfl) rfl ?_))
      go_ret2
      exact ⟨none, 0, rfl, hO.below, World.ownsRow_nil _ _ _ _⟩
    have d2 : decide ((n : Int) < f) = false := decide_eq_false c2
    by_cases c3 : l < 0
    · have d3 : decide (l < 0) = true := decide_eq_true c3
      clear h1 c1 c2 c3
      go_enter Tryd.func13, Tryd.ntmps13
      go_wp2_with (first
        | ((with_reducible refine gG (d := some 12) ?_); refine wpList_want rfl ?_) | ((with_reducible refine gG (d := some 19) ?_); refine wpList_want rfl ?_)
        | ((with_reducible refine gBox ?_); first | (refine bxA hO rfl ?_; clear hO; intro pb ww hO) | (refine bx1 hO rfl rfl ?_; clear hO; intro pb ww hO))
        | ((with_reducible refine gLoad ?_); first | refine ldX hO 0 rfl rfl (tA rfl) (tS rfl) ?_ | refine ldC hO 0 rfl rfl (tA rfl) rfl ?_))
      go_ret2
      exact ⟨none, 0, rfl, hO.below, World.ownsRow_nil _ _ _ _⟩
    have d3 : decide (l < 0) = false := decide_eq_false c3
    have d4 : decide ((n : Int) - f < l) = true := decide_eq_true (by omega)
    have e4 : wrap64 ((n : Int) - f) = (n : Int) - f := by unfold wrap64; omega
    clear h1
    go_enter Tryd.func13, Tryd.ntmps13
    go_wp2_with (first
      | ((with_reducible refine gG (d := some 12) ?_); refine wpList_want rfl ?_) | ((with_reducible refine gG (d := some 19) ?_); refine wpList_want rfl ?_) | ((with_reducible refine gG (d := some 24) ?_); refine wpList_want rfl ?_) | ((with_reducible refine gG (d := some 28) ?_); refine wpList_want rfl ?_)
      | ((with_reducible refine gBox ?_); first | (refine bxA hO rfl ?_; clear hO; intro pb ww hO) | (refine bx1 hO rfl rfl ?_; clear hO; intro pb ww hO))
      | ((with_reducible refine gLoad ?_); first | refine ldX hO 0 rfl rfl (tA rfl) (tS rfl) ?_ | refine ldC hO 0 rfl rfl (tA rfl) rfl ?_))
    go_ret2
    exact ⟨none, 0, rfl, hO.below, World.ownsRow_nil _ _ _ _⟩
  rw [if_neg h1] at hE
  obtain ⟨F, rfl⟩ : ∃ F : Nat, f = (F : Int) := ⟨f.toNat, by omega⟩
  obtain ⟨K, rfl⟩ : ∃ K : Nat, l = (K : Int) := ⟨l.toNat, by omega⟩
  rw [Int.toNat_natCast, Int.toNat_natCast] at hE
  have hFK : F + K ≤ n := by omega
  obtain ⟨X, hX⟩ : ∃ X, (b.drop F).take K = X := ⟨_, rfl⟩
  have hXl : X.length = K := by rw [← hX, List.length_take, List.length_drop, hln]; omega
  rw [hX] at hE
  have hT2 : T = if E = 0 then X else [] := by
    rw [← hT]; unfold cutT; rw [hE0]
    dsimp only
    rw [Int.toNat_natCast, Int.toNat_natCast, hX]
  obtain ⟨u, hu⟩ : ∃ u, Crc.sum X = u := ⟨_, rfl⟩
  rw [hu] at hE
  have d1 : decide ((F : Int) < 0) = false := decide_eq_false (by omega)
  have d2 : decide ((n : Int) < (F : Int)) = false := decide_eq_false (by omega)
  have d2' : decide (n < F) = false := decide_eq_false (by omega)
  have d2'' : decide (F ≤ n) = true := decide_eq_true (by omega)
  have d3 : decide ((K : Int) < 0) = false := decide_eq_false (by omega)
  have d4 : decide ((n : Int) - (F : Int) < (K : Int)) = false := decide_eq_false (by omega)
  have e4 : wrap64 ((n : Int) - (F : Int)) = (n : Int) - (F : Int) := by unfold wrap64; omega
  have hle := hR.le
  have hmx := hR.max
  unfold maxLen at hmx
  obtain ⟨aX, hv, hRX⟩ := rd_cutAny hR F K hFK
  rw [hX] at hRX
  have hs1 := slc_from a n cap F (by omega) aX hv
  have hs2 := slc_to aX (n - F) (cap - F) K (by omega)
  obtain ⟨cX, hcX⟩ : ∃ c, cap - F = c := ⟨_, rfl⟩
  obtain ⟨nX, hnX⟩ : ∃ c, n - F = c := ⟨_, rfl⟩
  rw [hcX] at hs1 hs2 hRX
  rw [hnX] at hs1 hs2
  have G1 := Lib.hid (fun w h => clone_calls aX K cX X w h (by omega))
  have G2 := Lib.hid (fun a c w h => sum_calls a K c X w h)
  rw [hu] at G2
  have HRX := Lib.hid hRX
  have HE := Lib.hid hE
  have HT2 := Lib.hid hT2
  have HM := Lib.hid hM
  have HXL := Lib.hid hXl
  clear hR hE hT hM nilT hE0 hln h1 hX hXl hT2 hu hv hRX hle hmx hcX hnX hFK
  generalize hW : w = wn at hO HRX ⊢
  clear hW w
  go_enter Tryd.func13, Tryd.ntmps13
  go_wp2_with (first
    | ((with_reducible refine gG (d := some 12) ?_); refine wpList_want rfl ?_) | ((with_reducible refine gG (d := some 19) ?_); refine wpList_want rfl ?_) | ((with_reducible refine gG (d := some 24) ?_); refine wpList_want rfl ?_) | ((with_reducible refine gG (d := some 28) ?_); refine wpList_want rfl ?_)
    | ((with_reducible refine gBox ?_); first | (refine bxA hO rfl ?_; clear hO; intro pb ww hO) | (refine bx1 hO rfl rfl ?_; clear hO; intro pb ww hO))
    | ((with_reducible refine gLoad ?_); first | refine ldX hO 0 rfl rfl (tA rfl) (tS rfl) ?_ | refine ldC hO 0 rfl rfl (tA rfl) rfl ?_))
  refine wp_region_textS (fun w' => Own wn w' [.blk pb (.cells (Pc.C ⟨(F : Int), (K : Int), s⟩) 39 (0,0))]) (fun op => match op with | .load _ _ => true | _ => false) (by kernel_rfl) (by kernel_rfl) (hO.drew.only (by simp)) ?_
  replace hO := hO.drew
  generalize World.drew _ = wd at hO ⊢
  go_wp2_with (first
    | (((with_reducible refine gIL ?_); first | refine wpI_ldcS (fun w' hS => hS.blk 0 rfl) rfl rfl (tA rfl) rfl ?_); first | (refine wpI_act (by simp only [Act.put, List.setIfInBounds_toArray, List.set_cons_succ, List.set_cons_zero]; rfl) ?_) | skip)
    | (go_at_call 22; refine (G1.out _ (hO.rd HRX.out)).mono ?_; rintro e ww ⟨a2, c2, rfl, hb, hr⟩; replace hO := hO.addRow hb hr; clear hb hr)
    | ((with_reducible refine gI ?_); refine wpI_step rfl rfl (by kernel_rfl) ?_; intro K hK; have HK := Lib.hid hK; clear hK) | ((with_reducible refine gI ?_); first | refine wpI_skip rfl ?_ | refine wpI_want rfl ?_) | ((with_reducible refine gOnlyK HK.out ?_ ?_); exact hO.only (by simp); clear HK K; first | (refine wpI_act (by simp only [Act.put, List.setIfInBounds_toArray, List.set_cons_succ, List.set_cons_zero]; rfl) ?_) | skip) | (with_reducible refine wpI_nil ?_))
  by_cases hus : u = s
  · have d5 : ((u.toNat : Int) != (s.toNat : Int)) = false := by simp [hus]
    have d5' : ((u.toNat : Int) == (s.toNat : Int)) = true := by simp [hus]
    have d5'' : decide ((u.toNat : Int) = (s.toNat : Int)) = true := decide_eq_true (by rw [hus])
    have d5n : decide (u = s) = true := decide_eq_true hus
    have he := HE.out
    rw [if_neg (fun h => h hus)] at he
    have ht := HT2.out
    rw [← he, if_pos rfl] at ht
    subst ht
    subst he
    obtain rfl : M = K := by rw [← HM.out, HXL.out]
    clear HE HT2 HM HXL hus
    refine wp_region_textS (fun w' => Own wn w' [.blk pb (.cells (Pc.C ⟨(F : Int), (M : Int), s⟩) 39 (0,0))]) (fun op => match op with | .load _ _ => true | _ => false) (by kernel_rfl) (by kernel_rfl) (hO.drew.only (by simp)) ?_
    replace hO := hO.drew
    generalize World.drew _ = wd at hO ⊢
    go_wp2_with (first
      | (((with_reducible refine gIL ?_); first | refine wpI_ldcS (fun w' hS => hS.blk 0 rfl) rfl rfl (tA rfl) rfl ?_ | refine wpI_ldcS (fun w' hS => hS.blk 1 rfl) rfl rfl (tA rfl) rfl ?_); first | (refine wpI_act (by simp only [Act.put, List.setIfInBounds_toArray, List.set_cons_succ, List.set_cons_zero]; rfl) ?_) | skip)
      | (go_at_call 20; refine (G2.out _ _ _ (hO.rdAt 0 rfl)).mono ?_; rintro e ww ⟨rfl, hb⟩; replace hO := hO.call hb; clear hb)
      | ((with_reducible refine gI ?_); refine wpI_step rfl rfl (by kernel_rfl) ?_; intro K hK; have HK := Lib.hid hK; clear hK) | ((with_reducible refine gI ?_); first | refine wpI_skip rfl ?_ | refine wpI_want rfl ?_) | ((with_reducible refine gOnlyK HK.out ?_ ?_); exact hO.only (by simp); clear HK K; first | (refine wpI_act (by simp only [Act.put, List.setIfInBounds_toArray, List.set_cons_succ, List.set_cons_zero]; rfl) ?_) | skip) | (with_reducible refine wpI_nil ?_))
    go_ret2
    exact ⟨a2, c2, rfl, hO.below, hO.row 0 rfl⟩
  · have hne : ¬ (u.toNat : Int) = (s.toNat : Int) := fun h => hus (BitVec.eq_of_toNat_eq (by omega))
    have hne2 : ¬ u.toNat = s.toNat := fun h => hus (BitVec.eq_of_toNat_eq h)
    have d5 : ((u.toNat : Int) != (s.toNat : Int)) = true := by simp; omega
    have d5' : ((u.toNat : Int) == (s.toNat : Int)) = false := by simp; omega
    have d5'' : decide ((u.toNat : Int) = (s.toNat : Int)) = false := decide_eq_false hne
    have d5n : decide (u = s) = false := decide_eq_false hus
    have he := HE.out
    rw [if_pos hus] at he
    have ht := HT2.out
    rw [← he, if_neg (by decide)] at ht
    subst ht
    subst he
    obtain rfl : M = 0 := by rw [← HM.out]; rfl
    clear HE HT2 HM HXL hne hne2
    refine wp_region_textS (fun w' => Own wn w' [.blk pb (.cells (Pc.C ⟨(F : Int), (K : Int), s⟩) 39 (0,0))]) (fun op => match op with | .load _ _ => true | _ => false) (by kernel_rfl) (by kernel_rfl) (hO.drew.only (by simp)) ?_
    replace hO := hO.drew
    generalize World.drew _ = wd at hO ⊢
    go_wp2_with (first
      | (((with_reducible refine gIL ?_); first | refine wpI_ldcS (fun w' hS => hS.blk 0 rfl) rfl rfl (tA rfl) rfl ?_ | refine wpI_ldcS (fun w' hS => hS.blk 1 rfl) rfl rfl (tA rfl) rfl ?_); first | (refine wpI_act (by simp only [Act.put, List.setIfInBounds_toArray, List.set_cons_succ, List.set_cons_zero]; rfl) ?_) | skip)
      | (go_at_call 20; refine (G2.out _ _ _ (hO.rdAt 0 rfl)).mono ?_; rintro e ww ⟨rfl, hb⟩; replace hO := hO.call hb; clear hb)
      | ((with_reducible refine gI ?_); refine wpI_step rfl rfl (by kernel_rfl) ?_; intro K hK; have HK := Lib.hid hK; clear hK) | ((with_reducible refine gI ?_); first | refine wpI_skip rfl ?_ | refine wpI_want rfl ?_) | ((with_reducible refine gOnlyK HK.out ?_ ?_); exact hO.only (by simp); clear HK K; first | (refine wpI_act (by simp only [Act.put, List.setIfInBounds_toArray, List.set_cons_succ, List.set_cons_zero]; rfl) ?_) | skip) | (with_reducible refine wpI_nil ?_))
    go_ret2
    exact ⟨none, 0, rfl, hO.below, World.ownsRow_nil _ _ _ _⟩
end Go.Proofs.YtniibdglodnhoaaDoor

/- Walks: solid's Test; Build where the ring is at its end. -/
namespace Go.Sl
open Go.RowKit
theorem testE_step {b : List (BitVec 8)} {l : List Pc} {k : Nat} (h : k < l.length) : testE b (l.drop k) = if cutE b l[k] = 0 then testE b (l.drop (k + 1)) else cutE b l[k] := by
  rw [List.drop_eq_getElem_cons h]
  rfl
end Go.Sl
namespace Go.Proofs.YtniibdglodnhoaaDoor
open Go.RowKit Go.Own Go.Bv Go.Ord Go.Eq Go.Opn Go.Pb Go.Sl

theorem soT_length (key : St) (b : List (BitVec 8)) : (soT key b).length ≤ 65536 := by
  unfold soT
  split
  · rename_i h
    have hl := (Go.Pz.unT_facts (unboxT key (openT b)) 65536)
    by_cases h0 : Go.Pz.unE (unboxT key (openT b)) 65536 = 0
    · have := hl.1 h0
      omega
    · rw [(hl.2 h0).1]; simp
  · simp
section
variable {P : Program} {ops : Array Oper} {Q : Exit → Act → World → Prop} {a : Act} {w : World} {rest : List Oper}
variable {d : Option Tmp} {ty : TypeId} {pos : String} {aft : Array Edge}
theorem ld_pc {T : TypeId} {x : Operand} {b off n cap : Nat} {l : List Pc} {t : Pc} {k : Nat} (hR : Rd w 3 (some ⟨b, off, none⟩) n cap (pcs l)) (ht : l[k]? = some t) (hx : a.eval x = .pointer (some ⟨b, off + k * 3, none⟩))
    (hT : aggT P T = some true) (hs : (P.info? T).map (·.size) = some 3) (h : wpList P ops Q rest (a.put d (.agg t.C)) w) :
    wpList P ops Q ({ dst := d, op := .load T x, type := ty, pos := pos, after := aft, guard := none } :: rest) a w := by
  obtain ⟨hk, he⟩ := List.getElem?_eq_some_iff.1 ht
  exact ld_rds t.C.toList hR hx (fun i v hv => pcs_get l k hk i v (by rw [he]; exact hv)) hT hs (by show 0 < 3; omega) h
end
/-- why a block is not right -/
def teE (key : St) (b : List (BitVec 8)) (l : List Pc) : Int := if soE key b ≠ 0 then soE key b else testE (soT key b) l

set_option maxHeartbeats 4000000 in
set_option maxRecDepth 100000 in
theorem test_calls (key : St) (a : Option Addr) (n cap : Nat) (b : List (BitVec 8)) (a2 : Option Addr) (m c2 : Nat) (l : List Pc) (w : World) (hR : Rd w 1 a n cap (u8s b)) (hL : Rd w 3 a2 m c2 (pcs l)) (hT : Turns w) (E : Int) (hE : teE key b l = E) :
    Calls Tryd.prog 12 #[.agg key.C, .slice a n cap, .slice a2 m c2] w fun e w' => e = .returned (.int .i64 E) ∧ Below w.heap.size w w' := by
  have hO := Own.start w
  have hll : l.length = m := by have := hL.len; rw [pcs_length] at this; omega
  have hmx := Nat.le_trans hL.le hL.max
  unfold maxLen at hmx
  have hTl := soT_length key b
  unfold teE at hE
  obtain ⟨E1, hE1⟩ : ∃ x, soE key b = x := ⟨_, rfl⟩
  obtain ⟨T, hTT⟩ : ∃ x, soT key b = x := ⟨_, rfl⟩
  obtain ⟨M, hM⟩ : ∃ x, T.length = x := ⟨_, rfl⟩
  rw [hE1, hTT] at hE
  rw [hTT, hM] at hTl
  have G1 := Lib.hid (fun w h hT => sopen_calls key a n cap b w h hT E1 T M hE1 hTT hM)
  have HR := Lib.hid hR
  have HL := Lib.hid hL
  have HT := Lib.hid hT
  have HLL := Lib.hid hll
  have HM := Lib.hid hM
  have H0 : Hid ((E1 = 0 ∧ testE T (l.drop 0) = E) ∨ (E1 ≠ 0 ∧ E1 = E)) := by
    by_cases h : E1 = 0
    · rw [if_neg (by simpa using h)] at hE; exact .inl ⟨h, by rw [List.drop_zero]; exact hE⟩
    · rw [if_pos h] at hE; exact .inr ⟨h, hE⟩
  clear hR hL hT hll hE hE1 hTT hM
  generalize hW : w = wn at hO HR HT HL ⊢
  clear hW w
  go_enter Tryd.func12, Tryd.ntmps12
  go_wp2_with (first
    | ((with_reducible refine gBox ?_); first | (refine bxA hO rfl ?_; clear hO; intro bk ww hO) | (refine bx1 hO rfl rfl ?_; clear hO; intro bk ww hO))
    | ((with_reducible refine gLoad ?_); first | refine ldX hO 0 rfl rfl (tA rfl) (tS rfl) ?_ | refine ldC hO 0 rfl rfl (tA rfl) rfl ?_)
    | (go_at_call 10; refine (G1.out _ (hO.rd HR.out) (HT.out.own hO)).mono ?_; rintro e ww ⟨a3, c3, rfl, hb, hr⟩; replace hO := hO.addRow hb hr; clear hb hr))
  go_loopg [8, 9] (m + 1) (fun q s8 s9 wr => ∃ (k : Nat) (e : Int), q = m - k + 1 ∧ k ≤ m ∧ s9 = .int .i64 (k : Int) ∧ s8 = .int .i64 e ∧ Hid ((e = 0 ∧ testE T (l.drop k) = E) ∨ (e ≠ 0 ∧ e = E)) ∧ Own wn wr [.sl 5 1 (.slice a3 M c3) M (u8s T), .blk bk (.cells key.C 24 (0,0))])
  case atStart => exact ⟨0, E1, rfl, by omega, rfl, rfl, H0.out, hO⟩
  case round =>
    obtain ⟨k, e, rfl, hk, rfl, rfl, HK, hO1⟩ := hrel
    clear hO
    have hO := hO1
    clear hO1
    by_cases hlt : k < m
    · have d0 : decide ((k : Int) < (m : Int)) = true := decide_eq_true (by omega)
      by_cases he : e = 0
      · subst he
        have hkl : k < l.length := by rw [HLL.out]; exact hlt
        have hst : testE T (l.drop k) = E := by rcases HK.out with h | h; exact h.2; exact absurd rfl h.1
        rw [testE_step hkl] at hst
        have hx : l[k]? = some l[k] := List.getElem?_eq_getElem hkl
        generalize l[k] = t at *
        obtain ⟨ba, off, rfl⟩ := HL.out.place (by omega)
        obtain ⟨E2, hE2⟩ : ∃ x, cutE T t = x := ⟨_, rfl⟩
        rw [hE2] at hst
        have HX := Lib.hid hx
        have G2 := Lib.hid (fun w h => cut_calls a3 M c3 T t w h (by omega) E2 _ _ hE2 rfl rfl)
        have HS : Hid ((E2 = 0 ∧ testE T (l.drop (k + 1)) = E) ∨ (E2 ≠ 0 ∧ E2 = E)) := by
          by_cases h : E2 = 0
          · rw [if_pos h] at hst; exact .inl ⟨h, hst⟩
          · rw [if_neg h] at hst; exact .inr ⟨h, hst⟩
        clear hst hx hE2 hkl HK H0
        go_wp2_with (first
          | ((with_reducible refine gLoad (T := 39) ?_); refine ld_pc (hO.rd HL.out) HX.out rfl (tA rfl) ipc ?_)
          | (go_at_call 13; refine (G2.out _ (hO.rdAt 0 rfl)).mono ?_; rintro e ww ⟨a5, c5, rfl, hb, hr⟩; replace hO := hO.call hb; clear hb hr))
        go_roundg (m - (k + 1) + 1)
        case measure => omega
        case rel => exact ⟨k + 1, E2, rfl, by omega, by go_num, rfl, HS.out, hO⟩
      · have hee : e = E := by rcases HK.out with h | h; exact absurd h.1 he; exact h.2
        subst hee
        have d5 : (e == 0) = false := by simpa using he
        have d5' : decide (e = 0) = false := decide_eq_false he
        clear HK H0
        go_wp2
        go_ret
        exact ⟨rfl, hO.below⟩
    · obtain rfl : k = m := by omega
      have d0 : decide ((k : Int) < (k : Int)) = false := decide_eq_false (by omega)
      have hee : e = E := by
        rcases HK.out with h | h
        · have h2 := h.2
          rw [List.drop_of_length_le (by rw [HLL.out]; omega)] at h2
          rw [h.1, ← h2]; rfl
        · exact h.2
      subst hee
      clear HK H0
      go_wp2
      go_ret
      exact ⟨rfl, hO.below⟩

set_option maxHeartbeats 4000000 in
set_option maxRecDepth 100000 in
theorem build_full (key : St) (n : BitVec 64) (a : Option Addr) (len cap : Nat) (ss : List Tb) (w : World) (hR : Txs w a len cap ss) (hlen : len ≤ 8) (h60 : ∀ x ∈ ss, x.n ≤ 60) (hn : n = 18446744073709551615#64) (hT : Turns w) :
    Calls Tryd.prog 8 #[.agg (ringC key n), .slice a len cap] w fun e w' => e = .returned (.tuple #[.slice none 0 0, .slice none 0 0, .agg (ringC St.zero 0#64), .int .i64 6]) ∧ Below w.heap.size w w' := by
  have hO := Own.start w
  have htl : (txs ss).length = len := by rw [txs_length, hR.len]
  obtain ⟨X, hX⟩ : ∃ X, (txs ss).flatten = X := ⟨_, rfl⟩
  obtain ⟨N, hN⟩ : ∃ N, X.length = N := ⟨_, rfl⟩
  have hb : ∀ b ∈ txs ss, b.length ≤ 60 := fun b hbm => by
    unfold txs at hbm
    obtain ⟨x, hx, rfl⟩ := List.mem_map.1 hbm
    have h1 := (hR.2 x hx).len
    rw [u8s_length] at h1
    have := h60 x hx
    omega
  have hN480 : N ≤ 480 := by
    have h := flat_bound 60 (txs ss) hb
    rw [hX, hN, htl] at h
    have : 60 * len ≤ 480 := by omega
    omega
  have G1 := Lib.hid (fun w h => concat_calls a len cap ss w h N X hX hN (by omega))
  have G2 := Lib.hid (fun w a c h hT => sseal_full key n a N c X w h (by omega) hn hT)
  have HR := Lib.hid hR
  have HT := Lib.hid hT
  have d0 : decide ((65536 : Int) < (N : Int)) = false := decide_eq_false (by omega)
  clear hR hT htl hN hb hX hn h60
  generalize hW : w = wn at hO HT HR ⊢
  clear hW w
  go_enter Tryd.func8, Tryd.ntmps8
  go_wp2_with (first
    | ((with_reducible refine gBox ?_); first | (refine bxA hO rfl ?_; clear hO; intro br ww hO) | (refine bx1 hO rfl rfl ?_; clear hO; intro br ww hO))
    | ((with_reducible refine gG ?_); refine wpList_want rfl ?_)
    | ((with_reducible refine gAlloc (d := some 6) (T := 27) ?_); refine own_alloc hO _ _ irz ?_; clear hO; intro zb ww hO)
    | ((with_reducible refine gAlloc (d := some 10) (T := 27) ?_); refine own_alloc hO _ _ irz ?_; clear hO; intro bn ww hO)
    | (go_at_call 19; refine (G1.out _ (HR.out.own hO)).mono ?_; rintro e ww ⟨a2, c2, rfl, hb, hr⟩; replace hO := hO.addRow hb hr; clear hb hr)
    | (go_at_call 7; refine (G2.out _ _ _ (hO.rdAt 0 rfl) (HT.out.own hO)).mono ?_; rintro e ww ⟨rfl, hb⟩; replace hO := hO.call hb; clear hb)
    | ((with_reducible refine gBld (T := 27) ?_); refine own_bld (ringC St.zero 0#64) (by kernel_rfl) ?_)
    | ((with_reducible refine gLoad ?_); first | refine ldX hO 0 rfl rfl (tA rfl) (tS rfl) ?_ | refine ldC hO 0 rfl rfl (tA rfl) rfl ?_ | refine ldX hO 1 rfl rfl (tA rfl) (tS rfl) ?_ | refine ldC hO 1 rfl rfl (tA rfl) rfl ?_ | refine ldX hO 2 rfl rfl (tA rfl) (tS rfl) ?_ | refine ldC hO 2 rfl rfl (tA rfl) rfl ?_ | refine ldX hO 3 rfl rfl (tA rfl) (tS rfl) ?_ | refine ldC hO 3 rfl rfl (tA rfl) rfl ?_ | refine ldX hO 4 rfl rfl (tA rfl) (tS rfl) ?_ | refine ldC hO 4 rfl rfl (tA rfl) rfl ?_ | refine ldX hO 5 rfl rfl (tA rfl) (tS rfl) ?_ | refine ldC hO 5 rfl rfl (tA rfl) rfl ?_)
    | ((with_reducible refine gStore ?_); first | (refine stX hO 0 rfl rfl rfl rfl rfl (tS rfl) ?_; clear hO; intro ww hO) | (refine stC hO 0 rfl rfl rfl (ltb rfl) rfl (tS rfl) ?_; clear hO; intro ww hO) | (refine stX hO 1 rfl rfl rfl rfl rfl (tS rfl) ?_; clear hO; intro ww hO) | (refine stC hO 1 rfl rfl rfl (ltb rfl) rfl (tS rfl) ?_; clear hO; intro ww hO) | (refine stX hO 2 rfl rfl rfl rfl rfl (tS rfl) ?_; clear hO; intro ww hO) | (refine stC hO 2 rfl rfl rfl (ltb rfl) rfl (tS rfl) ?_; clear hO; intro ww hO) | (refine stX hO 3 rfl rfl rfl rfl rfl (tS rfl) ?_; clear hO; intro ww hO) | (refine stC hO 3 rfl rfl rfl (ltb rfl) rfl (tS rfl) ?_; clear hO; intro ww hO) | (refine stX hO 4 rfl rfl rfl rfl rfl (tS rfl) ?_; clear hO; intro ww hO) | (refine stC hO 4 rfl rfl rfl (ltb rfl) rfl (tS rfl) ?_; clear hO; intro ww hO) | (refine stX hO 5 rfl rfl rfl rfl rfl (tS rfl) ?_; clear hO; intro ww hO) | (refine stC hO 5 rfl rfl rfl (ltb rfl) rfl (tS rfl) ?_; clear hO; intro ww hO)))
  refine bodyPost_ret (res_ttct rfl _ _ _ 27 (ringC St.zero 0#64) (0,0) _ rfl (hO.blk 2 rfl) Tryd.underlying27 rfl (irs _ _)) rfl ⟨rfl, hO.below⟩
end Go.Proofs.YtniibdglodnhoaaDoor

/- The law's live. -/
namespace Go.Proofs.YtniibdglodnhoaaDoor
open Go.RowKit Go.Own Go.Bv Go.Ord Go.Eq Go.Opn Go.Pb Go.Sl

theorem up1_ne (n : BitVec 64) (h : n ≠ 18446744073709551615#64) : ((n + 1#64).toNat : Int) = (n.toNat : Int) + 1 := by
  have h1 : n.toNat ≠ 18446744073709551615 := fun e => h (BitVec.eq_of_toNat_eq e)
  have := n.isLt
  rw [BitVec.toNat_add]
  simp
  omega

theorem sames_refl (a1 a2 : Option Addr) (n c1 c2 : Nat) (b : List (BitVec 8)) (w : World) (h1 : Rd w 1 a1 n c1 (u8s b)) (h2 : Rd w 1 a2 n c2 (u8s b)) :
    Calls Tryd.prog 9 #[.slice a1 n c1, .slice a2 n c2] w fun e w' => e = .returned (.bool true) ∧ w = w' := by
  have h := same8_calls a1 a2 n c1 n c2 b b w h1 h2
  rw [decide_eq_true rfl] at h
  exact h

set_option maxHeartbeats 4000000 in
set_option maxRecDepth 100000 in
theorem slive_calls (w : World) (hT : Turns w) :
    Calls Tryd.prog 6 #[] w fun e w' => e = .returned (.bool true) ∧ Below w.heap.size w w' := by
  have hO := Own.start w
  obtain ⟨T, hTT⟩ : ∃ T, sealT St.zero 0#64 [97#8, 98#8, 99#8] = T := ⟨_, rfl⟩
  obtain ⟨M, hM⟩ : ∃ M, T.length = M := ⟨_, rfl⟩
  obtain ⟨pl, hpl⟩ : ∃ pl, pcs (pieces [[97#8, 98#8], [99#8]]) = pl := ⟨_, rfl⟩
  have q3 : pl[3]? = some (.int .i64 2) := by rw [← hpl]; rfl
  have q4 : pl[4]? = some (.int .i64 1) := by rw [← hpl]; rfl
  have g1 := fun (x y z : Nat) w h hT => build_ok St.zero 0#64 (some ⟨z, 0, none⟩) 2 2 [⟨some ⟨x, 0, none⟩, 2, 2, [97#8, 98#8]⟩, ⟨some ⟨y, 0, none⟩, 1, 1, [99#8]⟩] w h (by omega) (fun t ht => by simp only [List.mem_cons, List.not_mem_nil, or_false] at ht; rcases ht with rfl | rfl <;> simp) (by decide) hT [97#8, 98#8, 99#8] rfl T hTT M hM
  have e1 : ∀ x y : Nat, txs [⟨some ⟨x, 0, none⟩, 2, 2, [97#8, 98#8]⟩, ⟨some ⟨y, 0, none⟩, 1, 1, [99#8]⟩] = [[97#8, 98#8], [99#8]] := fun _ _ => rfl
  simp only [e1, hpl] at g1
  have G1 := Lib.hid g1
  have HT := Lib.hid hT
  have Q3 := Lib.hid q3
  have Q4 := Lib.hid q4
  clear hT hTT hM hpl q3 q4 g1 e1
  generalize hW : w = wn at hO HT ⊢
  clear hW w
  go_enter Tryd.func6, Tryd.ntmps6
  go_wp2_with (first
    | ((with_reducible refine gG (d := some 26) ?_); refine wpList_want rfl ?_)
    | ((with_reducible refine gG (d := some 33) ?_); refine wpList_want rfl ?_)
    | ((with_reducible refine gBld (T := 27) ?_); refine own_bld (ringC St.zero 0#64) (by kernel_rfl) ?_)
    | ((with_reducible refine gBuild (d := some 7) ?_); refine own_build hO 28 2 _ eu8_8 (u8s [97#8, 98#8]).toArray (by omega) (by omega) (by kernel_rfl) rfl ?_; clear hO; intro x1 ww hO)
    | ((with_reducible refine gBuild (d := some 8) ?_); refine own_build hO 28 1 _ eu8_8 (u8s [99#8]).toArray (by omega) (by omega) (by kernel_rfl) rfl ?_; clear hO; intro x2 ww hO)
    | ((with_reducible refine gBuild (d := some 9) ?_); refine own_build hO 36 2 _ ebb #[.slice (some ⟨x1, 0, none⟩) 2 2, .slice (some ⟨x2, 0, none⟩) 1 1] (by omega) (by omega) (by simp [go_sem, Instr.fill]) rfl ?_; clear hO; intro x3 ww hO)
    | (go_at_call 8; refine (G1.out x1 x2 x3 _ ⟨hO.rdAt 0 rfl, fun t ht => (by
        simp only [List.mem_cons, List.not_mem_nil, or_false] at ht
        rcases ht with rfl | rfl
        · exact hO.rdAt 2 rfl
        · exact hO.rdAt 1 rfl)⟩ (HT.out.own hO)).mono ?_; rintro e ww ⟨a1, c1, g2, rfl, hK⟩; replace hO := hO.join hK; clear hK)
    | ((with_reducible refine gAlloc (T := 27) ?_); refine own_alloc hO _ _ irz ?_; clear hO; intro bn ww hO)
    | ((with_reducible refine gStore (T := 27) ?_); refine stX hO 0 rfl rfl rfl rfl rfl (tS rfl) ?_; clear hO; intro ww hO)
    | ((with_reducible refine gLoad (d := some 26) ?_); refine ld_sl hO 1 rfl rfl Q3.out (tA rfl) ?_)
    | ((with_reducible refine gLoad (d := some 33) ?_); refine ld_sl hO 1 rfl rfl Q4.out (tA rfl) ?_))
  go_ret
  exact ⟨rfl, hO.below⟩
end Go.Proofs.YtniibdglodnhoaaDoor
