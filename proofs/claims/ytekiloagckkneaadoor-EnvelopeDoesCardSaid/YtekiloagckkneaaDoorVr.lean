/- Walks of the document's envelope: eight, Bytes, Same, From; both From's and Bytes' refusals. -/
import Derived.Test.YtekiloagckkneaaDoorVb
import Derived.Test.YtekiloagckkneaaDoorVEq
import Derived.Test.YtekiloagckkneaaDoorPk
namespace Go.Bva
open Go.RowKit Go.Bv
section
variable {P : Program} {ops : Array Oper} {Q : Exit → Act → World → Prop} {a : Act} {w : World} {rest : List Oper}
variable {d : Option Tmp} {ty : TypeId} {pos : String} {aft : Array Edge}
def brem (u : BitVec 64) : BitVec 64 := u % 256#64
def bquo (u : BitVec 64) : BitVec 64 := u / 256#64
def blow (u : BitVec 64) : BitVec 8 := u.setWidth 8
theorem rem_u64 {t yt : TypeId} {x y : Operand} {u : BitVec 64} (hx : a.eval x = .int .u64 (u.toNat : Int)) (hy : a.eval y = .int .u64 256)
    (h : wpList P ops Q rest (a.put d (.int .u64 ((brem u).toNat : Int))) w) : wpList P ops Q ({ dst := d, op := .binOp .rem t x y yt, type := ty, pos := pos, after := aft, guard := none } :: rest) a w := by
  unfold brem at h
  refine step_val ?_ h
  simp only [execOp, hx, hy]
  have e : ∀ z : Int, IntKind.u64.wrap z = z % 18446744073709551616 := fun z => by simp [IntKind.wrap, IntKind.bits, IntKind.signed]
  have hu := u.isLt
  simp [go_sem, binOp, eqGuard, Op.intArith, e, BitVec.toNat_umod, Int.tmod_eq_emod_of_nonneg]
  try omega
theorem quo_u64 {t yt : TypeId} {x y : Operand} {u : BitVec 64} (hx : a.eval x = .int .u64 (u.toNat : Int)) (hy : a.eval y = .int .u64 256)
    (h : wpList P ops Q rest (a.put d (.int .u64 ((bquo u).toNat : Int))) w) : wpList P ops Q ({ dst := d, op := .binOp .quo t x y yt, type := ty, pos := pos, after := aft, guard := none } :: rest) a w := by
  unfold bquo at h
  refine step_val ?_ h
  simp only [execOp, hx, hy]
  have e : ∀ z : Int, IntKind.u64.wrap z = z % 18446744073709551616 := fun z => by simp [IntKind.wrap, IntKind.bits, IntKind.signed]
  have hu := u.isLt
  simp [go_sem, binOp, eqGuard, Op.intArith, e, BitVec.toNat_udiv, Int.tdiv_eq_ediv_of_nonneg]
  try omega
theorem cnv_64_8 {s t : TypeId} {x : Operand} {u : BitVec 64} (hs : P.underlying s = some (.int .u64)) (ht : P.underlying t = some (.int .u8)) (hx : a.eval x = .int .u64 (u.toNat : Int))
    (h : wpList P ops Q rest (a.put d (.int .u8 ((blow u).toNat : Int))) w) : wpList P ops Q ({ dst := d, op := .convert s t x, type := ty, pos := pos, after := aft, guard := none } :: rest) a w := by
  unfold blow at h
  refine step_val ?_ h
  have e : IntKind.u8.wrap (u.toNat : Int) = ((u.setWidth 8).toNat : Int) := by
    rw [IntKind.wrap_u8', BitVec.toNat_setWidth]; omega
  simp only [execOp, hx]
  have hc : (convert s t (.int IntKind.u64 (u.toNat : Int))).run P w = .ok (.int IntKind.u8 (IntKind.u8.wrap (u.toNat : Int))) w := by simp [convert, run_underlying hs, run_underlying ht, Conv.intToInt]
  simp [hc, e]
end
end Go.Bva
namespace Go.Proofs.YtekiloagckkneaaDoor
open Go.RowKit Go.Own Go.Bv Go.Ord Go.Eq

def quoK (n : BitVec 64) : Nat → BitVec 64
  | 0 => n
  | k + 1 => Go.Bva.bquo (quoK n k)
def reK (n : BitVec 64) : Nat → List (BitVec 8)
  | 0 => []
  | k + 1 => reK n k ++ [Go.Bva.blow (Go.Bva.brem (quoK n k))]
theorem reK_length (n : BitVec 64) : ∀ k, (reK n k).length = k
  | 0 => rfl
  | k + 1 => by show (reK n k ++ _).length = _; rw [List.length_append, reK_length n k]; rfl
theorem reK_eight (n : BitVec 64) : reK n 8 = eight n := by
  simp only [reK, quoK, eight, List.nil_append, List.cons_append, List.cons.injEq, and_true]
  have := n.isLt
  refine ⟨?_, ?_, ?_, ?_, ?_, ?_, ?_, ?_⟩ <;> apply BitVec.eq_of_toNat_eq <;> simp [Go.Bva.blow, Go.Bva.brem, Go.Bva.bquo, Nat.shiftRight_eq_div_pow] <;> omega

set_option maxHeartbeats 2000000 in
set_option maxRecDepth 100000 in
theorem reight_calls (n : BitVec 64) (w : World) :
    Calls Tryd.prog 33 #[.int .u64 (n.toNat : Int)] w fun e w' => ∃ a' c', e = .returned (.slice a' 8 c') ∧ Below w.heap.size w w' ∧ w'.ownsRow w.heap.size 5 1 (.slice a' 8 c') 8 (u8s (eight n)) := by
  have hO := Own.start w
  have H8 := Lib.hid (reK_eight n)
  generalize hW : w = wn at hO ⊢
  clear hW w
  go_enter Tryd.func33, Tryd.ntmps33
  go_wp2
  replace hO : Own wn _ [.sl 5 1 (.slice none 0 0) 0 (u8s (reK n 0))] := hO.add (Below.refl _ _) (World.ownsRow_nil _ _ _ _)
  go_loopg [0, 3, 4] 8 (fun m s0 s3 c wr => ∃ (k : Nat) (aK : Option Addr) (cK : Nat), m = 8 - k ∧ k ≤ 8 ∧ c = .int .i64 k ∧ s0 = .int .u64 ((quoK n k).toNat : Int) ∧ s3 = .slice aK k cK ∧ Own wn wr [.sl 5 1 (.slice aK k cK) k (u8s (reK n k))])
  case atStart => exact ⟨0, _, _, rfl, by omega, rfl, rfl, rfl, hO⟩
  case round =>
    obtain ⟨k, aK, cK, rfl, hk, rfl, rfl, rfl, hO1⟩ := hrel
    clear hO
    have hO := hO1
    clear hO1
    by_cases hlt : k < 8
    · have hb0 : decide ((k : Int) < 8) = true := by simp; omega
      have HQ : Hid (quoK n (k + 1) = Go.Bva.bquo (quoK n k)) := rfl
      have HR : Hid (u8s (reK n (k + 1)) = u8s (reK n k) ++ u8s [Go.Bva.blow (Go.Bva.brem (quoK n k))]) := by show _ = _; rw [u8s_append']; rfl
      generalize quoK n k = q at *
      generalize u8s (reK n k) = L at *
      obtain ⟨x, hx⟩ : ∃ x, Go.Bva.blow (Go.Bva.brem q) = x := ⟨_, rfl⟩
      rw [hx] at HR
      have HX := Lib.hid hx
      clear hx
      go_wp2_with (first
        | ((with_reducible refine Go.Bva.gBin (op := .rem) ?_); refine Go.Bva.rem_u64 rfl rfl ?_)
        | ((with_reducible refine Go.Bva.gBin (op := .quo) ?_); refine Go.Bva.quo_u64 rfl rfl ?_)
        | ((with_reducible refine Go.Bva.gCnv ?_); refine Go.Bva.cnv_64_8 Tryd.underlying25 Tryd.underlying5 rfl ?_; rw [HX.out])
        | ((with_reducible refine gBuild ?_); refine own_build hO 28 1 _ eu8 (u8s [x]).toArray (by omega) (by omega) (by simp [go_sem, Instr.fill, u8s]) rfl ?_; clear hO; intro g ww hO)
        | ((with_reducible refine gAppend ?_); refine own_append hO 1 _ _ 28 eu8 rfl rfl rfl (hO.rdAt 0 rfl) (u8s_one _) (k + 1) rfl (by simp [maxLen]; omega) (by omega) ?_; clear hO; intro a2 c2 ww hO))
      go_roundg (8 - (k + 1))
      case measure => omega
      case rel =>
        refine ⟨k + 1, a2, c2, rfl, by omega, by go_num, by rw [HQ.out], rfl, ?_⟩
        rw [HR.out]
        exact hO.sub (by repeat first | exact List.Sublist.refl _ | apply List.Sublist.cons)
    · obtain rfl : k = 8 := by omega
      rw [H8.out] at hO
      go_wp2
      go_ret
      exact ⟨_, _, rfl, hO.below, hO.row 0 rfl⟩

set_option maxHeartbeats 4000000 in
set_option maxRecDepth 100000 in
theorem rbytes_ok (n : BitVec 64) (u : St) (a : Option Addr) (len cap : Nat) (t : List (BitVec 8)) (w : World) (hR : Rd w 1 a len cap (u8s t)) (hl : len ≤ 65536) :
    Calls Tryd.prog 19 #[.agg (boxC n (.slice a len cap) u)] w fun e w' => ∃ a' c', e = .returned (.tuple #[.slice a' (8 + 16 + len) c', .int .i64 0]) ∧ Below w.heap.size w w' ∧ w'.ownsRow w.heap.size 5 1 (.slice a' (8 + 16 + len) c') (8 + 16 + len) (u8s (eight n ++ u.octs ++ t)) := by
  have hO := Own.start w
  have HR := Lib.hid hR
  have d1 : decide ((65536 : Int) < (len : Int)) = false := by simp; omega
  have G1 := Lib.hid (reight_calls n)
  have G2 := Lib.hid (rocts_calls u)
  rw [← u8s_append', ← u8s_append']
  obtain ⟨E8, hE8⟩ : ∃ E8, eight n = E8 := ⟨_, rfl⟩
  obtain ⟨UO, hUO⟩ : ∃ UO, u.octs = UO := ⟨_, rfl⟩
  rw [hE8] at G1 ⊢
  rw [hUO] at G2 ⊢
  clear hR hE8 hUO
  generalize hW : w = wn at hO HR ⊢
  clear hW w
  go_enter Tryd.func19, Tryd.ntmps19
  go_wp2_with (first
    | ((with_reducible refine gBox ?_); first | (refine bxA hO rfl ?_; clear hO; intro b ww hO) | (refine bx1 hO rfl rfl ?_; clear hO; intro b ww hO))
    | ((with_reducible refine gLoad (T := 28) ?_); refine ldC hO 0 rfl rfl (tA rfl) rfl ?_))
  refine wp_region_textS (fun w' => Own wn w' [.blk b (.cells (boxC n (.slice a len cap) u) 31 (0,0))]) (fun op => match op with | .load _ _ => true | _ => false) (by kernel_rfl) (by kernel_rfl) hO.drew ?_
  replace hO := hO.drew
  generalize World.drew _ = wd at hO ⊢
  go_wp2_with (first
    | (((with_reducible refine gIL ?_); first | refine wpI_ldcS (fun w' hS => hS.blk 0 rfl) rfl rfl (tA rfl) rfl ?_); first | (refine wpI_act (by simp only [Act.put, List.setIfInBounds_toArray, List.set_cons_succ, List.set_cons_zero]; rfl) ?_) | skip)
    | ((with_reducible refine gIL ?_); refine wpI_ldpS u.C.toList (fun w' hS => hS.blk 0 rfl) rfl rfl (tA rfl) (tS rfl) rfl ?_; first | (refine wpI_act (by simp only [Act.put, List.setIfInBounds_toArray, List.set_cons_succ, List.set_cons_zero]; rfl) ?_) | skip)
    | (go_at_call 33; refine (G1.out _).mono ?_; rintro e ww ⟨a1, c1, rfl, hb, hr⟩; replace hO := hO.addRow hb hr; clear hb hr)
    | (go_at_call 34; refine (G2.out _).mono ?_; rintro e ww ⟨a2, c2, rfl, hb, hr⟩; replace hO := hO.addRow hb hr; clear hb hr)
    | ((with_reducible refine gAppend ?_); first
        | (refine own_append hO 1 _ _ 28 eu8 rfl rfl rfl (hO.rdAt 0 rfl) (u8s_one _) (8 + 16) rfl (by simp [maxLen]) (by omega) ?_; clear hO; intro a3 c3 ww hO)
        | (refine own_append hO 1 _ _ 28 eu8 rfl rfl rfl (hO.rd HR.out) (u8s_one _) (8 + 16 + len) rfl (by simp [maxLen]; omega) (by omega) ?_; clear hO; intro a4 c4 ww hO))
    | ((with_reducible refine gI ?_); refine wpI_step rfl rfl (by kernel_rfl) ?_; intro K hK; have HK := Lib.hid hK; clear hK) | ((with_reducible refine gI ?_); first | refine wpI_skip rfl ?_ | refine wpI_want rfl ?_) | ((with_reducible refine gOnlyK HK.out ?_ ?_); exact hO.sub (by repeat first | exact List.Sublist.refl _ | apply List.Sublist.cons); clear HK K; first | (refine wpI_act (by simp only [Act.put, List.setIfInBounds_toArray, List.set_cons_succ, List.set_cons_zero]; rfl) ?_) | skip) | (with_reducible refine wpI_nil ?_))
  go_ret2
  exact ⟨_, _, rfl, hO.below, hO.row 1 rfl⟩

set_option maxHeartbeats 2000000 in
set_option maxRecDepth 100000 in
theorem rsame_calls (n m : BitVec 64) (a1 a2 : Option Addr) (n1 c1 n2 c2 : Nat) (u v : St) (b1 b2 : List (BitVec 8)) (w : World) (h1 : Rd w 1 a1 n1 c1 (u8s b1)) (h2 : Rd w 1 a2 n2 c2 (u8s b2)) :
    Calls Tryd.prog 24 #[.agg (boxC n (.slice a1 n1 c1) u), .agg (boxC m (.slice a2 n2 c2) v)] w fun e w' => e = .returned (.bool (decide (n = m) && decide (b1 = b2) && decide (u = v))) ∧ Below w.heap.size w w' := by
  have hO := Own.start w
  have HR1 := Lib.hid h1
  have HR2 := Lib.hid h2
  obtain ⟨B, hB⟩ : ∃ B : Bool, decide (u = v) = B := ⟨_, rfl⟩
  have HQ : Hid (∀ w, (binOp .eql 24 (.agg u.C) (.agg v.C)).run Tryd.prog w = .ok (.bool B) w) := fun w => by rw [eqW, hB]
  rw [hB]
  clear h1 h2 hB
  by_cases hn : n = m
  · subst hn
    have d1 : ((n.toNat : Int) == (n.toNat : Int)) = true := by simp
    by_cases hb : b1 = b2
    · subst hb
      have hd : decide (b1 = b1) = true := decide_eq_true rfl
      have hd2 : decide (n = n) = true := decide_eq_true rfl
      rw [hd, hd2]
      generalize hW : w = wn at hO HR1 HR2 ⊢
      clear hW w hd hd2
      go_enter Tryd.func24, Tryd.ntmps24
      go_wp2_with (first
        | ((with_reducible refine gBox ?_); first | (refine bxA hO rfl ?_; clear hO; intro b ww hO) | (refine bx1 hO rfl rfl ?_; clear hO; intro b ww hO))
        | ((with_reducible refine gG ?_); refine wpList_want rfl ?_)
        | ((with_reducible refine gLoad (T := 25) ?_); first | refine ldC hO 0 rfl rfl (tA rfl) rfl ?_ | refine ldC hO 1 rfl rfl (tA rfl) rfl ?_)
        | ((with_reducible refine gLoad (T := 28) ?_); first | refine ldC hO 0 rfl rfl (tA rfl) rfl ?_ | refine ldC hO 1 rfl rfl (tA rfl) rfl ?_)
        | ((with_reducible refine gLoad (T := 24) ?_); first | refine ldA hO 0 v.C rfl rfl (tA rfl) (tS rfl) rfl ?_ | refine ldA hO 1 u.C rfl rfl (tA rfl) (tS rfl) rfl ?_)
        | (go_at_call 13; refine (same_calls _ _ _ _ _ _ b1 b1 _ (hO.rd HR1.out) (hO.rd HR2.out)).mono ?_; rw [decide_eq_true rfl]; rintro e ww ⟨rfl, rfl⟩)
        | ((with_reducible refine gEql (t := 24) ?_); refine eqD v_egW rfl rfl ?_; (with_reducible refine ⟨_, HQ.out, ?_⟩)))
      go_ret
      exact ⟨rfl, hO.below⟩
    · have hd : decide (b1 = b2) = false := decide_eq_false hb
      rw [hd, Bool.and_false, Bool.false_and]
      have HD := Lib.hid hd
      generalize hW : w = wn at hO HR1 HR2 ⊢
      clear hW w hd hb
      go_enter Tryd.func24, Tryd.ntmps24
      go_wp2_with (first
        | ((with_reducible refine gBox ?_); first | (refine bxA hO rfl ?_; clear hO; intro b ww hO) | (refine bx1 hO rfl rfl ?_; clear hO; intro b ww hO))
        | ((with_reducible refine gG ?_); refine wpList_want rfl ?_)
        | ((with_reducible refine gLoad (T := 25) ?_); first | refine ldC hO 0 rfl rfl (tA rfl) rfl ?_ | refine ldC hO 1 rfl rfl (tA rfl) rfl ?_)
        | ((with_reducible refine gLoad (T := 28) ?_); first | refine ldC hO 0 rfl rfl (tA rfl) rfl ?_ | refine ldC hO 1 rfl rfl (tA rfl) rfl ?_)
        | (go_at_call 13; refine (same_calls _ _ _ _ _ _ b1 b2 _ (hO.rd HR1.out) (hO.rd HR2.out)).mono ?_; rw [HD.out]; rintro e ww ⟨rfl, rfl⟩))
      go_ret
      exact ⟨rfl, hO.below⟩
  · have d1 : ((n.toNat : Int) == (m.toNat : Int)) = false := by
      simp only [beq_eq_false_iff_ne, ne_eq]
      exact fun h => hn (BitVec.eq_of_toNat_eq (by omega))
    have hd : decide (n = m) = false := decide_eq_false hn
    rw [hd, Bool.false_and, Bool.false_and]
    generalize hW : w = wn at hO HR1 HR2 ⊢
    clear hW w hd hn
    go_enter Tryd.func24, Tryd.ntmps24
    go_wp2_with (first
      | ((with_reducible refine gBox ?_); first | (refine bxA hO rfl ?_; clear hO; intro b ww hO) | (refine bx1 hO rfl rfl ?_; clear hO; intro b ww hO))
      | ((with_reducible refine gG ?_); refine wpList_want rfl ?_)
      | ((with_reducible refine gLoad (T := 25) ?_); first | refine ldC hO 0 rfl rfl (tA rfl) rfl ?_ | refine ldC hO 1 rfl rfl (tA rfl) rfl ?_))
    go_ret
    exact ⟨rfl, hO.below⟩
set_option maxHeartbeats 1000000 in
set_option maxRecDepth 100000 in
theorem bytes_no (n : BitVec 64) (u : St) (a : Option Addr) (len cap : Nat) (w : World) (hl : 65536 < len) :
    Calls Tryd.prog 18 #[.agg (boxC n (.slice a len cap) u)] w fun e w' => e = .returned (.tuple #[.slice none 0 0, .int .i64 3]) ∧ Below w.heap.size w w' := by
  have hO := Own.start w
  have d1 : decide ((65536 : Int) < (len : Int)) = true := by simp; omega
  generalize hW : w = wn at hO ⊢
  clear hW w
  go_enter Tryd.func18, Tryd.ntmps18
  go_wp2_with (first
    | ((with_reducible refine gBox ?_); first | (refine bxA hO rfl ?_; clear hO; intro b ww hO) | (refine bx1 hO rfl rfl ?_; clear hO; intro b ww hO))
    | ((with_reducible refine gLoad (T := 28) ?_); refine ldC hO 0 rfl rfl (tA rfl) rfl ?_))
  go_ret2
  exact ⟨rfl, hO.below⟩

set_option maxHeartbeats 1000000 in
set_option maxRecDepth 100000 in
theorem rbytes_no (n : BitVec 64) (u : St) (a : Option Addr) (len cap : Nat) (w : World) (hl : 65536 < len) :
    Calls Tryd.prog 19 #[.agg (boxC n (.slice a len cap) u)] w fun e w' => e = .returned (.tuple #[.slice none 0 0, .int .i64 3]) ∧ Below w.heap.size w w' := by
  have hO := Own.start w
  have d1 : decide ((65536 : Int) < (len : Int)) = true := by simp; omega
  generalize hW : w = wn at hO ⊢
  clear hW w
  go_enter Tryd.func19, Tryd.ntmps19
  go_wp2_with (first
    | ((with_reducible refine gBox ?_); first | (refine bxA hO rfl ?_; clear hO; intro b ww hO) | (refine bx1 hO rfl rfl ?_; clear hO; intro b ww hO))
    | ((with_reducible refine gLoad (T := 28) ?_); refine ldC hO 0 rfl rfl (tA rfl) rfl ?_))
  go_ret2
  exact ⟨rfl, hO.below⟩

set_option maxHeartbeats 1000000 in
set_option maxRecDepth 100000 in
theorem from_long (a : Option Addr) (len cap : Nat) (w : World) (hl : 65560 < len) :
    Calls Tryd.prog 20 #[.slice a len cap] w fun e w' => e = .returned (.tuple #[.agg (boxC 0#64 (.slice none 0 0) St.zero), .int .i64 3]) ∧ Below w.heap.size w w' := by
  have hO := Own.start w
  have d0 : decide ((len : Int) < 24) = false := by simp; omega
  have d1 : decide ((65560 : Int) < (len : Int)) = true := by simp; omega
  generalize hW : w = wn at hO ⊢
  clear hW w
  go_enter Tryd.func20, Tryd.ntmps20
  go_wp2_with (first
    | ((with_reducible refine gAlloc (T := 31) ?_); refine own_alloc hO _ _ ibz ?_; clear hO; intro bx ww hO)
    | ((with_reducible refine gLoad (T := 31) ?_); refine ldX hO 0 rfl rfl (tA rfl) (tS rfl) ?_)
    | ((with_reducible refine gStore (T := 31) ?_); refine stX hO 0 rfl rfl rfl rfl rfl (tS rfl) ?_; clear hO; intro ww hO))
  refine bodyPost_ret (res_ct rfl _ _ bx 31 (boxC 0#64 (.slice none 0 0) St.zero) (0,0) _ rfl (hO.blk 0 rfl) Tryd.underlying31 rfl (ibs _ _ _)) rfl ⟨rfl, hO.below⟩

set_option maxHeartbeats 1000000 in
set_option maxRecDepth 100000 in
theorem rfrom_no (a : Option Addr) (len cap : Nat) (w : World) (hl : len < 24) :
    Calls Tryd.prog 21 #[.slice a len cap] w fun e w' => e = .returned (.tuple #[.agg (boxC 0#64 (.slice none 0 0) St.zero), .int .i64 2]) ∧ Below w.heap.size w w' := by
  have hO := Own.start w
  have d1 : decide ((len : Int) < 24) = true := by simp; omega
  generalize hW : w = wn at hO ⊢
  clear hW w
  go_enter Tryd.func21, Tryd.ntmps21
  go_wp2_with (first
    | ((with_reducible refine gAlloc (T := 31) ?_); refine own_alloc hO _ _ ibz ?_; clear hO; intro bx ww hO)
    | ((with_reducible refine gLoad (T := 31) ?_); refine ldX hO 0 rfl rfl (tA rfl) (tS rfl) ?_)
    | ((with_reducible refine gStore (T := 31) ?_); refine stX hO 0 rfl rfl rfl rfl rfl (tS rfl) ?_; clear hO; intro ww hO))
  refine bodyPost_ret (res_ct rfl _ _ bx 31 (boxC 0#64 (.slice none 0 0) St.zero) (0,0) _ rfl (hO.blk 0 rfl) Tryd.underlying31 rfl (ibs _ _ _)) rfl ⟨rfl, hO.below⟩

set_option maxHeartbeats 1000000 in
set_option maxRecDepth 100000 in
theorem rfrom_long (a : Option Addr) (len cap : Nat) (w : World) (hl : 65560 < len) :
    Calls Tryd.prog 21 #[.slice a len cap] w fun e w' => e = .returned (.tuple #[.agg (boxC 0#64 (.slice none 0 0) St.zero), .int .i64 3]) ∧ Below w.heap.size w w' := by
  have hO := Own.start w
  have d0 : decide ((len : Int) < 24) = false := by simp; omega
  have d1 : decide ((65560 : Int) < (len : Int)) = true := by simp; omega
  generalize hW : w = wn at hO ⊢
  clear hW w
  go_enter Tryd.func21, Tryd.ntmps21
  go_wp2_with (first
    | ((with_reducible refine gAlloc (T := 31) ?_); refine own_alloc hO _ _ ibz ?_; clear hO; intro bx ww hO)
    | ((with_reducible refine gLoad (T := 31) ?_); refine ldX hO 0 rfl rfl (tA rfl) (tS rfl) ?_)
    | ((with_reducible refine gStore (T := 31) ?_); refine stX hO 0 rfl rfl rfl rfl rfl (tS rfl) ?_; clear hO; intro ww hO))
  refine bodyPost_ret (res_ct rfl _ _ bx 31 (boxC 0#64 (.slice none 0 0) St.zero) (0,0) _ rfl (hO.blk 0 rfl) Tryd.underlying31 rfl (ibs _ _ _)) rfl ⟨rfl, hO.below⟩

end Go.Proofs.YtekiloagckkneaaDoor
