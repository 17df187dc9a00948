/- 'EnvelopeDoes', the tied card: for every input the law returns true, and each argument reads behind the call as it read before; the listed variable perm.turns is tied to the program's text. No other condition. The frame is the kit's toy (UptoLaidToy), turned; the walk is in the texts that are imported. -/
import Derived.Test.YtekiloagckkneaaDoorRows
import Derived.Test.YtekiloagckkneaaDoorCards
import Derived.Test.YtekiloagckkneaaDoorTie
import Derived.Test.YtekiloagckkneaaDoorVDoes
import Derived.Test.YtekiloagckkneaaDoorVW
import Derived.Test.YtekiloagckkneaaDoorW
import Derived.Test.YtekiloagckkneaaDoorPT
import Derived.WalkKit
import Derived.ProofKit
import Derived.OpenShut
import Derived.ShutString
import Derived.ChangeOld
import Derived.Below
import Derived.Deep.DeepHandedRow
import Derived.Lib.LaidTab
namespace Go.Proofs.YtekiloagckkneaaDoor.envelopeDoes
open Go.ChangeShapes Go.WideShapes Go.ChangeAt Go.RowKit
set_option linter.unusedVariables false

theorem own : ownKnob Tryd.prog.godebug = none := by kernel_rfl
theorem laidOut : laidOutB Tryd.prog = true := by kernel_rfl
theorem table {W : World} (h : laidMetH Tryd.prog Rows.envelopeDoesRow.laid W) : Turns W := turns_of_laid h

theorem walk (x00 x01 x02 x03 : BitVec 32) (n0 : BitVec 64) (a1 : Option Addr) (len1 cap1 : Nat) (z1 : List Int) (n2 : BitVec 64) (a2 : Option Addr) (len2 cap2 : Nat) (z2 : List Int) (x20 x21 x22 x23 : BitVec 32) (n3 : BitVec 64) (a3 : Option Addr) (len3 cap3 : Nat) (z3 : List Int) (x30 x31 x32 x33 : BitVec 32) (a4 : Int) (w : World) (w1 : Go.Opn.IsRow .u8 w a1 len1 cap1 z1) (w2 : Go.Opn.IsRow .u8 w a2 len2 cap2 z2) (w3 : Go.Opn.IsRow .u8 w a3 len3 cap3 z3) (w4 : (Lit.int .i64 a4).wf = true) (hT : Turns w) :
    Calls Tryd.prog 7 #[.agg #[.int .u32 (x00.toNat : Int), .int .u32 (x01.toNat : Int), .int .u32 (x02.toNat : Int), .int .u32 (x03.toNat : Int), .int .u64 (n0.toNat : Int)], .slice a1 len1 cap1, .agg #[.int .u64 (n2.toNat : Int), .slice a2 len2 cap2, .int .u32 (x20.toNat : Int), .int .u32 (x21.toNat : Int), .int .u32 (x22.toNat : Int), .int .u32 (x23.toNat : Int)], .agg #[.int .u64 (n3.toNat : Int), .slice a3 len3 cap3, .int .u32 (x30.toNat : Int), .int .u32 (x31.toNat : Int), .int .u32 (x32.toNat : Int), .int .u32 (x33.toNat : Int)], .int .i64 a4] w fun e w' => e = .returned (.bool true) ∧ Below w.heap.size w w' := by
  obtain ⟨bs, hR1⟩ := Go.Bv.rd_of_ints w1
  obtain ⟨ts, hR2⟩ := Go.Bv.rd_of_ints w2
  obtain ⟨ys, hR3⟩ := Go.Bv.rd_of_ints w3
  exact vdoes_walk ⟨x00, x01, x02, x03⟩ n0 a1 len1 cap1 bs n2 a2 len2 cap2 ts ⟨x20, x21, x22, x23⟩ n3 a3 len3 cap3 ys ⟨x30, x31, x32, x33⟩ a4 w hR1 hR2 hR3 hT

set_option maxRecDepth 100000 in
theorem contract (H : Type) (enc : TypeId × Value → H) (W : World) (base : Nat) (args : Array Value) (ds gs : List (DataW H)) (before : List MemPlace)
    (hval0 : ∀ (j : Nat) t v, Tryd.f7.params[j]? = some t → args[j]? = some v → Value.okWide Tryd.prog W .any base t v)
    (hW : DataW.Whole enc Tryd.prog Tryd.f7.params.toList Rows.envelopeDoesSpec.vars false W args.toList ds gs before) (hL : laidMetH Tryd.prog Rows.envelopeDoesRow.laid W) :
    Calls Tryd.prog 7 args W fun e W' => ∃ v, e = .returned v ∧ Rows.envelopeDoesSpec.post enc Tryd.prog Tryd.f7 false true false false W args v W' := by
  have hval := hval0
  have hW' := hW
  obtain ⟨p, q, hA0, hV, rfl, hfz, hnd⟩ := hW
  have hA : DataW.TrodAll enc Tryd.prog W 0 (fun _ => true) true Tryd.f7.params.toList args.toList ds p := hA0
  rw [Tryd.params7] at hA hval
  obtain ⟨v0, vs0, d0, ds0, p0, q0, hargs, rfl, rfl, h0, r0⟩ := trodAll_cons hA
  obtain ⟨v1, vs1, d1, ds1, p1, q1, rfl, rfl, rfl, h1, r1⟩ := trodAll_cons r0
  obtain ⟨v2, vs2, d2, ds2, p2, q2, rfl, rfl, rfl, h2, r2⟩ := trodAll_cons r1
  obtain ⟨v3, vs3, d3, ds3, p3, q3, rfl, rfl, rfl, h3, r3⟩ := trodAll_cons r2
  obtain ⟨v4, vs4, d4, ds4, p4, q4, rfl, rfl, rfl, h4, r4⟩ := trodAll_cons r3
  obtain ⟨rfl, rfl, rfl⟩ := trodAll_nil r4
  obtain rfl : args = #[v0, v1, v2, v3, v4] := by cases args; simp_all
  obtain ⟨rfl, rfl⟩ := trodVars_none hV
  have k0 := h0
  have lt0 : ∀ x ∈ p0, x.block < W.heap.size := by obtain ⟨m, hm⟩ := k0; exact DataW.trod_lt m _ _ _ hm
  have k1 := h1
  have lt1 : ∀ x ∈ p1, x.block < W.heap.size := by obtain ⟨m, hm⟩ := k1; exact DataW.trod_lt m _ _ _ hm
  have k2 := h2
  have lt2 : ∀ x ∈ p2, x.block < W.heap.size := by obtain ⟨m, hm⟩ := k2; exact DataW.trod_lt m _ _ _ hm
  have k3 := h3
  have lt3 : ∀ x ∈ p3, x.block < W.heap.size := by obtain ⟨m, hm⟩ := k3; exact DataW.trod_lt m _ _ _ hm
  have k4 := h4
  have lt4 : ∀ x ∈ p4, x.block < W.heap.size := by obtain ⟨m, hm⟩ := k4; exact DataW.trod_lt m _ _ _ hm
  obtain ⟨x00, x01, x02, x03, n0, rfl⟩ := open_ring (hval 0 27 v0 rfl rfl) h0
  obtain ⟨a1, len1, cap1, rfl⟩ := okWide_slice Tryd.underlying28 (hval 1 28 v1 rfl rfl)
  obtain ⟨z1, w1⟩ := Go.Opn.open_u8s (k := .u8) Tryd.underlying28 Tryd.underlying5 (by kernel_rfl) h1
  obtain ⟨n2, a2, len2, cap2, z2, x20, x21, x22, x23, rfl, w2⟩ := open_box (hval 2 31 v2 rfl rfl) h2
  obtain ⟨n3, a3, len3, cap3, z3, x30, x31, x32, x33, rfl, w3⟩ := open_box (hval 3 31 v3 rfl rfl) h3
  obtain ⟨a4, rfl, _, _, w4⟩ := open_int Tryd.underlying3 (hval 4 3 v4 rfl rfl) h4
  clear hA0 hval0
  refine (walk x00 x01 x02 x03 n0 a1 len1 cap1 z1 n2 a2 len2 cap2 z2 x20 x21 x22 x23 n3 a3 len3 cap3 z3 x30 x31 x32 x33 a4 W w1 w2 w3 w4 (table hL)).mono fun e W' ⟨he, bel⟩ => ?_
  subst he
  exact ⟨_, rfl, _, _, _, [], _, [], hW', trodAll_mk1 (shut_bool Tryd.underlying4 _), (trodAll_cons_mk (Below.trod laidOut (by kernel_rfl) (of_decide_eq_true (by kernel_rfl)) k0 bel lt0) (trodAll_cons_mk (Below.trod laidOut (by kernel_rfl) (of_decide_eq_true (by kernel_rfl)) k1 bel lt1) (trodAll_cons_mk (Below.trod laidOut (by kernel_rfl) (of_decide_eq_true (by kernel_rfl)) k2 bel lt2) (trodAll_cons_mk (Below.trod laidOut (by kernel_rfl) (of_decide_eq_true (by kernel_rfl)) k3 bel lt3) (trodAll_cons_mk (Below.trod laidOut (by kernel_rfl) (of_decide_eq_true (by kernel_rfl)) k4 bel lt4) trodAll_mk0))))), rfl, bel.frame _, fun h => by cases h⟩

noncomputable def laidWorld (os : Os) : World :=
  { World.holding Tryd.prog os ⟨#[], #[], []⟩ with heap := (World.holding Tryd.prog os ⟨#[], #[], []⟩).heap.modify 0 fun
      | .cells _ t frozen => .cells #[.int .i64 16, .int .i64 12, .int .i64 8, .int .i64 7] t frozen
      | o => o }
theorem laid_met (os : Os) : laidMet Tryd.prog Rows.envelopeDoesRow.laid ((laidWorld os).forCall (fun _ _ => 0) ⟨#[], #[.agg #[.int .u32 0, .int .u32 0, .int .u32 0, .int .u32 0, .int .u64 0], .slice none 0 0, .agg #[.int .u64 0, .slice none 0 0, .int .u32 0, .int .u32 0, .int .u32 0, .int .u32 0], .agg #[.int .u64 0, .slice none 0 0, .int .u32 0, .int .u32 0, .int .u32 0, .int .u32 0], .int .i64 0], []⟩).memory :=
  laidMet_of_run' 8 (by kernel_rfl) (by kernel_rfl)
theorem reads (os : Os) {H : Type} (enc : TypeId × Value → H) : ∃ places, DataW.whole enc Tryd.prog ((laidWorld os).forCall (fun _ _ => 0) ⟨#[], #[.agg #[.int .u32 0, .int .u32 0, .int .u32 0, .int .u32 0, .int .u64 0], .slice none 0 0, .agg #[.int .u64 0, .slice none 0 0, .int .u32 0, .int .u32 0, .int .u32 0, .int .u32 0], .agg #[.int .u64 0, .slice none 0 0, .int .u32 0, .int .u32 0, .int .u32 0, .int .u32 0], .int .i64 0], []⟩).memory Tryd.f7.params.toList Rows.envelopeDoesSpec.vars false (#[.agg #[.int .u32 0, .int .u32 0, .int .u32 0, .int .u32 0, .int .u64 0], .slice none 0 0, .agg #[.int .u64 0, .slice none 0 0, .int .u32 0, .int .u32 0, .int .u32 0, .int .u32 0], .agg #[.int .u64 0, .slice none 0 0, .int .u32 0, .int .u32 0, .int .u32 0, .int .u32 0], .int .i64 0] : Array Value).toList 8 = some ([.agg [.agg [.lit (.int .u32 0), .lit (.int .u32 0), .lit (.int .u32 0), .lit (.int .u32 0)], .lit (.int .u64 0)], .nil, .agg [.lit (.int .u64 0), .nil, .agg [.lit (.int .u32 0), .lit (.int .u32 0), .lit (.int .u32 0), .lit (.int .u32 0)]], .agg [.lit (.int .u64 0), .nil, .agg [.lit (.int .u32 0), .lit (.int .u32 0), .lit (.int .u32 0), .lit (.int .u32 0)]], .lit (.int .i64 0)], [], places) :=
  ⟨[], by kernel_rfl⟩

set_option maxRecDepth 100000 in
theorem lifted (os : Os) (started : os.Started) (H : Type) (enc : TypeId × Value → H) (F : Stop.Interp) :
    ReturnsInHanded {} Tryd.checked os 7 .any ((OpenSpec.ofChange Rows.envelopeDoesSpec).preRow enc Tryd.prog Tryd.f7 Rows.envelopeDoesRow.domain false Rows.envelopeDoesRow.laid) (((OpenSpec.ofChange Rows.envelopeDoesSpec).at F).post enc Tryd.prog Tryd.f7 false true false false) := by
  obtain ⟨places, hx⟩ := reads os enc
  refine returnsInHanded_of_row (C := Tryd.checked) (s := OpenSpec.ofChange Rows.envelopeDoesSpec) own started (by kernel_rfl) Tryd.func7
    (witness_row_at (enc := enc) (C := Tryd.checked) false (laidWorld os) #[.agg #[.int .u32 0, .int .u32 0, .int .u32 0, .int .u32 0, .int .u64 0], .slice none 0 0, .agg #[.int .u64 0, .slice none 0 0, .int .u32 0, .int .u32 0, .int .u32 0, .int .u32 0], .agg #[.int .u64 0, .slice none 0 0, .int .u32 0, .int .u32 0, .int .u32 0, .int .u32 0], .int .i64 0] rfl (by kernel_rfl) (by kernel_rfl) (by kernel_rfl)
      (OpenSpec.preRow_of_cond 8 hx (by kernel_rfl) (fun k hk => by cases hk) (by kernel_rfl) (laid_met os))) ?_
  intro W base args ds gs before hval hW _ _ hsz hL _ _
  exact contract H enc W base args ds gs before hval hW hL

theorem said : Rows.EnvelopeDoesSaid :=
  OpenClaim.holds_of_cond 7 Tryd.f7 rfl rfl rfl rfl rfl rfl rfl ⟨rfl, rfl, rfl, rfl, rfl⟩ rfl rfl rfl rfl rfl (by kernel_rfl) Tryd.func7 (by kernel_rfl)
    (of_decide_eq_true (by kernel_rfl)) (by unfold Func.isWrapper; first | (rw [if_pos (by decide +kernel)]; kernel_rfl) | (rw [if_neg (by decide +kernel)]; exact ⟨rfl, rfl⟩))
    (fun os started H enc _ F => by rw [OpenClaim.pre_eq_preRow]; exact lifted os started H enc F)

theorem plain (f : FuncId) (fn : Func) (hf : Tryd.pinned.checked.prog.funcNamed "tansy/tansylaw09.EnvelopeDoes" = some f) (hfn : Tryd.pinned.checked.prog.funcs[f]? = some fn) :
    false = Tryd.pinned.checked.prog.looks [] ∧ ∀ (j : Nat) t, fn.params[j]? = some t → Tryd.pinned.checked.prog.wantsStandIn t = false := by
  obtain rfl : f = 7 := Option.some.inj ((show Tryd.prog.funcNamed "tansy/tansylaw09.EnvelopeDoes" = some 7 by kernel_rfl).symm.trans hf) |>.symm
  obtain rfl : fn = Tryd.f7 := (Option.some.inj (Tryd.func7.symm.trans hfn)).symm
  refine ⟨by kernel_rfl, fun j t ht => ?_⟩
  rw [Tryd.params7] at ht
  have hm : t ∈ [27, 28, 31, 31, 3] := by simpa using Array.mem_of_getElem? ht
  have hall : ([27, 28, 31, 31, 3].all fun u => !Tryd.prog.wantsStandIn u) = true := by kernel_rfl
  exact (show Tryd.prog.wantsStandIn t = false by simpa using List.all_eq_true.1 hall t hm)

/-- ████ THE STATEMENT: THE TIED CARD ████ -/
theorem card : Rows.EnvelopeDoesCardSaid :=
  Claim7.holds_tied_plain_at .later [] _ _ _ _ said (fun _ h => by cases h) (by kernel_rfl) (fun _ h => by cases h) envelopeDoes_row_tie rfl ⟨rfl, rfl⟩ (by kernel_rfl) rfl plain (by kernel_rfl)
#print axioms card
end Go.Proofs.YtekiloagckkneaaDoor.envelopeDoes
