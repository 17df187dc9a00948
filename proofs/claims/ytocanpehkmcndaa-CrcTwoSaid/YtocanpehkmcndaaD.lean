/- Walks: crc.octets, Seal, Open. -/
import Derived.Test.YtocanpehkmcndaaC
import Derived.Test.YtocanpehkmcndaaA
namespace Go.Proofs.Ytocanpehkmcndaa
open Go.RowKit Go.Own Go.Bv Go.Ord Go.Eq

theorem ia4z : (Try.prog.info? 39).bind (·.zero) = some (.agg #[.int .u8 0, .int .u8 0, .int .u8 0, .int .u8 0]) := by kernel_rfl
theorem ia4s : (Try.prog.info? 39).map (·.size) = some 4 := by kernel_rfl
theorem ia4u : (Try.prog.underlying 39).map (fun d => match d with | .struct _ | .array _ _ => true | _ => false) = some true := by kernel_rfl
theorem iu8s : (Try.prog.info? 5).map (·.size) = some 1 := by kernel_rfl
theorem eu8 : Elem Try.prog 22 5 (.int .u8 0) 1 1 := ⟨Try.underlying22, by kernel_rfl, rfl, by decide⟩

def oct4C (s : BitVec 32) : Array Value := (u8s (octs4 s)).toArray
theorem oct4C_size (s : BitVec 32) : (oct4C s).size = 4 := rfl
set_option maxHeartbeats 1000000 in
set_option maxRecDepth 100000 in
theorem octets_calls (s : BitVec 32) (w : World) :
    Calls Try.prog 19 #[.int .u32 (s.toNat : Int)] w fun e w' => e = .returned (.agg (oct4C s)) ∧ Below w.heap.size w w' := by
  have hO := Own.start w
  generalize hW : w = wn at hO ⊢
  clear hW w
  go_enter Try.func19, Try.ntmps19
  go_wp2_with ((with_reducible refine gAlloc ?_); refine own_alloc hO 39 _ ia4z ?_; clear hO; intro b w1 hO)
  refine wp_loop_rounds 5 ?_
  go_wp2_with (first
    | (with_reducible refine rounds_on ?_)
    | ((with_reducible refine gStore ?_); refine own_store hO 0 5 _ _ b _ _ 39 _ rfl rfl rfl (by simp [Value.cells]) iu8s rfl ?_; clear hO; intro w2 hO; simp [go_sem] at hO)
    | ((with_reducible refine gStore ?_); refine own_storeAll hO 0 39 _ _ b _ _ 39 _ rfl rfl rfl rfl ia4s rfl (by rfl) ?_; clear hO; intro w3 hO; simp [go_sem] at hO)
    | ((with_reducible refine gLoad ?_); refine own_loadAll 39 _ b _ 39 (0,0) (hO.blk 0 rfl) rfl ia4u ia4s ?_))
  refine bodyPost_ret (results_cell_row rfl _ _ b 39 _ (0,0) _ rfl (hO.blk 0 rfl) Try.underlying39 rfl ia4s) rfl ⟨?_, hO.below⟩
  unfold oct4C
  rw [octs4_eq]

theorem oct4_rd {w0 w : World} {L : List Res} (hO : Own w0 w L) (i : Nat) {b : Nat} {s : BitVec 32} {t : TypeId} (hi : L[i]? = some (.blk b (.cells (oct4C s) t (0, 0)))) :
    Rd w 1 (some ⟨b, 0, none⟩) 4 4 (u8s (octs4 s)) := by
  refine ⟨rfl, Nat.le_refl _, by simp [maxLen], fun h => by simp at h, fun _ => ⟨b, 0, rfl, lt_of_block (hO.blk i hi), fun j hj => ?_⟩⟩
  rw [Nat.zero_add, cell_of_row w b j _ _ _ (hO.blk i hi)]
  simp [oct4C]

set_option maxHeartbeats 1000000 in
set_option maxRecDepth 100000 in
theorem seal_calls (a : Option Addr) (n cap : Nat) (bs : List (BitVec 8)) (w : World) (hR : Rd w 1 a n cap (u8s bs)) (hn : n ≤ 140737488351232) :
    Calls Try.prog 10 #[.slice a n cap] w fun e w' => ∃ a' c', e = .returned (.slice a' (n + 4) c') ∧ Below w.heap.size w w' ∧ w'.ownsRow w.heap.size 5 1 (.slice a' (n + 4) c') (n + 4) (u8s (bs ++ octs4 (Crc.sum bs))) := by
  have hO := Own.start w
  have hR' := Lib.hid hR
  clear hR
  generalize hW : w = wn at hO hR' ⊢
  clear hW w
  go_enter Try.func10, Try.ntmps10
  go_wp2_with (first
    | (go_at_call 9; refine (sum_calls _ _ _ bs _ (hO.rd hR'.out)).mono ?_; rintro e w1 ⟨rfl, hb⟩; replace hO := hO.call hb; clear hb)
    | (go_at_call 19; refine (octets_calls _ _).mono ?_; rintro e w2 ⟨rfl, hb⟩; replace hO := hO.call hb; clear hb)
    | ((with_reducible refine gAlloc ?_); refine own_alloc hO 39 _ ia4z ?_; clear hO; intro b w3 hO)
    | ((with_reducible refine gStore ?_); refine own_storeAll hO 0 39 _ _ b _ (oct4C (Crc.sum bs)) 39 _ rfl rfl rfl rfl ia4s rfl (by rfl) ?_; clear hO; intro w4 hO))
  refine wp_region_text (by kernel_rfl) (by kernel_rfl) ?_
  replace hO := hO.drew
  generalize w4.drew = w5 at hO ⊢
  go_wp2_with (first
    | ((with_reducible refine gI ?_); refine wpI_step rfl rfl (by first | exact ok_int rfl rfl | exact ok_bool rfl rfl | exact ok_str rfl rfl | exact ok_conv rfl | rfl) ?_; intro _ _) | ((with_reducible refine gI ?_); first | refine wpI_skip rfl ?_ | refine wpI_want rfl ?_) | (with_reducible refine gOnly0 ?_) | (with_reducible refine wpI_nil ?_)
    | ((with_reducible refine gMake ?_); refine own_make0 hO _ _ 22 eu8 (n + 4) rfl rfl rfl (by omega) (by simp [maxLen]; omega) ?_; clear hO; intro g w6 hO)
    | ((with_reducible refine gAppend ?_); refine own_append hO 0 _ _ 22 eu8 rfl rfl rfl (hO.rd hR'.out) (u8s_one _) n (by omega) (by simp [maxLen]; omega) (by omega) ?_; clear hO; intro a1 c1 w7 hO)
    | ((with_reducible refine gAppend ?_); refine own_append hO 0 _ _ 22 eu8 rfl rfl rfl (oct4_rd hO 1 rfl) (u8s_one _) (n + 4) rfl (by simp [maxLen]; omega) (by omega) ?_; clear hO; intro a2 c2 w8 hO))
  go_ret
  refine ⟨_, _, rfl, hO.below, ?_⟩
  have := hO.row 0 rfl
  simpa [u8s_append] using this

theorem rd_sub {w : World} {a : Option Addr} {n cap : Nat} {xs : List Value} (h : Rd w 1 a n cap xs) (i m : Nat) (hi : i + m ≤ n) (hm : m ≠ 0) :
    ∃ b off, a = some ⟨b, off, none⟩ ∧ Rd w 1 (some ⟨b, off + i, none⟩) m (cap - i) ((xs.drop i).take m) := by
  obtain ⟨b, off, ha, hb, hc⟩ := h.at' (by omega)
  have h1 := h.len
  have h2 := h.le
  have h3 := h.max
  refine ⟨b, off, ha, ⟨by simp; omega, by omega, by omega, fun h => by simp at h, fun _ => ⟨b, off + i, rfl, hb, fun j hj => ?_⟩⟩⟩
  rw [Nat.add_assoc, hc (i + j) (by omega), List.getElem?_take_of_lt (by omega), List.getElem?_drop]

def openOk (bs : List (BitVec 8)) : Bool := decide (4 ≤ bs.length ∧ octs4 (Crc.sum (bs.take (bs.length - 4))) = bs.drop (bs.length - 4))
def openT (bs : List (BitVec 8)) : List (BitVec 8) := if openOk bs then bs.take (bs.length - 4) else []
def openE (bs : List (BitVec 8)) : Int := if bs.length < 4 then 2 else if openOk bs then 0 else 7

theorem oct4_eq (s : BitVec 32) (t : List (BitVec 8)) : (oct4C s = (u8s t).toArray) ↔ octs4 s = t := by
  unfold oct4C
  constructor
  · intro h; exact u8s_inj (by simpa using h)
  · intro h; rw [h]

theorem i8agg : aggT Try.prog 39 = some true := by kernel_rfl
theorem fl4 : flat Try.prog 39 = false := by kernel_rfl

/-- what comes back: new octets, and an error's number -/
def RetSE (w : World) (xs : List (BitVec 8)) (E : Int) (e : Ending) (w' : World) : Prop :=
  ∃ a' c', e = .returned (.tuple #[.slice a' xs.length c', .int .i64 E]) ∧ Below w.heap.size w w' ∧ w'.ownsRow w.heap.size 5 1 (.slice a' xs.length c') xs.length (u8s xs)

set_option maxHeartbeats 2000000 in
set_option maxRecDepth 100000 in
theorem open_calls (a : Option Addr) (n cap : Nat) (bs : List (BitVec 8)) (w : World) (hR : Rd w 1 a n cap (u8s bs)) (hn : n ≤ 140737488351232) :
    Calls Try.prog 11 #[.slice a n cap] w (RetSE w (openT bs) (openE bs)) := by
  have hO := Own.start w
  have hlen : bs.length = n := by have := hR.len; rw [u8s_length] at this; omega
  by_cases h4 : n < 4
  · have e1 : openE bs = 2 := by simp [openE, hlen, h4]
    have e2 : openT bs = [] := by simp [openT, openOk, hlen]; omega
    rw [e1, e2]
    generalize hW : w = wn at hO ⊢
    clear hR hlen e1 e2 hW w
    go_enter Try.func11, Try.ntmps11
    go_wp2
    go_ret2
    exact ⟨none, 0, rfl, hO.below, World.ownsRow_nil _ _ _ _⟩
  · obtain ⟨m, rfl⟩ : ∃ m, n = m + 4 := ⟨n - 4, by omega⟩
    have hm4 : bs.length - 4 = m := by omega
    obtain ⟨B, hB⟩ : ∃ B : Bool, decide (octs4 (Crc.sum (bs.take m)) = bs.drop m) = B := ⟨_, rfl⟩
    have e1 : openE bs = if B = true then 0 else 7 := by
      unfold openE openOk
      rw [if_neg (by omega), hm4, ← hB]
      simp [hlen]
    have e2 : openT bs = if B = true then bs.take m else [] := by rw [← hB]; simp [openT, openOk, hlen]
    rw [e1, e2]
    have hcap : ¬ cap = m := by have := hR.le; omega
    have hle : m + 4 ≤ cap := hR.le
    have HRT : Hid (Rd w 1 a m cap (u8s (bs.take m))) := by
      have := hR.take m (by omega)
      rw [Nat.mul_one] at this
      rw [u8s_take]; exact this
    obtain ⟨b, off, rfl, hRD⟩ := rd_sub hR m 4 (by omega) (by omega)
    have hd : ((u8s bs).drop m).take 4 = u8s (bs.drop m) := by
      rw [u8s_drop]
      exact List.take_of_length_le (by simp [u8s_length]; omega)
    rw [hd] at hRD
    have HRD := Lib.hid hRD
    have hl4 : (bs.drop m).length = 4 := by simp; omega
    have HT : Hid ((bs.take m).length = m) := by show _ = _; simp; omega
    have hneq : ∀ w, (binOp .neq 39 (.agg (oct4C (Crc.sum (bs.take m)))) (.agg (u8s (bs.drop m)).toArray)).run Try.prog w = .ok (.bool (!B)) w := by
      intro w; rw [← hB]; exact run_neq_u8 w Try.underlying39 Try.underlying5 iu8s _ _ rfl hl4
    have hgrd : ∀ w, (eqGuard .neq 39 (.tmp 17) (.tmp 23) (.agg (oct4C (Crc.sum (bs.take m)))) (.agg (u8s (bs.drop m)).toArray)).run Try.prog w = .ok () w :=
      fun w => run_eqGuard_agg _ _ _ _ _ _ _ (by kernel_rfl)
    have hmm : m ≤ 140737488351232 := by omega
    have hsa : ∀ a c w, (Instr.arrayAt 39 (.slice a 4 c)).run Try.prog w = .ok (.pointer a) w := fun a c w => run_arrayAt Try.underlying39 a 4 c (Nat.le_refl _) w
    have hi4 : (Try.prog.info? 39).map (·.size) = some (u8s (bs.drop m)).length := by rw [u8s_length, hl4]; exact ia4s
    have HI4 := Lib.hid hi4
    generalize hW : w = wn at hO HRT HRD ⊢
    clear e1 e2 hm4 hlen hd hRD hR hl4 h4 hi4 hW w hB
    cases B
    all_goals
      simp only [Bool.false_eq_true, if_true, if_false]
      go_enter Try.func11, Try.ntmps11
      go_wp2_with (first
        | ((with_reducible refine gBuild ?_); refine own_build0 hO 22 eu8 ?_; clear hO; intro g w1 hO)
        | ((with_reducible refine gAppend ?_); refine own_append hO 0 _ _ 22 eu8 rfl rfl rfl (hO.rd HRT.out) (u8s_one _) m (by omega) (by simp [maxLen]; omega) (by omega) ?_; clear hO; intro a1 c1 w2 hO))
      refine wp_region_textS (fun w' => Below wn.heap.size wn w') (fun op => match op with | .load _ (.tmp 22) => true | _ => false) (by kernel_rfl) (by kernel_rfl) hO.drew.below ?_
      replace hO := hO.drew
      generalize World.drew _ = w3 at hO ⊢
      go_wp2_with (first
        | (go_at_call 9; refine (sum_calls _ _ _ (bs.take m) _ (hO.rdAt 0 rfl)).mono ?_; rintro e w4 ⟨rfl, hb⟩; replace hO := hO.call hb; clear hb)
        | (go_at_call 19; refine (octets_calls _ _).mono ?_; rintro e w5 ⟨rfl, hb⟩; replace hO := hO.call hb; clear hb)
        | ((with_reducible refine gI ?_); refine wpI_step rfl rfl (ok_agg fl4) ?_; intro _ _)
        | ((with_reducible refine gI ?_); refine wpI_steady _ rfl rfl rfl (fun w' hS => run_load_many (u8s (bs.drop m)) rfl i8agg HI4.out ((HRD.out.below hS).cells rfl)) ?_)
        | ((with_reducible refine gI ?_); refine wpI_step rfl rfl (by first | exact ok_int rfl rfl | exact ok_bool rfl rfl | exact ok_str rfl rfl | exact ok_conv rfl | rfl) ?_; intro _ _) | ((with_reducible refine gI ?_); first | refine wpI_skip rfl ?_ | refine wpI_want rfl ?_) | ((with_reducible refine gOnly ?_ ?_); exact hO.below) | (with_reducible refine wpI_nil ?_))
      go_ret2
      first
        | exact ⟨none, 0, rfl, hO.below, World.ownsRow_nil _ _ _ _⟩
        | exact ⟨a1, c1, by rw [HT.out]; rfl, hO.below, by rw [HT.out]; exact hO.row 0 rfl⟩
end Go.Proofs.Ytocanpehkmcndaa
