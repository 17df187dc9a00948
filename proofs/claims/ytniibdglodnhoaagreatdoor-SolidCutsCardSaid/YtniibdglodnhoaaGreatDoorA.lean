/- '==' on arrays of integers; strings of bytes. -/
import Derived.Test.YtniibdglodnhoaaGreatDoorO
import Derived.Test.YtniibdglodnhoaaGreatDoorB
namespace Go.Eq
open Go.RowKit Go.Bv

section
variable {P : Program} (w : World)

theorem run_part_int {e : TypeId} {k : IntKind} (he : P.underlying e = some (.int k)) (cs : Array Value) (i : Nat) (v : Value) (hv : cs[i]? = some v) : (part e cs i).run P w = .ok v w := by
  have hagg : (isAgg e).run P w = .ok false w := by
    unfold isAgg
    rw [Sem.run_bind, run_underlying he]
    rfl
  unfold part
  rw [Sem.run_bind, hagg, Result.andThen_ok]
  simp [hv]

theorem run_eq_ints (d : Nat) {t e : TypeId} {n : Nat} {k : IntKind} (ht : P.underlying t = some (.array n e)) (he : P.underlying e = some (.int k)) (hs : (P.info? e).map (·.size) = some 1)
    (ms ns : List Int) (hm : ms.length = n) (hn : ns.length = n) :
    (Op.equalIn (d + 2) t (.agg (ms.map (Value.int k)).toArray) (.agg (ns.map (Value.int k)).toArray)).run P w = .ok (decide (ms = ns)) w := by
  obtain ⟨inf, hinf, hsz⟩ := Option.map_eq_some_iff.1 hs
  rw [Op.equalIn]
  have hso : (sizeOf e).run P w = .ok 1 w := by simp [sizeOf, typeInfo, hinf, hsz]
  rw [Sem.run_bind, run_underlying ht, Result.andThen_ok]
  dsimp only
  rw [Sem.run_bind, hso, Result.andThen_ok]
  simp only [Std.Legacy.Range.forIn_eq_forIn_range', Std.Legacy.Range.size, Nat.sub_zero, Nat.add_sub_cancel, Nat.div_one, Nat.mul_one]
  have key : ∀ m j, j + m = n → (forIn (m := Sem) (List.range' j m 1) ((none : Option Bool), ()) (fun i (__s : Option Bool × Unit) => do
              let __do_lift ← part e (ms.map (Value.int k)).toArray i
              let __do_lift_1 ← part e (ns.map (Value.int k)).toArray i
              let __do_lift ← Op.equalIn (d + 1) e __do_lift __do_lift_1
              if (!__do_lift) = true then pure (ForInStep.done (some false, ())) else pure (ForInStep.yield (none, ())))).run P w = .ok (if ms.drop j = ns.drop j then (none, ()) else (some false, ())) w := by
    intro m
    induction m with
    | zero =>
      intro j hj
      have h1 : ms.drop j = [] := List.drop_of_length_le (by omega)
      have h2 : ns.drop j = [] := List.drop_of_length_le (by omega)
      simp [h1, h2]
    | succ m ih =>
      intro j hj
      have hj1 : j < ms.length := by omega
      have hj2 : j < ns.length := by omega
      rw [List.range'_succ, List.forIn_cons]
      rw [Sem.run_bind, Sem.run_bind, run_part_int w he _ j (.int k ms[j]) (by simp [hj1]), Result.andThen_ok, Sem.run_bind, run_part_int w he _ j (.int k ns[j]) (by simp [hj2]), Result.andThen_ok,
        Sem.run_bind, run_equalIn_int w d e k k _ _ he, Result.andThen_ok]
      have hd : (ms.drop j = ns.drop j) ↔ (ms[j] = ns[j] ∧ ms.drop (j + 1) = ns.drop (j + 1)) := by
        rw [List.drop_eq_getElem_cons hj1, List.drop_eq_getElem_cons hj2, List.cons.injEq]
      by_cases hq : ms[j] = ns[j]
      · rw [hq]
        simp only [beq_self_eq_true, Bool.not_true, Bool.false_eq_true, if_false, Sem.run_pure, Result.andThen_ok]
        rw [ih (j + 1) (by omega)]
        simp only [hd, hq, true_and]
      · have hb : (ms[j] == ns[j]) = false := by simpa using hq
        have hn' : ¬ (ms.drop j = ns.drop j) := fun h => hq (hd.1 h).1
        rw [if_neg hn']
        simp [hb]
  have k0 := key n 0 (by omega)
  simp only [List.drop_zero] at k0
  rw [Sem.run_bind, k0, Result.andThen_ok]
  by_cases hq : ms = ns
  · simp [hq]
  · simp [hq]

theorem run_eql_ints {t e : TypeId} {n : Nat} {k : IntKind} (ht : P.underlying t = some (.array n e)) (he : P.underlying e = some (.int k)) (hs : (P.info? e).map (·.size) = some 1)
    (ms ns : List Int) (hm : ms.length = n) (hn : ns.length = n) :
    (binOp .eql t (.agg (ms.map (Value.int k)).toArray) (.agg (ns.map (Value.int k)).toArray)).run P w = .ok (.bool (decide (ms = ns))) w := by
  have := run_eq_ints (P := P) w 9998 ht he hs ms ns hm hn
  simp [binOp, Op.equal, Op.maxDepth, this]
theorem run_neq_ints {t e : TypeId} {n : Nat} {k : IntKind} (ht : P.underlying t = some (.array n e)) (he : P.underlying e = some (.int k)) (hs : (P.info? e).map (·.size) = some 1)
    (ms ns : List Int) (hm : ms.length = n) (hn : ns.length = n) :
    (binOp .neq t (.agg (ms.map (Value.int k)).toArray) (.agg (ns.map (Value.int k)).toArray)).run P w = .ok (.bool (!decide (ms = ns))) w := by
  have := run_eq_ints (P := P) w 9998 ht he hs ms ns hm hn
  simp [binOp, Op.equal, Op.maxDepth, this]

/-- octets as integers -/
theorem u8s_ints (b : List (BitVec 8)) : u8s b = (b.map fun x => (x.toNat : Int)).map (Value.int .u8) := by simp [u8s]
theorem u8i_inj {a b : List (BitVec 8)} : (a.map fun x => (x.toNat : Int)) = (b.map fun x => (x.toNat : Int)) ↔ a = b := by
  constructor
  · intro h
    refine (List.map_inj_right fun x y hxy => ?_).1 h
    exact BitVec.eq_of_toNat_eq (by omega)
  · intro h; rw [h]
def u32s (b : List (BitVec 32)) : List Value := b.map fun x => .int .u32 (x.toNat : Int)
theorem u32s_ints (b : List (BitVec 32)) : u32s b = (b.map fun x => (x.toNat : Int)).map (Value.int .u32) := by simp [u32s]
theorem u32i_inj {a b : List (BitVec 32)} : (a.map fun x => (x.toNat : Int)) = (b.map fun x => (x.toNat : Int)) ↔ a = b := by
  constructor
  · intro h
    refine (List.map_inj_right fun x y hxy => ?_).1 h
    exact BitVec.eq_of_toNat_eq (by omega)
  · intro h; rw [h]

theorem run_neq_u8 {t e : TypeId} {n : Nat} (ht : P.underlying t = some (.array n e)) (he : P.underlying e = some (.int .u8)) (hs : (P.info? e).map (·.size) = some 1)
    (a b : List (BitVec 8)) (ha : a.length = n) (hb : b.length = n) : (binOp .neq t (.agg (u8s a).toArray) (.agg (u8s b).toArray)).run P w = .ok (.bool (!decide (a = b))) w := by
  rw [u8s_ints, u8s_ints, run_neq_ints w ht he hs _ _ (by simpa using ha) (by simpa using hb)]
  simp only [u8i_inj]
theorem run_eql_u32 {t e : TypeId} {n : Nat} (ht : P.underlying t = some (.array n e)) (he : P.underlying e = some (.int .u32)) (hs : (P.info? e).map (·.size) = some 1)
    (a b : List (BitVec 32)) (ha : a.length = n) (hb : b.length = n) : (binOp .eql t (.agg (u32s a).toArray) (.agg (u32s b).toArray)).run P w = .ok (.bool (decide (a = b))) w := by
  rw [u32s_ints, u32s_ints, run_eql_ints w ht he hs _ _ (by simpa using ha) (by simpa using hb)]
  simp only [u32i_inj]
theorem run_neq_u32 {t e : TypeId} {n : Nat} (ht : P.underlying t = some (.array n e)) (he : P.underlying e = some (.int .u32)) (hs : (P.info? e).map (·.size) = some 1)
    (a b : List (BitVec 32)) (ha : a.length = n) (hb : b.length = n) : (binOp .neq t (.agg (u32s a).toArray) (.agg (u32s b).toArray)).run P w = .ok (.bool (!decide (a = b))) w := by
  rw [u32s_ints, u32s_ints, run_neq_ints w ht he hs _ _ (by simpa using ha) (by simpa using hb)]
  simp only [u32i_inj]

/-- 'string(b)' -/
theorem run_bytes_string {src dst e : TypeId} (hs : P.underlying src = some (.slice e)) (he : P.underlying e = some (.int .u8)) (hd : P.underlying dst = some .string)
    {a : Option Addr} {n cap : Nat} {bs : List (BitVec 8)} (hR : Go.Own.Rd w 1 a n cap (u8s bs)) : (convert src dst (.slice a n cap)).run P w = .ok (.string (strB bs)) w := by
  have hlen : bs.length = n := by have := hR.len; rw [u8s_length] at this; omega
  cases a with
  | none =>
    obtain ⟨rfl, rfl⟩ := hR.nil rfl
    have : bs = [] := List.eq_nil_of_length_eq_zero hlen
    subst this
    rw [run_convert_bytes_nil w src e hs he 0 0 dst hd]
    rfl
  | some ad =>
    have hl : (loadCells ad n).run P w = .ok (u8s bs).toArray w := by
      have := run_loadCells_list (P := P) w ad (u8s bs) (hR.cells rfl)
      rwa [u8s_length, hlen] at this
    have hl' : (loadCells ad n).run P w = .ok ((bs.map fun x => (x.toNat : Int)).map (Value.int .u8)).toArray w := by rw [hl, u8s_ints]
    rw [run_convert_bytes_string w src dst e _ n cap hs he hd, run_bytesToString w _ n cap _ hl', foldl_push_bytes]
    have hm : (bs.map fun x => (x.toNat : Int)).map (fun n => UInt8.ofNat n.toNat) = bs.map fun x => UInt8.ofBitVec x := by
      rw [List.map_map]
      refine List.map_congr_left fun x _ => ?_
      apply UInt8.eq_of_toBitVec_eq
      simp
    rw [hm]
    unfold strB
    simp [ByteArray.empty, ByteArray.emptyWithCapacity]
    rfl

theorem strB_eq (a b : List (BitVec 8)) : (strB a).toList = (strB b).toList ↔ a = b := by
  constructor
  · intro h
    refine strB_inj ?_
    rw [ByteArray.toList_eq, ByteArray.toList_eq] at h
    exact congrArg (fun l => (⟨l.toArray⟩ : ByteArray)) h
  · intro h; rw [h]

theorem strB_beq (a b : List (BitVec 8)) : ((strB a).toList == (strB b).toList) = decide (a = b) := by
  rw [Bool.eq_iff_iff]
  simp [strB_eq]
theorem run_eql_str (t : TypeId) (a b : List (BitVec 8)) : (binOp .eql t (.string (strB a)) (.string (strB b))).run P w = .ok (.bool (decide (a = b))) w := by
  simp [binOp, Op.stringOp, strB_beq]
theorem run_neq_str (t : TypeId) (a b : List (BitVec 8)) : (binOp .neq t (.string (strB a)) (.string (strB b))).run P w = .ok (.bool (!decide (a = b))) w := by
  simp [binOp, Op.stringOp, strB_beq]
end
end Go.Eq
