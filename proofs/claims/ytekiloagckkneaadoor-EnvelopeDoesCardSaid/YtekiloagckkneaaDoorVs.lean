/- Walks: envelope's hide, Seal, Open. -/
import Derived.Test.YtekiloagckkneaaDoorVh
namespace Go.Proofs.YtekiloagckkneaaDoor
open Go.RowKit Go.Own Go.Bv Go.Ord Go.Eq

theorem wrap_u64' (n : Int) : IntKind.u64.wrap n = n % 18446744073709551616 := by simp [IntKind.wrap, IntKind.bits, IntKind.signed]
theorem ibz : (Tryd.prog.info? 31).bind (·.zero) = some (.agg (boxC 0#64 (.slice none 0 0) St.zero)) := by kernel_rfl
theorem irz : (Tryd.prog.info? 27).bind (·.zero) = some (.agg (ringC St.zero 0#64)) := by kernel_rfl
theorem ibs (n : BitVec 64) (v : Value) (s : St) : (Tryd.prog.info? 31).map (·.size) = some (boxC n v s).size := (by kernel_rfl : (Tryd.prog.info? 31).map (·.size) = some 6)
theorem irs (s : St) (n : BitVec 64) : (Tryd.prog.info? 27).map (·.size) = some (ringC s n).size := (by kernel_rfl : (Tryd.prog.info? 27).map (·.size) = some 5)

def hidK (b s : List (BitVec 8)) (k : Nat) : List (BitVec 8) := St.xors (b.take k) s ++ s.drop k
theorem hidK_zero (b s : List (BitVec 8)) : hidK b s 0 = s := by simp [hidK, St.xors]
theorem hidK_all (b s : List (BitVec 8)) (h : s.length = b.length) : hidK b s b.length = St.xors b s := by
  unfold hidK
  rw [List.take_length, List.drop_of_length_le (by omega), List.append_nil]
theorem hidK_length (b s : List (BitVec 8)) (k : Nat) (h : s.length = b.length) (hk : k ≤ b.length) : (hidK b s k).length = b.length := by
  unfold hidK St.xors
  simp; omega
theorem hidK_get (b s : List (BitVec 8)) (k : Nat) (h : s.length = b.length) (hk : k < b.length) : (hidK b s k)[k]? = some (s[k]'(by omega)) := by
  unfold hidK St.xors
  rw [List.getElem?_append_right (by simp; omega)]
  simp only [List.length_zipWith, List.length_take]
  rw [List.getElem?_drop, show k + (k - min (min k b.length) s.length) = k by omega]
  exact List.getElem?_eq_getElem _
theorem hidK_next (b s : List (BitVec 8)) (k : Nat) (h : s.length = b.length) (hk : k < b.length) : hidK b s (k + 1) = (hidK b s k).set k (s[k]'(by omega) ^^^ b[k]) := by
  apply List.ext_getElem?
  intro i
  rw [List.getElem?_set]
  unfold hidK St.xors
  have hl : ∀ k, k ≤ b.length → (List.zipWith (· ^^^ ·) (b.take k) s).length = k := fun k hk => by simp; omega
  by_cases hik : k = i
  · subst hik
    rw [if_pos rfl, if_pos (by rw [List.length_append, hl k (by omega)]; simp; omega)]
    rw [List.getElem?_append_left (by rw [hl (k + 1) (by omega)]; omega), List.getElem?_zipWith, List.getElem?_take_of_lt (by omega), List.getElem?_eq_getElem hk, List.getElem?_eq_getElem (show k < s.length by omega)]
    simp [BitVec.xor_comm]
  · rw [if_neg hik]
    by_cases hlt : i < k
    · rw [List.getElem?_append_left (by rw [hl (k + 1) (by omega)]; omega), List.getElem?_append_left (by rw [hl k (by omega)]; omega), List.getElem?_zipWith, List.getElem?_zipWith, List.getElem?_take_of_lt (by omega), List.getElem?_take_of_lt (by omega)]
    · rw [List.getElem?_append_right (by rw [hl (k + 1) (by omega)]; omega), List.getElem?_append_right (by rw [hl k (by omega)]; omega), hl (k + 1) (by omega), hl k (by omega), List.getElem?_drop, List.getElem?_drop]
      congr 1
      omega
theorem u8s_set (l : List (BitVec 8)) (k : Nat) (x : BitVec 8) : u8s (l.set k x) = (u8s l).set k (.int .u8 (x.toNat : Int)) := by simp [u8s, List.map_set]

set_option maxHeartbeats 2000000 in
set_option maxRecDepth 100000 in
theorem hide_ok (key : St) (n : BitVec 64) (a : Option Addr) (len cap : Nat) (b : List (BitVec 8)) (w : World) (hR : Rd w 1 a len cap (u8s b)) (hl : len ≤ 65536) (hT : Turns w) :
    Calls Tryd.prog 25 #[.agg key.C, .int .u64 (n.toNat : Int), .slice a len cap] w (BkRet w (key.hide n b) len) := by
  have hO := Own.start w
  have hbl : b.length = len := by have := hR.len; rw [u8s_length] at this; omega
  obtain ⟨s, hs⟩ : ∃ s, key.stream n len = s := ⟨_, rfl⟩
  have hsl : s.length = b.length := by rw [← hs, St.stream_length, hbl]
  have hX : key.hide n b = hidK b s len := by rw [← hbl, hidK_all b s hsl, ← hs, ← hbl]; rfl
  have g1 := fun w hT => stream_ok key n len hl w hT
  rw [hs] at g1
  unfold BkRet at g1
  rw [hX]
  have G1 := Lib.hid g1
  have HR := Lib.hid hR
  have HT := Lib.hid hT
  have HBL := Lib.hid hbl
  have HSL := Lib.hid hsl
  clear hT hR g1 hs hX hbl hsl
  generalize hW : w = wn at hO HT HR ⊢
  clear hW w
  go_enter Tryd.func25, Tryd.ntmps25
  go_wp2_with (first
    | ((with_reducible refine gBox ?_); first | (refine bxA hO rfl ?_; clear hO; intro bk ww hO) | (refine bx1 hO rfl rfl ?_; clear hO; intro bk ww hO))
    | ((with_reducible refine gLoad ?_); first | refine ldX hO 0 rfl rfl (tA rfl) (tS rfl) ?_ | refine ldC hO 0 rfl rfl (tA rfl) rfl ?_)
    | (go_at_call 14; refine (G1.out _ (HT.out.own hO)).mono ?_; rintro e ww ⟨g, C, rfl, hb, hh, hC⟩; replace hO := hO.add hb hh; clear hb hh))
  replace hO : Own wn _ [.blk g (.cells C 5 (0,0)), .blk bk (.cells key.C 24 (0,0))] := hO
  go_loopg [10, 11, 25] len (fun m s10 s11 c wr => ∃ (k : Nat) (D : Array Value), m = len - k ∧ k ≤ len ∧ c = .int .i64 k ∧ D.toList.take len = u8s (hidK b s k) ∧ Own wn wr [.blk g (.cells D 5 (0,0)), .blk bk (.cells key.C 24 (0,0))])
  case atStart => exact ⟨0, C, rfl, by omega, rfl, by rw [hidK_zero]; exact hC, hO⟩
  case round =>
    obtain ⟨k, D, rfl, hk, rfl, hD, hO1⟩ := hrel
    clear hO hC
    have hO := hO1
    clear hO1
    by_cases hlt : k < len
    · have hb0 : decide ((k : Int) < (len : Int)) = true := by simp; omega
      have hkb : k < b.length := by rw [HBL.out]; exact hlt
      have HN := Lib.hid (hidK_next b s k HSL.out hkb)
      have hg := congrArg (fun l => (u8s l)[k]?) (hidK_next b s k HSL.out hkb)
      clear hg
      have hv : D.toList[k]? = some (.int .u8 ((s[k]'(by rw [HSL.out]; exact hkb)).toNat : Int)) := by
        have h1 := congrArg (·[k]?) hD
        simp only [List.getElem?_take_of_lt hlt] at h1
        rw [h1]
        unfold u8s
        rw [List.getElem?_map, hidK_get b s k HSL.out hkb]; rfl
      have HV := Lib.hid hv
      have hsz : k < D.size := by
        have := (List.getElem?_eq_some_iff.1 hv).1
        simpa using this
      have HB := Lib.hid (u8s_get b k hkb)
      obtain ⟨b0, off, rfl⟩ := HR.out.place (by omega)
      have HD := Lib.hid hD
      generalize s[k]'(by rw [HSL.out]; exact hkb) = x at *
      generalize b[k] = y at *
      have e := xor8 x y
      generalize x ^^^ y = z at *
      clear hv hD
      go_wp2_with (first
        | ((with_reducible refine gLoad ?_); first | refine ldC hO 0 rfl rfl (tA rfl) HV.out ?_ | refine ld_rd (hO.rd HR.out) rfl (HB.out) (tA rfl) ?_)
        | ((with_reducible refine gStore ?_); refine stC hO 0 rfl rfl rfl hsz rfl (tS rfl) ?_; clear hO; intro ww hO))
      go_roundg (len - (k + 1))
      case measure => omega
      case rel =>
        refine ⟨k + 1, _, rfl, by omega, by go_num, ?_, hO⟩
        rw [HN.out, u8s_set, ← HD.out, Array.toList_setIfInBounds, List.take_set]
    · have hb0 : decide ((k : Int) < (len : Int)) = false := by simp; omega
      obtain rfl : k = len := by omega
      have HD := Lib.hid hD
      clear hD
      go_wp2
      go_ret2
      exact ⟨g, D, rfl, hO.below, hO.at 0 rfl, HD.out⟩

set_option maxHeartbeats 2000000 in
set_option maxRecDepth 100000 in
theorem seal_ok (key : St) (n : BitVec 64) (a : Option Addr) (len cap : Nat) (b : List (BitVec 8)) (w : World) (hR : Rd w 1 a len cap (u8s b)) (hl : len ≤ 65536) (hn : n ≠ 18446744073709551615#64) (hT : Turns w) :
    Calls Tryd.prog 10 #[.agg (ringC key n), .slice a len cap] w fun e w' => ∃ g C, e = .returned (.tuple #[.agg (boxC n (.slice (some ⟨g, 0, none⟩) len len) (key.tag n (key.hide n b))), .agg (ringC key (n + 1#64)), .int .i64 0]) ∧ Below w.heap.size w w' ∧ Res.holds w.heap.size w' (.blk g (.cells C 5 (0,0))) ∧ C.toList.take len = u8s (key.hide n b) := by
  have hO := Own.start w
  have hbl : b.length = len := by have := hR.len; rw [u8s_length] at this; omega
  obtain ⟨t, ht⟩ : ∃ t, key.hide n b = t := ⟨_, rfl⟩
  have htl : t.length = len := by rw [← ht, St.hide_length, hbl]
  obtain ⟨u, hu⟩ : ∃ u, key.tag n t = u := ⟨_, rfl⟩
  have g1 := fun w hR hT => hide_ok key n a len cap b w hR hl hT
  have g2 := fun w a c hR hT => tag_ok key n a len c t w hR hl hT
  rw [ht] at g1
  rw [hu] at g2
  unfold BkRet at g1
  rw [ht, hu]
  have nlt := n.isLt
  have hne : n.toNat ≠ 18446744073709551615 := fun h => hn (BitVec.eq_of_toNat_eq h)
  have d1 : ((n.toNat : Int) == 18446744073709551615) = false := by simp; omega
  obtain ⟨n1, hn1⟩ : ∃ n1, n + 1#64 = n1 := ⟨_, rfl⟩
  have e1 : IntKind.u64.wrap ((n.toNat : Int) + 1) = (n1.toNat : Int) := by rw [wrap_u64', ← hn1, BitVec.toNat_add]; simp
  rw [hn1]
  have G1 := Lib.hid g1
  have G2 := Lib.hid g2
  have HR := Lib.hid hR
  have HT := Lib.hid hT
  have n0 := nn n
  have nL : (n.toNat : Int) < 18446744073709551616 := by omega
  have HTL := Lib.hid htl
  clear hT hR g1 g2 ht hu hbl htl hn hne nlt hn1
  generalize hW : w = wn at hO HT HR ⊢
  clear hW w
  go_enter Tryd.func10, Tryd.ntmps10
  go_wp2_with (first
    | ((with_reducible refine gBox ?_); first | (refine bxA hO rfl ?_; clear hO; intro br ww hO) | (refine bx1 hO rfl rfl ?_; clear hO; intro br ww hO))
    | ((with_reducible refine gG ?_); refine wpList_want rfl ?_)
    | ((with_reducible refine gAlloc (T := 31) ?_); refine own_alloc hO _ _ ibz ?_; clear hO; intro bx ww hO)
    | ((with_reducible refine gAlloc (T := 27) ?_); refine own_alloc hO _ _ irz ?_; clear hO; intro bn ww hO)
    | ((with_reducible refine gLoad (T := 24) ?_); first | refine ldA hO 2 key.C rfl rfl (tA rfl) (tS rfl) rfl ?_ | refine ldA hO 3 key.C rfl rfl (tA rfl) (tS rfl) rfl ?_)
    | ((with_reducible refine gLoad (T := 25) ?_); first | refine ldC hO 3 rfl rfl (tA rfl) rfl ?_ | refine ldC hO 2 rfl rfl (tA rfl) rfl ?_)
    | ((with_reducible refine gLoad (T := 28) ?_); refine ldC hO 2 rfl rfl (tA rfl) rfl ?_)
    | (go_at_call 25; refine (G1.out _ (hO.rd HR.out) (HT.out.own hO)).mono ?_; rintro e ww ⟨g, C, rfl, hb, hh, hC⟩; replace hO := hO.add hb hh; clear hb hh)
    | ((with_reducible refine gStore (T := 28) ?_); refine stC hO 2 rfl rfl rfl (ltb rfl) rfl (tS rfl) ?_; clear hO; intro ww hO)
    | ((with_reducible refine gStore (T := 25) ?_); first | (refine stC hO 2 rfl rfl rfl (ltb rfl) rfl (tS rfl) ?_; clear hO; intro ww hO) | (refine stC hO 3 rfl rfl rfl (ltb rfl) rfl (tS rfl) ?_; clear hO; intro ww hO; replace hO : Own wn ww [.blk g (.cells C 5 (0,0)), .blk bn (.cells (ringC St.zero 0#64) 27 (0,0)), .blk bx (.cells (boxC n (.slice (some ⟨g, 0, none⟩) len len) u) 31 (0,0)), .blk br (.cells (ringC key n1) 27 (0,0))] := hO))
    | (go_at_call 12; refine (G2.out _ _ _ (rd_blk_off (hO.blk 0 rfl) 0 (by rw [List.drop_zero]; exact hC) (by rw [u8s_length]; exact HTL.out) (Nat.le_refl _) (by simp [maxLen]; omega)) (HT.out.own hO)).mono ?_; rintro e ww ⟨rfl, hb⟩; replace hO := hO.call hb; clear hb)
    | ((with_reducible refine gStore (T := 24) ?_); refine stP hO 2 rfl rfl rfl rfl rfl (tS rfl) rfl ?_; clear hO; intro ww hO))
  refine wp_region_textS (fun w' => Own wn w' [.blk bx (.cells (boxC n (.slice (some ⟨g, 0, none⟩) len len) u) 31 (0,0)), .blk br (.cells (ringC key n1) 27 (0,0))]) (fun op => match op with | .load _ _ => true | _ => false) (by kernel_rfl) (by kernel_rfl) (hO.drew.sub (by repeat first | exact List.Sublist.refl _ | apply List.Sublist.cons)) ?_
  replace hO := hO.drew
  generalize World.drew _ = wd at hO ⊢
  go_wp2_with (first
    | (((with_reducible refine gIL ?_); first | refine wpI_ldS (fun w' hS => hS.blk 0 rfl) rfl rfl (tA rfl) (tS rfl) ?_ | refine wpI_ldS (fun w' hS => hS.blk 1 rfl) rfl rfl (tA rfl) (tS rfl) ?_); first | (refine wpI_act (by simp only [Act.put, List.setIfInBounds_toArray, List.set_cons_succ, List.set_cons_zero]; rfl) ?_) | skip)
    | ((with_reducible refine gStore (T := 31) ?_); refine stX hO 2 rfl rfl rfl rfl rfl (tS rfl) ?_; clear hO; intro ww hO)
    | ((with_reducible refine gStore (T := 27) ?_); refine stX hO 1 rfl rfl rfl rfl rfl (tS rfl) ?_; clear hO; intro ww hO)
    | ((with_reducible refine gI ?_); refine wpI_step rfl rfl (by kernel_rfl) ?_; intro K hK; have HK := Lib.hid hK; clear hK) | ((with_reducible refine gI ?_); first | refine wpI_skip rfl ?_ | refine wpI_want rfl ?_) | ((with_reducible refine gOnlyK HK.out ?_ ?_); exact hO.sub (by repeat first | exact List.Sublist.refl _ | apply List.Sublist.cons); clear HK K; first | (refine wpI_act (by simp only [Act.put, List.setIfInBounds_toArray, List.set_cons_succ, List.set_cons_zero]; rfl) ?_) | skip) | (with_reducible refine wpI_nil ?_))
  refine bodyPost_ret (res_cct rfl _ _ bx bn 31 27 (boxC n (.slice (some ⟨g, 0, none⟩) len len) u) (ringC key n1) (0,0) (0,0) _ _ rfl (hO.blk 2 rfl) Tryd.underlying31 rfl (ibs _ _ _) rfl (hO.blk 1 rfl) Tryd.underlying27 rfl (irs _ _)) rfl ⟨g, C, rfl, hO.below, hO.at 0 rfl, hC⟩
end Go.Proofs.YtekiloagckkneaaDoor
