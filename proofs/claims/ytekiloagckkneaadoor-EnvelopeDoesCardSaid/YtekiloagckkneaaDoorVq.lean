/- The program's answers and the document's are one: each pair of functions, for whatever comes in. -/
import Derived.Test.YtekiloagckkneaaDoorVp
import Derived.Test.YtekiloagckkneaaDoorVf
namespace Go.Proofs.YtekiloagckkneaaDoor
open Go.RowKit Go.Own Go.Bv Go.Ord Go.Eq

/-- a text of the call's own handed back -/
def RowR (w : World) (M : Nat) (X : List (BitVec 8)) (E : Int) (e : Ending) (w' : World) : Prop :=
  ∃ a c, e = .returned (.tuple #[.slice a M c, .int .i64 E]) ∧ Below w.heap.size w w' ∧ w'.ownsRow w.heap.size 5 1 (.slice a M c) M (u8s X)
theorem RowR.nil {w w' : World} {E : Int} {e : Ending} (h : e = .returned (.tuple #[.slice none 0 0, .int .i64 E]) ∧ Below w.heap.size w w') : RowR w 0 [] E e w' :=
  ⟨none, 0, h.1, h.2, World.ownsRow_nil _ _ _ _⟩
/-- a box of the call's own handed back -/
def BoxR (w : World) (n : BitVec 64) (M : Nat) (X : List (BitVec 8)) (u : St) (E : Int) (e : Ending) (w' : World) : Prop :=
  ∃ a c, e = .returned (.tuple #[.agg (boxC n (.slice a M c) u), .int .i64 E]) ∧ Below w.heap.size w w' ∧ w'.ownsRow w.heap.size 5 1 (.slice a M c) M (u8s X)
theorem BoxR.nil {w w' : World} {E : Int} {e : Ending} (h : e = .returned (.tuple #[.agg (boxC 0#64 (.slice none 0 0) St.zero), .int .i64 E]) ∧ Below w.heap.size w w') : BoxR w 0#64 0 [] St.zero E e w' :=
  ⟨none, 0, h.1, h.2, World.ownsRow_nil _ _ _ _⟩

theorem pStream (key : St) (n : BitVec 64) (m : Int) : ∃ X E, (∀ w, Turns w → Calls Tryd.prog 14 #[.agg key.C, .int .u64 (n.toNat : Int), .int .i64 m] w (TxR w X E)) ∧
    (∀ w, Calls Tryd.prog 22 #[.agg key.C, .int .u64 (n.toNat : Int), .int .i64 m] w (TxR w X E)) := by
  by_cases h0 : m < 0
  · exact ⟨[], 1, fun w hT => (stream_neg key n m h0 w hT).mono fun e w' h => TxR.nil h, fun w => (rstream_neg key n m h0 w).mono fun e w' h => TxR.nil h⟩
  · by_cases h1 : 65536 < m
    · exact ⟨[], 3, fun w hT => (stream_long key n m h1 w).mono fun e w' h => TxR.nil h, fun w => (rstream_long key n m h1 w).mono fun e w' h => TxR.nil h⟩
    · obtain ⟨k, rfl⟩ : ∃ k : Nat, m = (k : Int) := ⟨m.toNat, by omega⟩
      exact ⟨key.stream n k, 0, fun w hT => (stream_ok key n k (by omega) w hT).mono fun e w' h => TxR.bk (St.stream_length _ _ _) (by omega) h, fun w => rstream_own key n k (by omega) w⟩

theorem pOpen (key : St) (n : BitVec 64) (a : Option Addr) (len cap : Nat) (t : List (BitVec 8)) (hl : t.length = len) (v : St) : ∃ X E, (∀ w, Rd w 1 a len cap (u8s t) → Turns w → Calls Tryd.prog 11 #[.agg key.C, .agg (boxC n (.slice a len cap) v)] w (TxR w X E)) ∧
    (∀ w, Rd w 1 a len cap (u8s t) → Calls Tryd.prog 17 #[.agg key.C, .agg (boxC n (.slice a len cap) v)] w (TxR w X E)) := by
  by_cases h1 : 65536 < len
  · exact ⟨[], 3, fun w _ hT => (open_long key n a len cap v w h1).mono fun e w' h => TxR.nil h, fun w _ => (ropen_long key n a len cap v w h1).mono fun e w' h => TxR.nil h⟩
  · by_cases hv : v = key.tag n t
    · subst hv
      exact ⟨key.hide n t, 0, fun w hR hT => (open_ok key n a len cap t w hR (by omega) hT).mono fun e w' h => TxR.bk (by rw [St.hide_length, hl]) (by omega) h, fun w hR => (ropen_ok key n a len cap t w hR (by omega)).mono fun e w' h => TxR.row (by rw [St.hide_length, hl]) h⟩
    · exact ⟨[], 8, fun w hR hT => (open_bad key n a len cap t v w hR (by omega) hv hT).mono fun e w' h => TxR.nil h, fun w hR => (ropen_bad key n a len cap t v w hR (by omega) hv).mono fun e w' h => TxR.nil h⟩

theorem pTag (key : St) (n : BitVec 64) (a : Option Addr) (len cap : Nat) (t : List (BitVec 8)) : ∃ (u : St) (E : Int), (∀ w, Rd w 1 a len cap (u8s t) → Turns w → Calls Tryd.prog 12 #[.agg key.C, .int .u64 (n.toNat : Int), .slice a len cap] w fun e w' => e = .returned (.tuple #[.agg u.C, .int .i64 E]) ∧ Below w.heap.size w w') ∧
    (∀ w, Rd w 1 a len cap (u8s t) → Calls Tryd.prog 23 #[.agg key.C, .int .u64 (n.toNat : Int), .slice a len cap] w fun e w' => e = .returned (.tuple #[.agg u.C, .int .i64 E]) ∧ Below w.heap.size w w') := by
  by_cases h1 : 65536 < len
  · exact ⟨St.zero, 3, fun w _ hT => tag_no key n a len cap w h1, fun w _ => rtag_no key n a len cap w h1⟩
  · exact ⟨key.tag n t, 0, fun w hR hT => tag_ok key n a len cap t w hR (by omega) hT, fun w hR => rtag_ok key n a len cap t w hR (by omega)⟩

theorem pBytes (n : BitVec 64) (u : St) (a : Option Addr) (len cap : Nat) (t : List (BitVec 8)) (hl : t.length = len) : ∃ M X E, M ≤ 65560 ∧ X.length = M ∧ (∀ w, Rd w 1 a len cap (u8s t) → Calls Tryd.prog 18 #[.agg (boxC n (.slice a len cap) u)] w (RowR w M X E)) ∧
    (∀ w, Rd w 1 a len cap (u8s t) → Calls Tryd.prog 19 #[.agg (boxC n (.slice a len cap) u)] w (RowR w M X E)) := by
  by_cases h1 : 65536 < len
  · exact ⟨0, [], 3, by omega, rfl, fun w _ => (bytes_no n u a len cap w h1).mono fun e w' h => RowR.nil h, fun w _ => (rbytes_no n u a len cap w h1).mono fun e w' h => RowR.nil h⟩
  · refine ⟨8 + 16 + len, eight n ++ u.octs ++ t, 0, by omega, ?_, fun w hR => bytes_ok n u a len cap t w hR (by omega), fun w hR => rbytes_ok n u a len cap t w hR (by omega)⟩
    rw [List.length_append, List.length_append, hl, eight_length]; rfl

theorem pFrom (a : Option Addr) (len cap : Nat) (bs : List (BitVec 8)) (hl : bs.length = len) : ∃ (n : BitVec 64) (M : Nat) (X : List (BitVec 8)) (u : St) (E : Int), M ≤ 65560 ∧ X.length = M ∧ (∀ w, Rd w 1 a len cap (u8s bs) → Calls Tryd.prog 20 #[.slice a len cap] w (BoxR w n M X u E)) ∧
    (∀ w, Rd w 1 a len cap (u8s bs) → Calls Tryd.prog 21 #[.slice a len cap] w (BoxR w n M X u E)) := by
  by_cases h0 : len < 24
  · exact ⟨0#64, 0, [], St.zero, 2, by omega, rfl, fun w _ => (from_no a len cap w h0).mono fun e w' h => BoxR.nil h, fun w _ => (rfrom_no a len cap w h0).mono fun e w' h => BoxR.nil h⟩
  · by_cases h1 : 65560 < len
    · exact ⟨0#64, 0, [], St.zero, 3, by omega, rfl, fun w _ => (from_long a len cap w h1).mono fun e w' h => BoxR.nil h, fun w _ => (rfrom_long a len cap w h1).mono fun e w' h => BoxR.nil h⟩
    · exact ⟨num bs 8, len - 24, bs.drop 24, St.of ((bs.drop 8).take 16), 0, by omega, by rw [List.length_drop, hl], fun w hR => from_ok a len cap bs w hR (by omega) (by omega), fun w hR => rfrom_ok a len cap bs w hR (by omega) (by omega)⟩

/-- a text sealed: a refusal -/
theorem pSealNo (key : St) (n : BitVec 64) (a : Option Addr) (len cap : Nat) (b : List (BitVec 8)) (h : n = 18446744073709551615#64 ∨ 65536 < len) : ∃ E : Int, (∀ w, Rd w 1 a len cap (u8s b) → Turns w → Calls Tryd.prog 10 #[.agg (ringC key n), .slice a len cap] w fun e w' => e = .returned (.tuple #[.agg (boxC 0#64 (.slice none 0 0) St.zero), .agg (ringC St.zero 0#64), .int .i64 E]) ∧ Below w.heap.size w w') ∧
    (∀ w, Rd w 1 a len cap (u8s b) → Calls Tryd.prog 16 #[.agg (ringC key n), .slice a len cap] w fun e w' => e = .returned (.tuple #[.agg (boxC 0#64 (.slice none 0 0) St.zero), .agg (ringC St.zero 0#64), .int .i64 E]) ∧ Below w.heap.size w w') := by
  by_cases h1 : 65536 < len
  · exact ⟨3, fun w _ _ => seal_long key n a len cap w h1, fun w _ => rseal_long key n a len cap h1 w⟩
  · have hn : n = 18446744073709551615#64 := h.resolve_right h1
    exact ⟨6, fun w hR hT => seal_full key n a len cap b w hR (by omega) hn hT, fun w _ => by rw [hn]; exact rseal_full key a len cap (by omega) w⟩
end Go.Proofs.YtekiloagckkneaaDoor
