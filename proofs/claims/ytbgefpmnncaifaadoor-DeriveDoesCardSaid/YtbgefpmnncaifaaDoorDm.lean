/- Keys: what a key begins with, gone over. No program in sight. -/
import Derived.Test.YtbgefpmnncaifaaDoorPa
namespace Go.Proofs.YtbgefpmnncaifaaDoor
open Go.RowKit Go.Own Go.Bv Go.Eq

namespace St
def goN (s : St) (b : List (BitVec 8)) : Nat → St
  | 0 => s
  | k + 1 => (goN s b k).absorb b
theorem goN_add (s : St) (b : List (BitVec 8)) (i : Nat) : ∀ j, goN (goN s b i) b j = goN s b (i + j)
  | 0 => rfl
  | j + 1 => by show (goN (goN s b i) b j).absorb b = (goN s b (i + j)).absorb b; rw [goN_add s b i j]
theorem goN_inj {s t : St} {b : List (BitVec 8)} : ∀ {k : Nat}, goN s b k = goN t b k → s = t
  | 0, h => h
  | k + 1, h => goN_inj (absorb_inj h)
def startOf (word salt : List (BitVec 8)) : St := ((zero).absorb salt).absorb word
end St

/-- a slice's three words -/
structure Sl where
  a : Option Addr
  n : Nat
  c : Nat
def Sl.v (x : Sl) : Value := .slice x.a x.n x.c
def sls (l : List Sl) : List Value := l.map Sl.v
theorem sls_length (l : List Sl) : (sls l).length = l.length := by simp [sls]
theorem sls_get (l : List Sl) (j : Nat) (h : j < l.length) : (sls l)[j]? = some (.slice l[j].a l[j].n l[j].c) := by simp [sls, h, Sl.v]
def fitsB (l : List Sl) : Bool := l.all fun x => decide (x.n ≤ 64)
theorem fits_next {l : List Sl} {k : Nat} (hk : k < l.length) (h : fitsB (l.take k) = true) (h1 : l[k].n ≤ 64) : fitsB (l.take (k + 1)) = true := by
  unfold fitsB at *
  rw [List.take_succ_eq_append_getElem hk, List.all_append, h]
  simp [h1]
def fitsE (l : List Sl) : Int := if fitsB l then 0 else 3
theorem fitsE_ok {l : List Sl} (h : fitsB l = true) : fitsE l = 0 := by unfold fitsE; rw [h]; rfl
theorem fitsE_no {l : List Sl} (h : fitsB l = false) : fitsE l = 3 := by unfold fitsE; rw [h]; rfl
theorem fits_hit {l : List Sl} {k : Nat} (hk : k < l.length) (h1 : 64 < l[k].n) : fitsB l = false := by
  cases h2 : fitsB l with
  | false => rfl
  | true =>
    unfold fitsB at h2
    rw [List.all_eq_true] at h2
    have := h2 l[k] (List.getElem_mem hk)
    simp at this
    omega
end Go.Proofs.YtbgefpmnncaifaaDoor
