/-
  The walk of allen's Convex.
-/
import Derived.Test.YtoadihclmnjjnaaEnd
import Derived.Test.YtoadihclmnjjnaaRnd
import Derived.BigGuardPart
set_option linter.unusedSimpArgs false
set_option linter.unusedVariables false
namespace Go.Proofs.Ytoadihclmnjjnaa.Al
open Go Go.RowKit Go.Shelf Go.Proofs.Ytoadihclmnjjnaa.Bt Go.Proofs.Ytoadihclmnjjnaa.Sl Go.Proofs.Ytoadihclmnjjnaa.Iv Go.Proofs.Ytoadihclmnjjnaa.Lst
attribute [local go_sem] Oper.semAt_some

def en (r i : Nat) : Nat := endL.getD (r * 2 + i) 0
def lo (pre : List (Fin 13)) (i : Nat) : Nat := pre.foldl (fun o r => min o (en r.val i)) 5
def hi (pre : List (Fin 13)) (i : Nat) : Nat := pre.foldl (fun o r => max o (en r.val i)) 1
theorem lo_snoc (pre : List (Fin 13)) (x : Fin 13) (i : Nat) : lo (pre ++ [x]) i = min (lo pre i) (en x.val i) := by simp [lo]
theorem hi_snoc (pre : List (Fin 13)) (x : Fin 13) (i : Nat) : hi (pre ++ [x]) i = max (hi pre i) (en x.val i) := by simp [hi]
/-- A block's cells. -/
def Rowed (W : World) (B : Nat) (t : TypeId) (l : List Nat) : Prop := W.heap[B]? = some (.cells (nums l) t (0, 0))
theorem rowed_own {β : Type} (B : Nat) (t : TypeId) (f : β → List Nat) : Own (fun s W => Rowed W B t (f s)) := fun s X Y row hs hg hrow => by
  have hlt : B < X.heap.size := (Array.getElem?_eq_some_iff.1 hs).1
  exact (hg.block B hlt (fun e' => by obtain ⟨o, ho, hc⟩ := hrow B e'.symm; rw [show X.heap[B]? = _ from hs] at ho; cases ho; cases hc)).trans hs
theorem Rowed.cell {W : World} {B : Nat} {t : TypeId} {l : List Nat} (h : Rowed W B t l) (p : Nat) (hp : p < l.length) : W.cell? ⟨B, p, none⟩ = some (.int .i64 ((l.getD p 0 : Nat) : Int)) := by
  rw [cell_of_row _ _ _ _ _ _ h]; exact nums_get _ _ hp
theorem Rowed.frozen {W : World} {B : Nat} {t : TypeId} {l : List Nat} (h : Rowed W B t l) (p : Nat) : W.frozen? ⟨B, p, none⟩ = false := by
  simp [World.frozen?, show W.heap[B]? = _ from h]
theorem Rowed.store {W : World} {B : Nat} {t : TypeId} {l : List Nat} (h : Rowed W B t l) (p x : Nat) : Rowed (W.setCell ⟨B, p, none⟩ (.int .i64 ((x : Nat) : Int))) B t (l.set p x) := by
  unfold Rowed at *
  rw [heap_setCell_same _ _ _ _ _ _ h, nums_set]
theorem Rowed.other {W : World} {B B' p : Nat} {u : Value} {t : TypeId} {l : List Nat} (h : Rowed W B t l) (hb : B ≠ B') : Rowed (W.setCell ⟨B', p, none⟩ u) B t l := by
  unfold Rowed at *
  rw [heap_setCell_other _ _ _ _ hb]; exact h
theorem Rowed.step {W W' : World} {B : Nat} {t : TypeId} {l : List Nat} (h : Rowed W B t l) (hb : Below W.heap.size W W') : Rowed W' B t l := by
  have hlt : B < W.heap.size := (Array.getElem?_eq_some_iff.1 h).1
  unfold Rowed at *
  rw [hb.block _ hlt]; exact h

theorem keeps_set {W : World} {B p : Nat} {u : Value} {t : TypeId} {l : List Nat} (h : Rowed W B t l) : KeepsOthers W (W.setCell ⟨B, p, none⟩ u) :=
  KeepsOthers.of_grownBy (row := some B) ⟨rfl, rfl, rfl, by simp, fun k _ hk => heap_setCell_other _ _ _ _ (fun e => hk (by rw [e]))⟩ (fun j o hj ho => by
    cases hj
    rw [show W.heap[B]? = _ from h] at ho
    cases ho
    rfl)
/-- A relation stands in the box. -/
def inBox (m r : Nat) : Bool := decide (lo (singF m) 0 ≤ en r 0) && decide (en r 0 ≤ hi (singF m) 0) && decide (lo (singF m) 1 ≤ en r 1) && decide (en r 1 ≤ hi (singF m) 1)
/-- The first k of its two places. -/
def boxTo (m r k : Nat) : Bool := (decide (k = 0) || (decide (lo (singF m) 0 ≤ en r 0) && decide (en r 0 ≤ hi (singF m) 0))) && (decide (k < 2) || (decide (lo (singF m) 1 ≤ en r 1) && decide (en r 1 ≤ hi (singF m) 1)))
theorem boxTo_zero (m r : Nat) : boxTo m r 0 = true := by simp [boxTo]
theorem boxTo_two (m r : Nat) : boxTo m r 2 = inBox m r := by simp [boxTo, inBox, Bool.and_assoc]
theorem boxTo_step (m r k : Nat) (hk : k < 2) : boxTo m r (k + 1) = (boxTo m r k && decide (lo (singF m) k ≤ en r k) && decide (en r k ≤ hi (singF m) k)) := by
  rcases (by omega : k = 0 ∨ k = 1) with rfl | rfl <;> simp [boxTo, Bool.and_assoc]
def cvx (m : Nat) : Bool := (List.range 13).all fun r => inBox m r == m.testBit r
theorem cvx_no (m r : Nat) (hr : r < 13) (h : inBox m r ≠ m.testBit r) : cvx m = false := by
  cases c : cvx m with
  | false => rfl
  | true =>
    unfold cvx at c
    have := List.all_eq_true.1 c r (by simpa using hr)
    exact absurd (by simpa using this) h
theorem cvx_yes (m : Nat) (h : ∀ r < 13, inBox m r = m.testBit r) : cvx m = true := by
  unfold cvx
  rw [List.all_eq_true]
  intro r hr
  simp only [List.mem_range] at hr
  simp [h r hr]
theorem bdN {B : Nat} {a w : World} (h : Below B a w) (n : Nat) : Below B a (w.drewN n) := ⟨h.os, h.tape, h.output, h.size, h.block⟩
def cvxB (s : Int) : Bool := isSetB s && cvx s.toNat

end Go.Proofs.Ytoadihclmnjjnaa.Al
