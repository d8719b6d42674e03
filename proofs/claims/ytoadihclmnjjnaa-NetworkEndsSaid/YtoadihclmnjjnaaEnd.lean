/-
  The walk of allen's place and ends: the places of the thirteen relations.
-/
import Derived.Test.YtoadihclmnjjnaaTab
set_option linter.unusedSimpArgs false
set_option linter.unusedVariables false
namespace Go.Proofs.Ytoadihclmnjjnaa.Al
open Go Go.RowKit Go.Proofs.Ytoadihclmnjjnaa.Bt Go.Proofs.Ytoadihclmnjjnaa.Sl Go.Proofs.Ytoadihclmnjjnaa.Iv

def pl (x : Nat) : Nat := if x < 2 then 1 else if x = 2 then 2 else if x < 6 then 3 else if x = 6 then 4 else 5
/-- The relation to the interval from 2 to 6. -/
def er (a b : Nat) : Nat := (ofZ (a : Int) (b : Int) 2 6).toNat
theorem er_all : ∀ a : Nat, a < 9 → ∀ b : Nat, b < 10 → a < b → ofZ (a : Int) (b : Int) 2 6 = ((er a b : Nat) : Int) ∧ er a b < 13 := of_decide_eq_true (by kernel_rfl)
theorem of_er (a b : Nat) (ha : a < 9) (hb : b < 10) (h : a < b) (w : World) : Calls Try.prog 31 #[.agg #[.int .i64 (a : Int), .int .i64 (b : Int)], .agg #[.int .i64 2, .int .i64 6]] w fun e w' => e = .returned (.int .i64 ((er a b : Nat) : Int)) ∧ Below w.heap.size w w' := by
  rw [← (er_all a ha b hb h).1]; exact of_any _ _ _ _ w
/-- The pairs that are laid ahead of a round. -/
def enL (k j : Nat) : List (Nat × Nat) := (List.range 9).flatMap fun a => (List.range 10).filterMap fun b => if a < b ∧ (a < k ∨ (a = k ∧ b < j)) then some (a, b) else none
theorem enL_step : ∀ k < 9, ∀ j < 10, k < j → enL k (j + 1) = enL k j ++ [(k, j)] := of_decide_eq_true (by kernel_rfl)
theorem enL_next : ∀ k < 9, enL k 10 = enL (k + 1) (k + 1 + 1) := of_decide_eq_true (by kernel_rfl)
theorem enL_zero : enL 0 1 = [] := by decide
def laid (l : List Nat) (p : Nat × Nat) : List Nat := (l.set (er p.1 p.2 * 2) (pl p.1)).set (er p.1 p.2 * 2 + 1) (pl p.2)
def enN (k j : Nat) : List Nat := (enL k j).foldl laid (List.replicate 26 0)
theorem enN_step (k j : Nat) (hk : k < 9) (hj : j < 10) (h : k < j) : enN k (j + 1) = laid (enN k j) (k, j) := by
  unfold enN; rw [enL_step k hk j hj h, List.foldl_append]; rfl
theorem enN_next (k : Nat) (hk : k < 9) : enN k 10 = enN (k + 1) (k + 1 + 1) := by unfold enN; rw [enL_next k hk]
/-- The places of the relations. -/
def endL : List Nat := [1, 1, 1, 2, 1, 3, 2, 3, 3, 3, 3, 4, 2, 4, 1, 4, 1, 5, 2, 5, 3, 5, 4, 5, 5, 5]
theorem enN_end : enN 9 10 = endL := by kernel_rfl
theorem laid_len (l : List Nat) (p : Nat × Nat) : (laid l p).length = l.length := by simp [laid]
theorem enN_len (k j : Nat) : (enN k j).length = 26 := by
  unfold enN
  suffices h : ∀ (q : List (Nat × Nat)) (l : List Nat), (q.foldl laid l).length = l.length by rw [h]; rfl
  intro q
  induction q with
  | nil => intro l; rfl
  | cons p q ih => intro l; rw [List.foldl_cons, ih, laid_len]
def nums (l : List Nat) : Array Value := (l.map fun x => Value.int .i64 ((x : Nat) : Int)).toArray
theorem nums_size (l : List Nat) : (nums l).size = l.length := by simp [nums]
theorem nums_set (l : List Nat) (i x : Nat) : (nums l).setIfInBounds i (.int .i64 ((x : Nat) : Int)) = nums (l.set i x) := by simp [nums]
theorem nums_one (l : List Nat) : (nums l).all (·.oneCell') = true := by
  rw [Array.all_eq_true_iff_forall_mem]
  intro x hx
  simp [nums] at hx
  obtain ⟨p, _, rfl⟩ := hx
  rfl
theorem nums_get (l : List Nat) (i : Nat) (h : i < l.length) : (nums l)[i]? = some (.int .i64 ((l.getD i 0 : Nat) : Int)) := by simp [nums, h]

end Go.Proofs.Ytoadihclmnjjnaa.Al
