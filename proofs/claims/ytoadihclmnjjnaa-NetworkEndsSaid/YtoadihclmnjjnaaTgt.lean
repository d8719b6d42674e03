/-
  The walk of AllenTight: what the law's own loops find is what the table holds.
-/
import Derived.Test.YtoadihclmnjjnaaAwk
set_option linter.unusedSimpArgs false
set_option linter.unusedVariables false
namespace Go.Proofs.Ytoadihclmnjjnaa.Al
open Go Go.RowKit Go.Proofs.Ytoadihclmnjjnaa.Bt Go.Proofs.Ytoadihclmnjjnaa.Sl
open Go.Proofs.Ytoadihclmnjjnaa.Iv (of_any valid_any ofZ validB lineB sgn_bd sgn_cases tab sgn)

/-- What n rounds find. -/
def FS (a b : Nat) : Nat → Nat
  | 0 => 0
  | n + 1 => if rl (n / 225) (n / 15 % 15) = a ∧ rl (n / 15 % 15) (n % 15) = b then FS a b n ||| 2 ^ rl (n / 225) (n % 15) else FS a b n
theorem rl_lt (i j : Nat) (hi : i < 15) (hj : j < 15) : rl i j < 13 := (rl_all i hi j hj).2
theorem FS_row (a b : Nat) (ha : a < 13) (hb : b < 13) : ∀ n ≤ 3375, FS a b n = rowP (TS n) (a * 13 + b) := by
  intro n
  induction n with
  | zero => intro _; simp [FS, TS, rowP]
  | succ n ih =>
    intro hn
    have i1 : n / 225 < 15 := by omega
    have i2 : n / 15 % 15 < 15 := by omega
    have i3 : n % 15 < 15 := by omega
    have l1 := rl_lt _ _ i1 i2
    have l2 := rl_lt _ _ i2 i3
    have l3 := rl_lt _ _ i1 i3
    unfold FS TS bitAt
    rw [ih (by omega)]
    split
    · rename_i h
      rw [h.1, h.2, rowP_same _ _ _ l3]
    · rename_i h
      rw [rowP_other _ _ _ _ l3 (by intro e; exact h (by omega))]
theorem FS_bas (a b : Nat) (ha : a < 13) (hb : b < 13) : FS a b 3375 = bas a b := FS_row a b ha hb 3375 (Nat.le_refl _)
theorem FS_lt (a b n : Nat) (hn : n ≤ 3375) (ha : a < 13) (hb : b < 13) : FS a b n < 8192 := by rw [FS_row a b ha hb n hn]; exact rowP_lt _ _
theorem FS_step (a b k j m : Nat) (hj : j < 15) (hm : m < 15) : FS a b (k * 225 + j * 15 + m + 1) = if rl k j = a ∧ rl j m = b then FS a b (k * 225 + j * 15 + m) ||| 2 ^ rl k m else FS a b (k * 225 + j * 15 + m) := by
  rw [FS, show (k * 225 + j * 15 + m) / 225 = k by omega, show (k * 225 + j * 15 + m) / 15 % 15 = j by omega, show (k * 225 + j * 15 + m) % 15 = m by omega]
theorem FS_skip (a b k j : Nat) (hj : j < 15) (h : rl k j ≠ a) : ∀ m ≤ 15, FS a b (k * 225 + j * 15 + m) = FS a b (k * 225 + j * 15) := by
  intro m
  induction m with
  | zero => intro _; rfl
  | succ m ih =>
    intro hm
    rw [show k * 225 + j * 15 + (m + 1) = k * 225 + j * 15 + m + 1 from rfl, FS_step a b k j m hj (by omega), if_neg (fun e => h e.1)]
    exact ih (by omega)
/-- The list's cells lie in block g. -/
def LI (w : World) (g : Nat) (W : World) : Prop := (∀ j u, (flat spL)[j]? = some u → W.cell? ⟨g, j, none⟩ = some u) ∧ Below w.heap.size w W
theorem LI.step {w W W' : World} {g : Nat} (h : LI w g W) (hb : Below W.heap.size W W') : LI w g W' := ⟨fun j u hu => Sl.cell_kept (h.1 j u hu) hb, Sl.bstep h.2 hb⟩

end Go.Proofs.Ytoadihclmnjjnaa.Al
