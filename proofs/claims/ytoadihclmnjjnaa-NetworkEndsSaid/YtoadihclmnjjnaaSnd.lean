/-
  The walk of AllenSound.
-/
import Derived.Test.YtoadihclmnjjnaaPl
set_option linter.unusedSimpArgs false
set_option linter.unusedVariables false
set_option maxRecDepth 100000
namespace Go.Proofs.Ytoadihclmnjjnaa.Al
open Go Go.RowKit Go.Proofs.Ytoadihclmnjjnaa.Bt Go.Proofs.Ytoadihclmnjjnaa.Sl
open Go.Proofs.Ytoadihclmnjjnaa.Iv (of_any valid_any ofZ validB lineB sgn_bd sgn_cases tab sgn)

theorem inverse_any (m : Nat) (hm : m < 8192) (w : World) : Calls Try.prog 86 #[.int .i64 (m : Int)] w fun e w' => e = .returned (.int .i64 ((invN m : Nat) : Int)) ∧ Below w.heap.size w w' := callsIn_wide.1 (inverse_in m hm w)
theorem kept1 {w : World} {b o : Nat} {v : Value} (o' : Obj) (h : w.cell? ⟨b, o, none⟩ = some v) : (w.alloc o').cell? ⟨b, o, none⟩ = some v := Sl.cell_kept h ((Below.refl _ _).alloc (Nat.le_refl _) _)
theorem new2 (w : World) (u v : Value) (t : TypeId) : (w.alloc (.cells #[u, v] t)).cell? ⟨w.heap.size, 0, none⟩ = some u ∧ (w.alloc (.cells #[u, v] t)).cell? ⟨w.heap.size, 1, none⟩ = some v := ⟨by simp, by simp⟩
/-- The cells of three boxes. -/
theorem boxes3 (w : World) (x0 x1 y0 y1 z0 z1 : Value) (t : TypeId) : ∀ W, W = ((w.alloc (.cells #[x0, x1] t)).alloc (.cells #[y0, y1] t)).alloc (.cells #[z0, z1] t) →
    W.cell? ⟨w.heap.size, 0, none⟩ = some x0 ∧ W.cell? ⟨w.heap.size, 1, none⟩ = some x1 ∧ W.cell? ⟨w.heap.size + 1, 0, none⟩ = some y0 ∧ W.cell? ⟨w.heap.size + 1, 1, none⟩ = some y1 ∧ W.cell? ⟨w.heap.size + 1 + 1, 0, none⟩ = some z0 ∧ W.cell? ⟨w.heap.size + 1 + 1, 1, none⟩ = some z1 := by
  rintro W rfl
  have a := new2 w x0 x1 t
  have b := new2 (w.alloc (.cells #[x0, x1] t)) y0 y1 t
  have c := new2 ((w.alloc (.cells #[x0, x1] t)).alloc (.cells #[y0, y1] t)) z0 z1 t
  simp only [World.size_alloc] at b c
  exact ⟨kept1 _ (kept1 _ a.1), kept1 _ (kept1 _ a.2), kept1 _ b.1, kept1 _ b.2, c.1, c.2⟩
/-- The three relations, as the walk meets them. -/
theorem ofZ_none {a0 a1 b0 b1 : Int} (h : validB a0 a1 = false ∨ validB b0 b1 = false) : ofZ a0 a1 b0 b1 = -1 := by
  unfold ofZ; rw [if_pos h]
theorem holdsB_nat (m : Nat) (hm : m < 8192) {a0 a1 b0 b1 : Int} (h1 : validB a0 a1 = true) (h2 : validB b0 b1 = true) (r : Nat) (hr : ofZ a0 a1 b0 b1 = r) (hb : m.testBit r = true) : holdsB (m : Int) a0 a1 b0 b1 = true := by
  have his : isSetB (m : Int) = true := by simp [isSetB]; omega
  unfold holdsB
  rw [his, h1, h2, hr]
  simpa using hb
end Go.Proofs.Ytoadihclmnjjnaa.Al
