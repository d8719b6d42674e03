/-
  The map of arities, a condition's cells, and the frame of formed's contract (layer 33).
-/
import Derived.WideMake
import Derived.MapKept
import Derived.RangeFuncBox
import Derived.Test.YtgfppajbegcaeaaDoorVcF
import Derived.Test.YtgfppajbegcaeaaDoorVaN
import Derived.Test.YtgfppajbegcaeaaDoorVaB
import Derived.Lib.Hide
set_option linter.unusedSimpArgs false
set_option linter.unusedVariables false
namespace Go.Proofs.YtgfppajbegcaeaaDoor.Va
open Go.RowKit Go.ChangeShapes Go.WideShapes Go.Proofs.YtgfppajbegcaeaaDoor.Sl

def entI (k v : Int) (b : Nat) : MapEntry := { key := .int .i64 k, val := .int .i64 v, born := b }
theorem upd_ii (w : World) (r clock : Nat) (es : Array MapEntry) (k v : Int) (hb : w.heap[r]? = some (.map es clock)) (hf : Instr.findNow (.int .i64) (.int .i64 k) es.toList 0 = some none) :
    (Instr.mapUpdate 100 (.map (some r)) (.int .i64 k) (.int .i64 v)).run Tryd.prog w = .ok () { w with heap := w.heap.setIfInBounds r (.map (es.push (entI k v clock)) (clock + 1)) } := by
  have hm : Tryd.prog.underlying 100 = some (.map 3 3) := by kernel_rfl
  have hk : Tryd.prog.underlying 3 = some (.int .i64) := by kernel_rfl
  have hc : (Instr.checkKey false 10000 3 (.int .i64 k)).run Tryd.prog w = .ok () w := MapKept.run_checkKey (k := .int .i64 k) hk (by simp [MapKept.IsKey]) false 9999
  simp [Instr.mapUpdate, run_underlying hm, MapKept.run_getObj_map hb, hc, MapKept.run_findKey hk hf, MapKept.run_setObj_map _ hb, Result.andThen, entI]
theorem push_set (h : Array Obj) (o o' : Obj) : (h.push o).setIfInBounds h.size o' = h.push o' := by
  apply Array.ext_getElem?
  intro i
  by_cases hi : i = h.size
  · subst hi; simp
  · rw [Array.getElem?_setIfInBounds, if_neg (fun e => hi e.symm), Array.getElem?_push, Array.getElem?_push, if_neg hi, if_neg hi]
theorem alloc_put (w : World) (o o' : Obj) : ({ (w.alloc o) with heap := (w.alloc o).heap.setIfInBounds w.heap.size o' } : World) = w.alloc o' := by
  show ({ w with heap := (w.heap.push o).setIfInBounds w.heap.size o' } : World) = { w with heap := w.heap.push o' }
  rw [push_set]
theorem alloc_at (w : World) (o : Obj) : (w.alloc o).heap[w.heap.size]? = some o := Go.heap_alloc_new w o
def M1 : Obj := .map #[entI 4 1 0] 1
def M2 : Obj := .map #[entI 4 1 0, entI 5 2 1] 2
def M3 : Obj := .map #[entI 4 1 0, entI 5 2 1, entI 6 2 2] 3
theorem ins1 (w : World) : (Instr.mapUpdate 100 (.map (some w.heap.size)) (.int .i64 4) (.int .i64 1)).run Tryd.prog (w.alloc (.map #[] 0)) = .ok () (w.alloc M1) := by
  rw [upd_ii (w.alloc (.map #[] 0)) w.heap.size 0 #[] 4 1 (alloc_at w _) rfl, alloc_put]; rfl
theorem ins2 (w : World) : (Instr.mapUpdate 100 (.map (some w.heap.size)) (.int .i64 5) (.int .i64 2)).run Tryd.prog (w.alloc M1) = .ok () (w.alloc M2) := by
  rw [upd_ii (w.alloc M1) w.heap.size 1 _ 5 2 (alloc_at w _) rfl, alloc_put]; rfl
theorem ins3 (w : World) : (Instr.mapUpdate 100 (.map (some w.heap.size)) (.int .i64 6) (.int .i64 2)).run Tryd.prog (w.alloc M2) = .ok () (w.alloc M3) := by
  rw [upd_ii (w.alloc M2) w.heap.size 2 _ 6 2 (alloc_at w _) rfl, alloc_put]; rfl
theorem look3 (w : World) (c : Int) : (Instr.lookup 100 (.map (some w.heap.size)) (.int .i64 c) false).run Tryd.prog (w.alloc M3) = .ok (.int .i64 (arity c)) (w.alloc M3) := by
  have hm : Tryd.prog.underlying 100 = some (.map 3 3) := by kernel_rfl
  have hk : Tryd.prog.underlying 3 = some (.int .i64) := by kernel_rfl
  have hc : (Instr.checkKey false 10000 3 (.int .i64 c)).run Tryd.prog (w.alloc M3) = .ok () (w.alloc M3) := MapKept.run_checkKey (k := .int .i64 c) hk (by simp [MapKept.IsKey]) false 9999
  have hg : (getObj w.heap.size).run Tryd.prog (w.alloc M3) = .ok (.map #[entI 4 1 0, entI 5 2 1, entI 6 2 2] 3) (w.alloc M3) := MapKept.run_getObj_map (alloc_at w _)
  have hz : (zeroValue 3).run Tryd.prog (w.alloc M3) = .ok (.int .i64 0) (w.alloc M3) := by kernel_rfl
  by_cases h1 : c = 4
  · subst h1
    have hf : (Instr.findKey 3 (.int .i64 4) [entI 4 1 0, entI 5 2 1, entI 6 2 2]).run Tryd.prog (w.alloc M3) = .ok (some (0, .int .i64 1)) (w.alloc M3) := MapKept.run_findKey hk rfl
    simp [Instr.lookup, run_underlying hm, hg, hc, hf, Result.andThen, arity]
  by_cases h2 : c = 5
  · subst h2
    have hf : (Instr.findKey 3 (.int .i64 5) [entI 4 1 0, entI 5 2 1, entI 6 2 2]).run Tryd.prog (w.alloc M3) = .ok (some (1, .int .i64 2)) (w.alloc M3) := MapKept.run_findKey hk rfl
    simp [Instr.lookup, run_underlying hm, hg, hc, hf, Result.andThen, arity]
  by_cases h3 : c = 6
  · subst h3
    have hf : (Instr.findKey 3 (.int .i64 6) [entI 4 1 0, entI 5 2 1, entI 6 2 2]).run Tryd.prog (w.alloc M3) = .ok (some (2, .int .i64 2)) (w.alloc M3) := MapKept.run_findKey hk rfl
    simp [Instr.lookup, run_underlying hm, hg, hc, hf, Result.andThen, arity]
  · have e1 : (c == 4) = false := by simp [h1]
    have e2 : (c == 5) = false := by simp [h2]
    have e3 : (c == 6) = false := by simp [h3]
    have hn : Instr.findNow (.int .i64) (.int .i64 c) [entI 4 1 0, entI 5 2 1, entI 6 2 2] 0 = some none := by
      simp [Instr.findNow, Instr.sameNow, entI, e1, e2, e3]
    have hf : (Instr.findKey 3 (.int .i64 c) [entI 4 1 0, entI 5 2 1, entI 6 2 2]).run Tryd.prog (w.alloc M3) = .ok none (w.alloc M3) := MapKept.run_findKey hk hn
    simp [Instr.lookup, run_underlying hm, hg, hc, hf, hz, Result.andThen, arity, h1, h2, h3]

/-- A condition as a value. -/
abbrev agC (k : Int) (col oth : ByteArray) (v0 v1 : Int) (v2 : ByteArray) (s : Value) : Value := .agg #[.int .i64 k, .string col, .string oth, .int .i64 v0, .int .i64 v1, .string v2, s]
theorem CnAt.shape {w : World} {cs : List Value} {c : CN} (h : CnAt w cs c) : ∃ k col oth v0 v1 v2 ad n cap, cs = [.int .i64 k, .string col, .string oth, .int .i64 v0, .int .i64 v1, .string v2, .slice ad n cap] := by
  obtain ⟨k, col, oth, ⟨v0, v1, v2⟩, L⟩ := c
  obtain ⟨s, ad, cap, rfl, rfl, _⟩ := h.open
  exact ⟨k, col, oth, v0, v1, v2, ad, L.length, cap, rfl⟩
/-- The cells of the condition number i below one. -/
theorem kid_cells {w W0 : World} (hb : Below W0.heap.size W0 w) {g off i : Nat} {r : List Value} (h : ∀ (j : Nat) (u : Value), r[j]? = some u → W0.cell? ⟨g, off + (i * 7 + j), none⟩ = some u) {c0 c1 c2 c3 c4 c5 c6 : Value} (hr : r = [c0, c1, c2, c3, c4, c5, c6]) :
    w.cell? ⟨g, off + i * 7, none⟩ = some c0 ∧ w.cell? ⟨g, off + i * 7 + 1, none⟩ = some c1 ∧ w.cell? ⟨g, off + i * 7 + 2, none⟩ = some c2 ∧ w.cell? ⟨g, off + i * 7 + 3, none⟩ = some c3 ∧ w.cell? ⟨g, off + i * 7 + 4, none⟩ = some c4 ∧ w.cell? ⟨g, off + i * 7 + 5, none⟩ = some c5 ∧ w.cell? ⟨g, off + i * 7 + 6, none⟩ = some c6 := by
  subst hr
  have e : ∀ j, off + (i * 7 + j) = off + i * 7 + j := fun j => by omega
  have k : ∀ j u, [c0, c1, c2, c3, c4, c5, c6][j]? = some u → w.cell? ⟨g, off + i * 7 + j, none⟩ = some u := fun j u hu => by rw [← e]; exact Go.Proofs.YtgfppajbegcaeaaDoor.Sl.cell_kept (h j u hu) hb
  exact ⟨k 0 _ rfl, k 1 _ rfl, k 2 _ rfl, k 3 _ rfl, k 4 _ rfl, k 5 _ rfl, k 6 _ rfl⟩
/-- What formed does: its answer, and the count in the box B. -/
def FmP (w : World) (B : Nat) (Z : Bool × Nat) (e : Ending) (w' : World) : Prop := e = .returned (.bool Z.1) ∧ Boxed w' B 3 (.int .i64 (Z.2 : Int)) ∧ w.grownBy w' (some B)
theorem grown_below {w w' : World} {r : Option Nat} (h : Below w.heap.size w w') : w.grownBy w' r := ⟨h.os, h.tape, h.output, h.size, fun k hk _ => h.block k hk⟩
theorem boxed_below {w w' : World} {B : Nat} {t : TypeId} {v : Value} (h : Boxed w B t v) (hb : Below w.heap.size w w') : Boxed w' B t v := (hb.block B h.lt).trans h
theorem below_grown {W0 w w' : World} {B : Nat} (h : Below W0.heap.size W0 w) (hg : w.grownBy w' (some B)) (hB : W0.heap.size ≤ B) : Below W0.heap.size W0 w' := h.grown hg h.size (fun k hk => by cases hk; exact hB)
theorem FmP.end {w w' : World} {B : Nat} {b : Bool} {n : Nat} {x y : Int} (h : Boxed w B 3 (.int .i64 x)) (hy : y = (n : Int)) (hb : Below (w.setCell ⟨B, 0, none⟩ (.int .i64 y)).heap.size (w.setCell ⟨B, 0, none⟩ (.int .i64 y)) w') : FmP w B (b, n) (.returned (.bool b)) w' := by
  subst hy
  exact ⟨rfl, boxed_below (h.set _) hb, (grownBy_setCell' w B _).trans (grown_below hb)⟩
end Go.Proofs.YtgfppajbegcaeaaDoor.Va
