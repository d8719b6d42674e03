/-
  The walk of the reference's typed (layer 33).
-/
import Derived.Test.YtgfppajbegcaeaaDoorVcT
set_option linter.unusedSimpArgs false
set_option linter.unusedVariables false
namespace Go.Proofs.YtgfppajbegcaeaaDoor.Va
open Go.RowKit Go.ChangeShapes Go.WideShapes Go.Proofs.YtgfppajbegcaeaaDoor.Sl Go.Lib

/-- What the reference's typed does for one condition. -/
def rtpOk (l : List Cl) (x : CN) : Prop := ∀ (cs : List Value) (d : Nat) (sl : Value) (w : World), CnAt w cs x → good x d = true → Cs w sl l →
  Calls Tryd.prog 54 #[.agg cs.toArray, sl] w fun e w' => e = .returned (.int .i64 (typ x l)) ∧ Below w.heap.size w w'
theorem calls_below {f : FuncId} {args : Array Value} {W : World} {v : Value} (h : Calls Tryd.prog f args W fun e w' => e = .returned v ∧ w' = W) : Calls Tryd.prog f args W fun e w' => e = .returned v ∧ Below W.heap.size W w' :=
  h.mono fun e w' ⟨h1, h2⟩ => ⟨h1, h2 ▸ Below.refl _ _⟩
set_option maxRecDepth 20000 in
theorem rtp1_a (col : ByteArray) (oth : ByteArray) (v0 v1 : Int) (v2 : ByteArray) (ad : Option Addr) (cap : Nat) (w : World) (sl : Value) (HF1 : ∀ W, Below w.heap.size w W → Calls Tryd.prog 69 #[sl, .string col] W fun e w' => e = .returned (.int .i64 (-1)) ∧ Below W.heap.size W w') :
    Calls Tryd.prog 54 #[agC 1 col oth v0 v1 v2 (.slice ad 0 cap), sl] w fun e w' => e = .returned (.int .i64 7) ∧ Below w.heap.size w w' := by
  go_enter Tryd.func54, Tryd.ntmps54
  go_wp2_with (first | (go_at_call 69; ((with_reducible refine (HF1 _ (bstep (w := w) (by go_grown) hL)).mono ?_); rintro e w1 ⟨rfl, hb⟩; (first | (replace hL := bstep hL hb) | (have hL := hb)); clear hb; replace hc := bcell hL)) | (go_at_call 69; ((with_reducible refine (HF1 _ (by go_grown)).mono ?_); rintro e w1 ⟨rfl, hb⟩; (first | (replace hL := bstep hL hb) | (have hL := hb)); clear hb; replace hc := bcell hL)) | (go_at_call 69; ((with_reducible refine (HF2 _ (bstep (w := w) (by go_grown) hL)).mono ?_); rintro e w1 ⟨rfl, hb⟩; (first | (replace hL := bstep hL hb) | (have hL := hb)); clear hb; replace hc := bcell hL)) | (go_at_call 69; ((with_reducible refine (HF2 _ (by go_grown)).mono ?_); rintro e w1 ⟨rfl, hb⟩; (first | (replace hL := bstep hL hb) | (have hL := hb)); clear hb; replace hc := bcell hL)))
  go_ret
  exact ⟨rfl, (by have hB := bstep (w := w) (by go_grown) hL; have hs := hB.size; go_grown)⟩
set_option maxRecDepth 20000 in
theorem rtp1_s (col : ByteArray) (v0 v1 : Int) (v2 : ByteArray) (ad : Option Addr) (cap : Nat) (w : World) (g off n capl : Nat) (i : Nat) (hi : i < n) (b : Int) (c1 : w.cell? ⟨g, off + i * 2 + 1, none⟩ = some (.int .i64 b)) (HF1 : ∀ W, Below w.heap.size w W → Calls Tryd.prog 69 #[(.slice (some ⟨g, off, none⟩) n capl), .string col] W fun e w' => e = .returned (.int .i64 (i : Int)) ∧ Below W.heap.size W w') (hb : v0 = b) :
    Calls Tryd.prog 54 #[agC 1 col ⟨#[]⟩ v0 v1 v2 (.slice ad 0 cap), (.slice (some ⟨g, off, none⟩) n capl)] w fun e w' => e = .returned (.int .i64 0) ∧ Below w.heap.size w w' := by
  subst hb
  have hg := block_of_cell c1
  have i0 : (0 : Int) ≤ (i : Int) := by omega
  have i1 : (i : Int) < (n : Int) := by omega
  go_enter Tryd.func54, Tryd.ntmps54
  go_wp2_with (first | (go_at_call 69; ((with_reducible refine (HF1 _ (bstep (w := w) (by go_grown) hL)).mono ?_); rintro e w1 ⟨rfl, hb⟩; (first | (replace hL := bstep hL hb) | (have hL := hb)); clear hb; replace hc := bcell hL)) | (go_at_call 69; ((with_reducible refine (HF1 _ (by go_grown)).mono ?_); rintro e w1 ⟨rfl, hb⟩; (first | (replace hL := bstep hL hb) | (have hL := hb)); clear hb; replace hc := bcell hL)) | (go_at_call 69; ((with_reducible refine (HF2 _ (bstep (w := w) (by go_grown) hL)).mono ?_); rintro e w1 ⟨rfl, hb⟩; (first | (replace hL := bstep hL hb) | (have hL := hb)); clear hb; replace hc := bcell hL)) | (go_at_call 69; ((with_reducible refine (HF2 _ (by go_grown)).mono ?_); rintro e w1 ⟨rfl, hb⟩; (first | (replace hL := bstep hL hb) | (have hL := hb)); clear hb; replace hc := bcell hL)))
  refine wp_loop_rounds 1 ?_
  rw [rounds_succ]
  go_wp2
  go_ret
  exact ⟨rfl, (by have hB := bstep (w := w) (by go_grown) hL; have hs := hB.size; go_grown)⟩
set_option maxRecDepth 20000 in
theorem rtp1_n (col : ByteArray) (v0 v1 : Int) (v2 : ByteArray) (ad : Option Addr) (cap : Nat) (w : World) (g off n capl : Nat) (i : Nat) (hi : i < n) (b : Int) (c1 : w.cell? ⟨g, off + i * 2 + 1, none⟩ = some (.int .i64 b)) (HF1 : ∀ W, Below w.heap.size w W → Calls Tryd.prog 69 #[(.slice (some ⟨g, off, none⟩) n capl), .string col] W fun e w' => e = .returned (.int .i64 (i : Int)) ∧ Below W.heap.size W w') (hb : ¬ v0 = b) :
    Calls Tryd.prog 54 #[agC 1 col ⟨#[]⟩ v0 v1 v2 (.slice ad 0 cap), (.slice (some ⟨g, off, none⟩) n capl)] w fun e w' => e = .returned (.int .i64 13) ∧ Below w.heap.size w w' := by
  have hb1 : (v0 == b) = false := by simpa using hb
  have hb2 : ¬ b = v0 := fun h => hb h.symm
  have hb3 : (b == v0) = false := by simpa using hb2
  have hg := block_of_cell c1
  have i0 : (0 : Int) ≤ (i : Int) := by omega
  have i1 : (i : Int) < (n : Int) := by omega
  go_enter Tryd.func54, Tryd.ntmps54
  go_wp2_with (first | (go_at_call 69; ((with_reducible refine (HF1 _ (bstep (w := w) (by go_grown) hL)).mono ?_); rintro e w1 ⟨rfl, hb⟩; (first | (replace hL := bstep hL hb) | (have hL := hb)); clear hb; replace hc := bcell hL)) | (go_at_call 69; ((with_reducible refine (HF1 _ (by go_grown)).mono ?_); rintro e w1 ⟨rfl, hb⟩; (first | (replace hL := bstep hL hb) | (have hL := hb)); clear hb; replace hc := bcell hL)) | (go_at_call 69; ((with_reducible refine (HF2 _ (bstep (w := w) (by go_grown) hL)).mono ?_); rintro e w1 ⟨rfl, hb⟩; (first | (replace hL := bstep hL hb) | (have hL := hb)); clear hb; replace hc := bcell hL)) | (go_at_call 69; ((with_reducible refine (HF2 _ (by go_grown)).mono ?_); rintro e w1 ⟨rfl, hb⟩; (first | (replace hL := bstep hL hb) | (have hL := hb)); clear hb; replace hc := bcell hL)))
  go_ret
  exact ⟨rfl, (by have hB := bstep (w := w) (by go_grown) hL; have hs := hB.size; go_grown)⟩
set_option maxRecDepth 20000 in
theorem rtp1_o (col : ByteArray) (oth : ByteArray) (ho : ¬ oth = ⟨#[]⟩) (v0 v1 : Int) (v2 : ByteArray) (ad : Option Addr) (cap : Nat) (w : World) (g off n capl : Nat) (i : Nat) (hi : i < n) (b : Int) (c1 : w.cell? ⟨g, off + i * 2 + 1, none⟩ = some (.int .i64 b)) (HF1 : ∀ W, Below w.heap.size w W → Calls Tryd.prog 69 #[(.slice (some ⟨g, off, none⟩) n capl), .string col] W fun e w' => e = .returned (.int .i64 (i : Int)) ∧ Below W.heap.size W w') (HF2 : ∀ W, Below w.heap.size w W → Calls Tryd.prog 69 #[(.slice (some ⟨g, off, none⟩) n capl), .string oth] W fun e w' => e = .returned (.int .i64 (-1)) ∧ Below W.heap.size W w') :
    Calls Tryd.prog 54 #[agC 1 col oth v0 v1 v2 (.slice ad 0 cap), (.slice (some ⟨g, off, none⟩) n capl)] w fun e w' => e = .returned (.int .i64 7) ∧ Below w.heap.size w w' := by
  obtain ⟨q1, q2, q3⟩ := list_ne oth ho
  have hg := block_of_cell c1
  have i0 : (0 : Int) ≤ (i : Int) := by omega
  have i1 : (i : Int) < (n : Int) := by omega
  go_enter Tryd.func54, Tryd.ntmps54
  go_wp2_with (first | (go_at_call 69; ((with_reducible refine (HF1 _ (bstep (w := w) (by go_grown) hL)).mono ?_); rintro e w1 ⟨rfl, hb⟩; (first | (replace hL := bstep hL hb) | (have hL := hb)); clear hb; replace hc := bcell hL)) | (go_at_call 69; ((with_reducible refine (HF1 _ (by go_grown)).mono ?_); rintro e w1 ⟨rfl, hb⟩; (first | (replace hL := bstep hL hb) | (have hL := hb)); clear hb; replace hc := bcell hL)) | (go_at_call 69; ((with_reducible refine (HF2 _ (bstep (w := w) (by go_grown) hL)).mono ?_); rintro e w1 ⟨rfl, hb⟩; (first | (replace hL := bstep hL hb) | (have hL := hb)); clear hb; replace hc := bcell hL)) | (go_at_call 69; ((with_reducible refine (HF2 _ (by go_grown)).mono ?_); rintro e w1 ⟨rfl, hb⟩; (first | (replace hL := bstep hL hb) | (have hL := hb)); clear hb; replace hc := bcell hL)))
  go_ret
  exact ⟨rfl, (by have hB := bstep (w := w) (by go_grown) hL; have hs := hB.size; go_grown)⟩
set_option maxRecDepth 20000 in
theorem rtp1_os (col : ByteArray) (oth : ByteArray) (ho : ¬ oth = ⟨#[]⟩) (v0 v1 : Int) (v2 : ByteArray) (ad : Option Addr) (cap : Nat) (w : World) (g off n capl : Nat) (i : Nat) (hi : i < n) (b : Int) (c1 : w.cell? ⟨g, off + i * 2 + 1, none⟩ = some (.int .i64 b)) (m : Nat) (hm : m < n) (b2 : Int) (c2 : w.cell? ⟨g, off + m * 2 + 1, none⟩ = some (.int .i64 b2)) (HF1 : ∀ W, Below w.heap.size w W → Calls Tryd.prog 69 #[(.slice (some ⟨g, off, none⟩) n capl), .string col] W fun e w' => e = .returned (.int .i64 (i : Int)) ∧ Below W.heap.size W w') (HF2 : ∀ W, Below w.heap.size w W → Calls Tryd.prog 69 #[(.slice (some ⟨g, off, none⟩) n capl), .string oth] W fun e w' => e = .returned (.int .i64 (m : Int)) ∧ Below W.heap.size W w') (hb : b2 = b) :
    Calls Tryd.prog 54 #[agC 1 col oth v0 v1 v2 (.slice ad 0 cap), (.slice (some ⟨g, off, none⟩) n capl)] w fun e w' => e = .returned (.int .i64 0) ∧ Below w.heap.size w w' := by
  subst hb
  obtain ⟨q1, q2, q3⟩ := list_ne oth ho
  have hg := block_of_cell c1
  have i0 : (0 : Int) ≤ (i : Int) := by omega
  have i1 : (i : Int) < (n : Int) := by omega
  have m0 : (0 : Int) ≤ (m : Int) := by omega
  have m1 : (m : Int) < (n : Int) := by omega
  go_enter Tryd.func54, Tryd.ntmps54
  go_wp2_with (first | (go_at_call 69; ((with_reducible refine (HF1 _ (bstep (w := w) (by go_grown) hL)).mono ?_); rintro e w1 ⟨rfl, hb⟩; (first | (replace hL := bstep hL hb) | (have hL := hb)); clear hb; replace hc := bcell hL)) | (go_at_call 69; ((with_reducible refine (HF1 _ (by go_grown)).mono ?_); rintro e w1 ⟨rfl, hb⟩; (first | (replace hL := bstep hL hb) | (have hL := hb)); clear hb; replace hc := bcell hL)) | (go_at_call 69; ((with_reducible refine (HF2 _ (bstep (w := w) (by go_grown) hL)).mono ?_); rintro e w1 ⟨rfl, hb⟩; (first | (replace hL := bstep hL hb) | (have hL := hb)); clear hb; replace hc := bcell hL)) | (go_at_call 69; ((with_reducible refine (HF2 _ (by go_grown)).mono ?_); rintro e w1 ⟨rfl, hb⟩; (first | (replace hL := bstep hL hb) | (have hL := hb)); clear hb; replace hc := bcell hL)))
  refine wp_loop_rounds 1 ?_
  rw [rounds_succ]
  go_wp2
  go_ret
  exact ⟨rfl, (by have hB := bstep (w := w) (by go_grown) hL; have hs := hB.size; go_grown)⟩
set_option maxRecDepth 20000 in
theorem rtp1_on (col : ByteArray) (oth : ByteArray) (ho : ¬ oth = ⟨#[]⟩) (v0 v1 : Int) (v2 : ByteArray) (ad : Option Addr) (cap : Nat) (w : World) (g off n capl : Nat) (i : Nat) (hi : i < n) (b : Int) (c1 : w.cell? ⟨g, off + i * 2 + 1, none⟩ = some (.int .i64 b)) (m : Nat) (hm : m < n) (b2 : Int) (c2 : w.cell? ⟨g, off + m * 2 + 1, none⟩ = some (.int .i64 b2)) (HF1 : ∀ W, Below w.heap.size w W → Calls Tryd.prog 69 #[(.slice (some ⟨g, off, none⟩) n capl), .string col] W fun e w' => e = .returned (.int .i64 (i : Int)) ∧ Below W.heap.size W w') (HF2 : ∀ W, Below w.heap.size w W → Calls Tryd.prog 69 #[(.slice (some ⟨g, off, none⟩) n capl), .string oth] W fun e w' => e = .returned (.int .i64 (m : Int)) ∧ Below W.heap.size W w') (hb : ¬ b2 = b) :
    Calls Tryd.prog 54 #[agC 1 col oth v0 v1 v2 (.slice ad 0 cap), (.slice (some ⟨g, off, none⟩) n capl)] w fun e w' => e = .returned (.int .i64 13) ∧ Below w.heap.size w w' := by
  have hb1 : (b2 == b) = false := by simpa using hb
  have hb2 : ¬ b = b2 := fun h => hb h.symm
  have hb3 : (b == b2) = false := by simpa using hb2
  obtain ⟨q1, q2, q3⟩ := list_ne oth ho
  have hg := block_of_cell c1
  have i0 : (0 : Int) ≤ (i : Int) := by omega
  have i1 : (i : Int) < (n : Int) := by omega
  have m0 : (0 : Int) ≤ (m : Int) := by omega
  have m1 : (m : Int) < (n : Int) := by omega
  go_enter Tryd.func54, Tryd.ntmps54
  go_wp2_with (first | (go_at_call 69; ((with_reducible refine (HF1 _ (bstep (w := w) (by go_grown) hL)).mono ?_); rintro e w1 ⟨rfl, hb⟩; (first | (replace hL := bstep hL hb) | (have hL := hb)); clear hb; replace hc := bcell hL)) | (go_at_call 69; ((with_reducible refine (HF1 _ (by go_grown)).mono ?_); rintro e w1 ⟨rfl, hb⟩; (first | (replace hL := bstep hL hb) | (have hL := hb)); clear hb; replace hc := bcell hL)) | (go_at_call 69; ((with_reducible refine (HF2 _ (bstep (w := w) (by go_grown) hL)).mono ?_); rintro e w1 ⟨rfl, hb⟩; (first | (replace hL := bstep hL hb) | (have hL := hb)); clear hb; replace hc := bcell hL)) | (go_at_call 69; ((with_reducible refine (HF2 _ (by go_grown)).mono ?_); rintro e w1 ⟨rfl, hb⟩; (first | (replace hL := bstep hL hb) | (have hL := hb)); clear hb; replace hc := bcell hL)))
  go_ret
  exact ⟨rfl, (by have hB := bstep (w := w) (by go_grown) hL; have hs := hB.size; go_grown)⟩
set_option maxRecDepth 20000 in
theorem rtp2_a (col : ByteArray) (oth : ByteArray) (v0 v1 : Int) (v2 : ByteArray) (ad : Option Addr) (cap : Nat) (w : World) (sl : Value) (HF1 : ∀ W, Below w.heap.size w W → Calls Tryd.prog 69 #[sl, .string col] W fun e w' => e = .returned (.int .i64 (-1)) ∧ Below W.heap.size W w') :
    Calls Tryd.prog 54 #[agC 2 col oth v0 v1 v2 (.slice ad 0 cap), sl] w fun e w' => e = .returned (.int .i64 7) ∧ Below w.heap.size w w' := by
  go_enter Tryd.func54, Tryd.ntmps54
  go_wp2_with (first | (go_at_call 69; ((with_reducible refine (HF1 _ (bstep (w := w) (by go_grown) hL)).mono ?_); rintro e w1 ⟨rfl, hb⟩; (first | (replace hL := bstep hL hb) | (have hL := hb)); clear hb; replace hc := bcell hL)) | (go_at_call 69; ((with_reducible refine (HF1 _ (by go_grown)).mono ?_); rintro e w1 ⟨rfl, hb⟩; (first | (replace hL := bstep hL hb) | (have hL := hb)); clear hb; replace hc := bcell hL)) | (go_at_call 69; ((with_reducible refine (HF2 _ (bstep (w := w) (by go_grown) hL)).mono ?_); rintro e w1 ⟨rfl, hb⟩; (first | (replace hL := bstep hL hb) | (have hL := hb)); clear hb; replace hc := bcell hL)) | (go_at_call 69; ((with_reducible refine (HF2 _ (by go_grown)).mono ?_); rintro e w1 ⟨rfl, hb⟩; (first | (replace hL := bstep hL hb) | (have hL := hb)); clear hb; replace hc := bcell hL)))
  go_ret
  exact ⟨rfl, (by have hB := bstep (w := w) (by go_grown) hL; have hs := hB.size; go_grown)⟩
set_option maxRecDepth 20000 in
theorem rtp2_s (col : ByteArray) (v0 v1 : Int) (v2 : ByteArray) (ad : Option Addr) (cap : Nat) (w : World) (g off n capl : Nat) (i : Nat) (hi : i < n) (b : Int) (c1 : w.cell? ⟨g, off + i * 2 + 1, none⟩ = some (.int .i64 b)) (HF1 : ∀ W, Below w.heap.size w W → Calls Tryd.prog 69 #[(.slice (some ⟨g, off, none⟩) n capl), .string col] W fun e w' => e = .returned (.int .i64 (i : Int)) ∧ Below W.heap.size W w') (hb : v0 = b) :
    Calls Tryd.prog 54 #[agC 2 col ⟨#[]⟩ v0 v1 v2 (.slice ad 0 cap), (.slice (some ⟨g, off, none⟩) n capl)] w fun e w' => e = .returned (.int .i64 0) ∧ Below w.heap.size w w' := by
  subst hb
  have hg := block_of_cell c1
  have i0 : (0 : Int) ≤ (i : Int) := by omega
  have i1 : (i : Int) < (n : Int) := by omega
  go_enter Tryd.func54, Tryd.ntmps54
  go_wp2_with (first | (go_at_call 69; ((with_reducible refine (HF1 _ (bstep (w := w) (by go_grown) hL)).mono ?_); rintro e w1 ⟨rfl, hb⟩; (first | (replace hL := bstep hL hb) | (have hL := hb)); clear hb; replace hc := bcell hL)) | (go_at_call 69; ((with_reducible refine (HF1 _ (by go_grown)).mono ?_); rintro e w1 ⟨rfl, hb⟩; (first | (replace hL := bstep hL hb) | (have hL := hb)); clear hb; replace hc := bcell hL)) | (go_at_call 69; ((with_reducible refine (HF2 _ (bstep (w := w) (by go_grown) hL)).mono ?_); rintro e w1 ⟨rfl, hb⟩; (first | (replace hL := bstep hL hb) | (have hL := hb)); clear hb; replace hc := bcell hL)) | (go_at_call 69; ((with_reducible refine (HF2 _ (by go_grown)).mono ?_); rintro e w1 ⟨rfl, hb⟩; (first | (replace hL := bstep hL hb) | (have hL := hb)); clear hb; replace hc := bcell hL)))
  refine wp_loop_rounds 1 ?_
  rw [rounds_succ]
  go_wp2
  go_ret
  exact ⟨rfl, (by have hB := bstep (w := w) (by go_grown) hL; have hs := hB.size; go_grown)⟩
set_option maxRecDepth 20000 in
theorem rtp2_n (col : ByteArray) (v0 v1 : Int) (v2 : ByteArray) (ad : Option Addr) (cap : Nat) (w : World) (g off n capl : Nat) (i : Nat) (hi : i < n) (b : Int) (c1 : w.cell? ⟨g, off + i * 2 + 1, none⟩ = some (.int .i64 b)) (HF1 : ∀ W, Below w.heap.size w W → Calls Tryd.prog 69 #[(.slice (some ⟨g, off, none⟩) n capl), .string col] W fun e w' => e = .returned (.int .i64 (i : Int)) ∧ Below W.heap.size W w') (hb : ¬ v0 = b) :
    Calls Tryd.prog 54 #[agC 2 col ⟨#[]⟩ v0 v1 v2 (.slice ad 0 cap), (.slice (some ⟨g, off, none⟩) n capl)] w fun e w' => e = .returned (.int .i64 13) ∧ Below w.heap.size w w' := by
  have hb1 : (v0 == b) = false := by simpa using hb
  have hb2 : ¬ b = v0 := fun h => hb h.symm
  have hb3 : (b == v0) = false := by simpa using hb2
  have hg := block_of_cell c1
  have i0 : (0 : Int) ≤ (i : Int) := by omega
  have i1 : (i : Int) < (n : Int) := by omega
  go_enter Tryd.func54, Tryd.ntmps54
  go_wp2_with (first | (go_at_call 69; ((with_reducible refine (HF1 _ (bstep (w := w) (by go_grown) hL)).mono ?_); rintro e w1 ⟨rfl, hb⟩; (first | (replace hL := bstep hL hb) | (have hL := hb)); clear hb; replace hc := bcell hL)) | (go_at_call 69; ((with_reducible refine (HF1 _ (by go_grown)).mono ?_); rintro e w1 ⟨rfl, hb⟩; (first | (replace hL := bstep hL hb) | (have hL := hb)); clear hb; replace hc := bcell hL)) | (go_at_call 69; ((with_reducible refine (HF2 _ (bstep (w := w) (by go_grown) hL)).mono ?_); rintro e w1 ⟨rfl, hb⟩; (first | (replace hL := bstep hL hb) | (have hL := hb)); clear hb; replace hc := bcell hL)) | (go_at_call 69; ((with_reducible refine (HF2 _ (by go_grown)).mono ?_); rintro e w1 ⟨rfl, hb⟩; (first | (replace hL := bstep hL hb) | (have hL := hb)); clear hb; replace hc := bcell hL)))
  go_ret
  exact ⟨rfl, (by have hB := bstep (w := w) (by go_grown) hL; have hs := hB.size; go_grown)⟩
set_option maxRecDepth 20000 in
theorem rtp2_o (col : ByteArray) (oth : ByteArray) (ho : ¬ oth = ⟨#[]⟩) (v0 v1 : Int) (v2 : ByteArray) (ad : Option Addr) (cap : Nat) (w : World) (g off n capl : Nat) (i : Nat) (hi : i < n) (b : Int) (c1 : w.cell? ⟨g, off + i * 2 + 1, none⟩ = some (.int .i64 b)) (HF1 : ∀ W, Below w.heap.size w W → Calls Tryd.prog 69 #[(.slice (some ⟨g, off, none⟩) n capl), .string col] W fun e w' => e = .returned (.int .i64 (i : Int)) ∧ Below W.heap.size W w') (HF2 : ∀ W, Below w.heap.size w W → Calls Tryd.prog 69 #[(.slice (some ⟨g, off, none⟩) n capl), .string oth] W fun e w' => e = .returned (.int .i64 (-1)) ∧ Below W.heap.size W w') :
    Calls Tryd.prog 54 #[agC 2 col oth v0 v1 v2 (.slice ad 0 cap), (.slice (some ⟨g, off, none⟩) n capl)] w fun e w' => e = .returned (.int .i64 7) ∧ Below w.heap.size w w' := by
  obtain ⟨q1, q2, q3⟩ := list_ne oth ho
  have hg := block_of_cell c1
  have i0 : (0 : Int) ≤ (i : Int) := by omega
  have i1 : (i : Int) < (n : Int) := by omega
  go_enter Tryd.func54, Tryd.ntmps54
  go_wp2_with (first | (go_at_call 69; ((with_reducible refine (HF1 _ (bstep (w := w) (by go_grown) hL)).mono ?_); rintro e w1 ⟨rfl, hb⟩; (first | (replace hL := bstep hL hb) | (have hL := hb)); clear hb; replace hc := bcell hL)) | (go_at_call 69; ((with_reducible refine (HF1 _ (by go_grown)).mono ?_); rintro e w1 ⟨rfl, hb⟩; (first | (replace hL := bstep hL hb) | (have hL := hb)); clear hb; replace hc := bcell hL)) | (go_at_call 69; ((with_reducible refine (HF2 _ (bstep (w := w) (by go_grown) hL)).mono ?_); rintro e w1 ⟨rfl, hb⟩; (first | (replace hL := bstep hL hb) | (have hL := hb)); clear hb; replace hc := bcell hL)) | (go_at_call 69; ((with_reducible refine (HF2 _ (by go_grown)).mono ?_); rintro e w1 ⟨rfl, hb⟩; (first | (replace hL := bstep hL hb) | (have hL := hb)); clear hb; replace hc := bcell hL)))
  go_ret
  exact ⟨rfl, (by have hB := bstep (w := w) (by go_grown) hL; have hs := hB.size; go_grown)⟩
set_option maxRecDepth 20000 in
theorem rtp2_os (col : ByteArray) (oth : ByteArray) (ho : ¬ oth = ⟨#[]⟩) (v0 v1 : Int) (v2 : ByteArray) (ad : Option Addr) (cap : Nat) (w : World) (g off n capl : Nat) (i : Nat) (hi : i < n) (b : Int) (c1 : w.cell? ⟨g, off + i * 2 + 1, none⟩ = some (.int .i64 b)) (m : Nat) (hm : m < n) (b2 : Int) (c2 : w.cell? ⟨g, off + m * 2 + 1, none⟩ = some (.int .i64 b2)) (HF1 : ∀ W, Below w.heap.size w W → Calls Tryd.prog 69 #[(.slice (some ⟨g, off, none⟩) n capl), .string col] W fun e w' => e = .returned (.int .i64 (i : Int)) ∧ Below W.heap.size W w') (HF2 : ∀ W, Below w.heap.size w W → Calls Tryd.prog 69 #[(.slice (some ⟨g, off, none⟩) n capl), .string oth] W fun e w' => e = .returned (.int .i64 (m : Int)) ∧ Below W.heap.size W w') (hb : b2 = b) :
    Calls Tryd.prog 54 #[agC 2 col oth v0 v1 v2 (.slice ad 0 cap), (.slice (some ⟨g, off, none⟩) n capl)] w fun e w' => e = .returned (.int .i64 0) ∧ Below w.heap.size w w' := by
  subst hb
  obtain ⟨q1, q2, q3⟩ := list_ne oth ho
  have hg := block_of_cell c1
  have i0 : (0 : Int) ≤ (i : Int) := by omega
  have i1 : (i : Int) < (n : Int) := by omega
  have m0 : (0 : Int) ≤ (m : Int) := by omega
  have m1 : (m : Int) < (n : Int) := by omega
  go_enter Tryd.func54, Tryd.ntmps54
  go_wp2_with (first | (go_at_call 69; ((with_reducible refine (HF1 _ (bstep (w := w) (by go_grown) hL)).mono ?_); rintro e w1 ⟨rfl, hb⟩; (first | (replace hL := bstep hL hb) | (have hL := hb)); clear hb; replace hc := bcell hL)) | (go_at_call 69; ((with_reducible refine (HF1 _ (by go_grown)).mono ?_); rintro e w1 ⟨rfl, hb⟩; (first | (replace hL := bstep hL hb) | (have hL := hb)); clear hb; replace hc := bcell hL)) | (go_at_call 69; ((with_reducible refine (HF2 _ (bstep (w := w) (by go_grown) hL)).mono ?_); rintro e w1 ⟨rfl, hb⟩; (first | (replace hL := bstep hL hb) | (have hL := hb)); clear hb; replace hc := bcell hL)) | (go_at_call 69; ((with_reducible refine (HF2 _ (by go_grown)).mono ?_); rintro e w1 ⟨rfl, hb⟩; (first | (replace hL := bstep hL hb) | (have hL := hb)); clear hb; replace hc := bcell hL)))
  refine wp_loop_rounds 1 ?_
  rw [rounds_succ]
  go_wp2
  go_ret
  exact ⟨rfl, (by have hB := bstep (w := w) (by go_grown) hL; have hs := hB.size; go_grown)⟩
set_option maxRecDepth 20000 in
theorem rtp2_on (col : ByteArray) (oth : ByteArray) (ho : ¬ oth = ⟨#[]⟩) (v0 v1 : Int) (v2 : ByteArray) (ad : Option Addr) (cap : Nat) (w : World) (g off n capl : Nat) (i : Nat) (hi : i < n) (b : Int) (c1 : w.cell? ⟨g, off + i * 2 + 1, none⟩ = some (.int .i64 b)) (m : Nat) (hm : m < n) (b2 : Int) (c2 : w.cell? ⟨g, off + m * 2 + 1, none⟩ = some (.int .i64 b2)) (HF1 : ∀ W, Below w.heap.size w W → Calls Tryd.prog 69 #[(.slice (some ⟨g, off, none⟩) n capl), .string col] W fun e w' => e = .returned (.int .i64 (i : Int)) ∧ Below W.heap.size W w') (HF2 : ∀ W, Below w.heap.size w W → Calls Tryd.prog 69 #[(.slice (some ⟨g, off, none⟩) n capl), .string oth] W fun e w' => e = .returned (.int .i64 (m : Int)) ∧ Below W.heap.size W w') (hb : ¬ b2 = b) :
    Calls Tryd.prog 54 #[agC 2 col oth v0 v1 v2 (.slice ad 0 cap), (.slice (some ⟨g, off, none⟩) n capl)] w fun e w' => e = .returned (.int .i64 13) ∧ Below w.heap.size w w' := by
  have hb1 : (b2 == b) = false := by simpa using hb
  have hb2 : ¬ b = b2 := fun h => hb h.symm
  have hb3 : (b == b2) = false := by simpa using hb2
  obtain ⟨q1, q2, q3⟩ := list_ne oth ho
  have hg := block_of_cell c1
  have i0 : (0 : Int) ≤ (i : Int) := by omega
  have i1 : (i : Int) < (n : Int) := by omega
  have m0 : (0 : Int) ≤ (m : Int) := by omega
  have m1 : (m : Int) < (n : Int) := by omega
  go_enter Tryd.func54, Tryd.ntmps54
  go_wp2_with (first | (go_at_call 69; ((with_reducible refine (HF1 _ (bstep (w := w) (by go_grown) hL)).mono ?_); rintro e w1 ⟨rfl, hb⟩; (first | (replace hL := bstep hL hb) | (have hL := hb)); clear hb; replace hc := bcell hL)) | (go_at_call 69; ((with_reducible refine (HF1 _ (by go_grown)).mono ?_); rintro e w1 ⟨rfl, hb⟩; (first | (replace hL := bstep hL hb) | (have hL := hb)); clear hb; replace hc := bcell hL)) | (go_at_call 69; ((with_reducible refine (HF2 _ (bstep (w := w) (by go_grown) hL)).mono ?_); rintro e w1 ⟨rfl, hb⟩; (first | (replace hL := bstep hL hb) | (have hL := hb)); clear hb; replace hc := bcell hL)) | (go_at_call 69; ((with_reducible refine (HF2 _ (by go_grown)).mono ?_); rintro e w1 ⟨rfl, hb⟩; (first | (replace hL := bstep hL hb) | (have hL := hb)); clear hb; replace hc := bcell hL)))
  go_ret
  exact ⟨rfl, (by have hB := bstep (w := w) (by go_grown) hL; have hs := hB.size; go_grown)⟩
set_option maxRecDepth 20000 in
theorem rtp_loop (k : Int) (hk1 : ¬ k = 1) (hk2 : ¬ k = 2) (col oth : ByteArray) (v0 v1 : Int) (v2 : ByteArray) (l : List Cl) (sl : Value) (L : List CN) (d : Nat) (ad : Option Addr) (cap : Nat) (w : World) (hlen : L.length ≤ 2) (ih : ∀ x ∈ L, rtpOk l x) (hgd : goodL L d = true) (hs : Cs w sl l)
    (had : L.length ≠ 0 → ∃ g off, ad = some ⟨g, off, none⟩ ∧ ∀ (i : Nat) (x : CN), L[i]? = some x → ∃ r : List Value, CnAt w r x ∧ ∀ (j : Nat) (u : Value), r[j]? = some u → w.cell? ⟨g, off + (i * 7 + j), none⟩ = some u) :
    Calls Tryd.prog 54 #[agC k col oth v0 v1 v2 (.slice ad L.length cap), sl] w fun e w' => e = .returned (.int .i64 (typL L l)) ∧ Below w.heap.size w w' := by
  have HK := Lib.hid had
  have HI := Lib.hid ih
  have HG := Lib.hid hgd
  have HS := Lib.hid hs
  obtain ⟨n, hn⟩ : ∃ n, n = L.length := ⟨_, rfl⟩
  have HL := Lib.hid hn
  rw [← hn] at hlen ⊢
  obtain ⟨Z, hZ⟩ : ∃ Z, typL L l = Z := ⟨_, rfl⟩
  have HZ := Lib.hid hZ
  rw [hZ]
  have e1 : (k == 1) = false := by simpa using hk1
  have e2 : (k == 2) = false := by simpa using hk2
  clear had ih hgd hs hn hZ
  go_enter Tryd.func54, Tryd.ntmps54
  go_wp2
  go_loopw [8] (fun i wr => ∃ j : Nat, j ≤ n ∧ i = .int .i64 j ∧ Hid (typL (L.drop j) l = Z) ∧ Below w.heap.size w wr ∧ wr.cell? ⟨w.heap.size, 6, none⟩ = some (.slice ad n cap)) (fun i _ => n - (intOf i).toNat)
  case atStart => exact ⟨0, Nat.zero_le _, rfl, Lib.hid HZ.out, by go_grown, by simp⟩
  case round =>
    obtain ⟨j, hj, rfl, HR, hL, hbx⟩ := hrel
    by_cases hlt : j < n
    · obtain ⟨x, hx⟩ : ∃ t, L[j]? = some t := ⟨_, List.getElem?_eq_getElem (by rw [← HL.out]; exact hlt)⟩
      obtain ⟨g, off, rfl, hk0⟩ := HK.out (by rw [← HL.out]; omega)
      obtain ⟨r, hr, hrc⟩ := hk0 j x hx
      obtain ⟨k', col', oth', u0, u1, u2, ad', n', cap', rfl⟩ := hr.shape
      obtain ⟨c0, c1, c2, c3, c4, c5, c6⟩ := kid_cells hL hrc rfl
      have HC := fun (W : World) (h : Below w.heap.size w W) => HI.out x (List.mem_of_getElem? hx) _ d sl W (CnAt.below h _ _ hr) (goodL_get L d j x HG.out hx) (HS.out.below h)
      have hst := typL_step L l j x hx
      rw [HR.out] at hst
      generalize typ x l = t at HC hst
      have HS1 := Lib.hid hst
      have j0 : (0 : Int) ≤ (j : Int) := by omega
      have j1 : (j : Int) < (n : Int) := by omega
      clear hst hk0 hrc hr hx HZ
      by_cases ht : t = 0
      · subst ht
        have HS2 : Hid (typL (L.drop (j + 1)) l = Z) := Lib.hid (by have := HS1.out; rw [if_pos rfl] at this; exact this.symm)
        go_wp2_with (go_at_call 54; with_reducible refine (HC _ hL).mono ?_; rintro e w1 ⟨rfl, hb⟩; have hbx2 := Go.Proofs.YtgfppajbegcaeaaDoor.Sl.cell_kept hbx hb; have hL2 := bstep (bstep hL (by go_grown)) hb; clear hb)
        go_roundw
        case rel => exact ⟨j + 1, by omega, by go_num, HS2, hL2, hbx2⟩
        case measure => simp [intOf]; omega
      · have HS2 : Hid (Z = t) := Lib.hid (by have := HS1.out; rw [if_neg ht] at this; exact this)
        have ht2 : (t == 0) = false := by simpa using ht
        go_wp2_with (go_at_call 54; with_reducible refine (HC _ hL).mono ?_; rintro e w1 ⟨rfl, hb⟩; have hL2 := bstep (bstep hL (by go_grown)) hb; clear hb)
        go_ret
        exact ⟨by rw [HS2.out]; rfl, hL2⟩
    · have HS2 : Hid (Z = 0) := Lib.hid (by rw [← HR.out, List.drop_of_length_le (by rw [← HL.out]; omega)]; rfl)
      go_wp2
      go_ret
      exact ⟨by rw [HS2.out]; rfl, hL⟩
theorem rtp_any (l : List Cl) (hl : l.length ≤ 2000000) : ∀ c, rtpOk l c := by
  intro c
  induction c using CN.ind with
  | h k col oth v L ih =>
    intro cs d sl w hc hgd hs
    obtain ⟨s, ad, cap, rfl, rfl, had⟩ := hc.open
    obtain ⟨v0, v1, v2⟩ := v
    obtain ⟨hok, hgL⟩ := good_mk hgd
    obtain ⟨hn2, hn0, _⟩ := okN_len hok
    show Calls Tryd.prog 54 #[agC k col oth v0 v1 v2 (.slice ad L.length cap), sl] w _
    by_cases hk : k = 1 ∨ k = 2
    · obtain rfl : L = [] := List.length_eq_zero_iff.1 (hn0 hk)
      have e : typ (.mk k col oth (v0, v1, v2) []) l = typN k col oth (v0, v1, v2) l := by
        rw [typ, typL]; split
        · rename_i h; rw [h]
        · rfl
      rw [e]
      unfold typN
      rw [if_pos hk]
      have HF1 := fun W (hb : Below w.heap.size w W) => calls_below (rat_any l sl col W hl (hs.below hb))
      rcases idx_nat col l with h1 | ⟨i, h1, hi⟩
      · rw [h1] at HF1 ⊢
        rw [if_pos (by omega)]
        rcases hk with rfl | rfl
        · exact rtp1_a col oth v0 v1 v2 ad cap w sl HF1
        · exact rtp2_a col oth v0 v1 v2 ad cap w sl HF1
      · rw [h1] at HF1 ⊢
        rw [if_neg (by omega)]
        obtain ⟨g, off, capl, rfl, hcl⟩ := hs.open (by omega)
        obtain ⟨⟨a, b⟩, ht⟩ : ∃ t, l[i]? = some t := ⟨_, List.getElem?_eq_getElem hi⟩
        obtain ⟨_, c1⟩ := cs_get hcl ht
        rw [kindAt_get l i a b ht]
        by_cases hoth : oth = ⟨#[]⟩
        · subst hoth
          rw [if_pos (show (⟨#[]⟩ : ByteArray).size = 0 from rfl)]
          by_cases hb : v0 = b
          · rw [if_pos hb]
            rcases hk with rfl | rfl
            · exact rtp1_s col v0 v1 v2 ad cap w g off l.length capl i hi b c1 HF1 hb
            · exact rtp2_s col v0 v1 v2 ad cap w g off l.length capl i hi b c1 HF1 hb
          · rw [if_neg hb]
            rcases hk with rfl | rfl
            · exact rtp1_n col v0 v1 v2 ad cap w g off l.length capl i hi b c1 HF1 hb
            · exact rtp2_n col v0 v1 v2 ad cap w g off l.length capl i hi b c1 HF1 hb
        · rw [if_neg (size0 oth hoth)]
          have HF2 := fun W (hb : Below w.heap.size w W) => calls_below (rat_any l _ oth W hl (hs.below hb))
          rcases idx_nat oth l with h2 | ⟨m, h2, hm⟩
          · rw [h2] at HF2 ⊢
            rw [if_pos (by omega)]
            rcases hk with rfl | rfl
            · exact rtp1_o col oth hoth v0 v1 v2 ad cap w g off l.length capl i hi b c1 HF1 HF2
            · exact rtp2_o col oth hoth v0 v1 v2 ad cap w g off l.length capl i hi b c1 HF1 HF2
          · rw [h2] at HF2 ⊢
            rw [if_neg (by omega)]
            obtain ⟨⟨a2, b2⟩, ht2⟩ : ∃ t, l[m]? = some t := ⟨_, List.getElem?_eq_getElem hm⟩
            obtain ⟨_, c2⟩ := cs_get hcl ht2
            rw [kindAt_get l m a2 b2 ht2]
            by_cases hb : b2 = b
            · rw [if_pos hb]
              rcases hk with rfl | rfl
              · exact rtp1_os col oth hoth v0 v1 v2 ad cap w g off l.length capl i hi b c1 m hm b2 c2 HF1 HF2 hb
              · exact rtp2_os col oth hoth v0 v1 v2 ad cap w g off l.length capl i hi b c1 m hm b2 c2 HF1 HF2 hb
            · rw [if_neg hb]
              rcases hk with rfl | rfl
              · exact rtp1_on col oth hoth v0 v1 v2 ad cap w g off l.length capl i hi b c1 m hm b2 c2 HF1 HF2 hb
              · exact rtp2_on col oth hoth v0 v1 v2 ad cap w g off l.length capl i hi b c1 m hm b2 c2 HF1 HF2 hb
    · have e : typ (.mk k col oth (v0, v1, v2) L) l = typL L l := by
        rw [typ, show typN k col oth (v0, v1, v2) l = 0 by unfold typN; rw [if_neg hk], if_pos rfl]
      rw [e]
      exact rtp_loop k (by omega) (by omega) col oth v0 v1 v2 l sl L (d + 1) ad cap w hn2 ih hgL hs had
end Go.Proofs.YtgfppajbegcaeaaDoor.Va
