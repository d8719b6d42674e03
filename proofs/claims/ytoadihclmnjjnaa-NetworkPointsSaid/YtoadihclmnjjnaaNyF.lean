/-
  Networks: equal bounds and choices, and the walk of the law NetworkPoints (layer 46).
-/
import Derived.Test.YtoadihclmnjjnaaNyD
import Derived.Test.YtoadihclmnjjnaaNwVZ
import Derived.Test.YtoadihclmnjjnaaEq
set_option linter.unusedSimpArgs false
set_option linter.unusedVariables false
set_option maxRecDepth 100000
namespace Go.Proofs.Ytoadihclmnjjnaa.Nw
open Go Go.RowKit Go.ChangeShapes Go.WideShapes Go.Proofs.Ytoadihclmnjjnaa.Sl Go.Proofs.Ytoadihclmnjjnaa.Al Go.Lib
open Go.Proofs.Ytoadihclmnjjnaa.Iv (validB ofZ sgn)

theorem run_neq_bnd (a b c : Int) (w : World) : (binOp .neq 68 (.agg #[.int .i64 a, .int .i64 b, .int .i64 c]) (.agg #[.int .i64 a, .int .i64 b, .int .i64 c])).run Try.prog w = .ok (.bool false) w := by
  simp [go_sem]
theorem cellsR_get {w : World} {v : Value} {l : List Rl} (h : Sl w v l.length 3 (cellsR l)) (h0 : l.length ≠ 0) : ∃ g off cap, v = .slice (some ⟨g, off, none⟩) l.length cap ∧ ∀ (k : Nat) (r : Rl), l[k]? = some r →
    w.cell? ⟨g, off + k * 3, none⟩ = some (.int .i64 r.i) ∧ w.cell? ⟨g, off + k * 3 + 1, none⟩ = some (.int .i64 r.j) ∧ w.cell? ⟨g, off + k * 3 + 2, none⟩ = some (.int .i64 r.s) := by
  obtain ⟨g, off, cap, rfl, hc⟩ := h.open h0
  refine ⟨g, off, cap, rfl, fun k r hr => ?_⟩
  obtain ⟨h1, h2, h3⟩ := cellsR_at l k r hr
  exact ⟨hc _ _ h1, hc _ _ h2, hc _ _ h3⟩
set_option maxHeartbeats 8000000 in
theorem equal_bnd (l : List Rl) (v1 v2 : Value) (w : World) (h1 : Sl w v1 l.length 3 (cellsR l)) (h2 : Sl w v2 l.length 3 (cellsR l)) (hl : l.length ≤ 1000000) : Calls Try.prog 40 #[v1, v2] w fun e w' => e = .returned (.bool true) ∧ Below w.heap.size w w' := by
  obtain ⟨a1, c1, rfl⟩ := h1.form
  obtain ⟨a2, c2, rfl⟩ := h2.form
  obtain ⟨n, hn⟩ : ∃ n, n = l.length := ⟨_, rfl⟩
  have HA := Lib.hid h1
  have HB := Lib.hid h2
  have HN := Lib.hid hn
  have hl2 : (n : Int) ≤ 1000000 := by omega
  rw [← hn]
  rw [← hn] at HA HB
  clear h1 h2 hn hl
  have q := run_neq_bnd
  go_enter Try.func40, Try.ntmps40
  go_wp2
  go_loopw [13] (fun i wr => ∃ k : Nat, k ≤ n ∧ i = .int .i64 (k : Int) ∧ Below w.heap.size w wr) (fun i _ => n - (RowKit.intOf i).toNat)
  case atStart => exact ⟨0, Nat.zero_le _, rfl, Below.refl _ _⟩
  case round =>
    obtain ⟨k, hk, rfl, hL⟩ := hrel
    by_cases hlt : k < n
    · obtain ⟨g, off, cap, e, hc⟩ := cellsR_get (show Sl wr (.slice a1 n c1) l.length 3 (cellsR l) by rw [← HN.out]; exact HA.out.below hL) (by rw [← HN.out]; omega)
      rw [← HN.out] at e
      cases e
      obtain ⟨g2, off2, cap2, e2, hc2⟩ := cellsR_get (show Sl wr (.slice a2 n c2) l.length 3 (cellsR l) by rw [← HN.out]; exact HB.out.below hL) (by rw [← HN.out]; omega)
      rw [← HN.out] at e2
      cases e2
      obtain ⟨⟨xi, xj, xs⟩, hx⟩ : ∃ x, l[k]? = some x := ⟨_, List.getElem?_eq_getElem (by rw [← HN.out]; exact hlt)⟩
      obtain ⟨a0, a1, a2⟩ := hc k _ hx
      obtain ⟨b0, b1, b2⟩ := hc2 k _ hx
      dsimp only at a0 a1 a2 b0 b1 b2
      have k0 : (0 : Int) ≤ (k : Int) := by omega
      have k1 : (k : Int) < (n : Int) := by omega
      clear hc hc2 hx
      go_upto_region 6 with fail
      have z0 := cell_regrown a0
      have z1 := cell_regrown a1
      have z2 := cell_regrown a2
      have z3 := cell_regrown b0
      have z4 := cell_regrown b1
      have z5 := cell_regrown b2
      clear a0 a1 a2 b0 b1 b2
      refine wp_region_quiet_below (by kernel_rfl) (by kernel_rfl) ?_
      repeat (go_big_quiet_step (fail))
      refine wpQuiet_nil ?_
      rintro w9 ⟨⟨dq, osq⟩, hw9⟩
      have hL9 : Below w.heap.size w w9 := bstep hL (by rw [hw9]; exact below_regrown _ dq osq)
      clear hw9 hL z0 z1 z2 z3 z4 z5
      go_wp2
      go_roundw
      case rel => exact ⟨k + 1, by omega, by go_num, hL9⟩
      case measure => simp [RowKit.intOf]; omega
    · go_wp2
      go_ret
      exact ⟨rfl, hL⟩
theorem chL_flat : chL.toList = flat [(-4398046511104, 0), (1, 4398046511104)] := rfl
theorem chc_sl {w : World} {g : Nat} (h : w.heap[g]? = some (.cells chL 48 (0, 0))) : Sl w (.slice (some ⟨g, 0, none⟩) 2 2) 2 2 (flat [(-4398046511104, 0), (1, 4398046511104)]) := by
  refine Sl.mk rfl (fun j u hu => ?_)
  rw [Nat.zero_add, cell_of_row _ _ j _ _ _ h, ← Array.getElem?_toList, chL_flat]
  exact hu
set_option maxHeartbeats 8000000 in
theorem clos_chc (p q : Int) (g g2 : Nat) (w : World) (h1 : w.heap[g]? = some (.cells chL 48 (0, 0))) (h2 : w.heap[g2]? = some (.cells chL 48 (0, 0))) :
    Calls Try.prog 42 #[.agg #[.int .i64 p, .int .i64 q, .slice (some ⟨g, 0, none⟩) 2 2], .agg #[.int .i64 p, .int .i64 q, .slice (some ⟨g2, 0, none⟩) 2 2]] w fun e w' => e = .returned (.bool true) ∧ Below w.heap.size w w' := by
  have HE := fun W (h : Below w.heap.size w W) => eqspans_any (.slice (some ⟨g, 0, none⟩) 2 2) (.slice (some ⟨g2, 0, none⟩) 2 2) [(-4398046511104, 0), (1, 4398046511104)] [(-4398046511104, 0), (1, 4398046511104)] W ((chc_sl h1).below h) ((chc_sl h2).below h) (by decide)
  rw [decide_eq_true rfl] at HE
  clear h1 h2
  go_enter Try.func42, Try.ntmps42
  go_wp2_with (go_at_call 43; (with_reducible refine (HE _ (by go_grown)).mono ?_); rintro e w1 ⟨rfl, hb⟩; have hL : Below w.heap.size w w1 := bstep (by go_grown) hb)
  go_ret
  exact ⟨rfl, hL⟩
end Go.Proofs.Ytoadihclmnjjnaa.Nw
