/-
  Networks: the walk of the laws' awake (layer 46).
-/
import Derived.Test.YtoadihclmnjjnaaNwY
set_option linter.unusedSimpArgs false
set_option linter.unusedVariables false
set_option maxRecDepth 100000
namespace Go.Proofs.Ytoadihclmnjjnaa.Nw
open Go Go.RowKit Go.ChangeShapes Go.WideShapes Go.Proofs.Ytoadihclmnjjnaa.Sl Go.Proofs.Ytoadihclmnjjnaa.Al Go.Lib

theorem rel_any (i j : Int) (w : World) : Calls Try.prog 49 #[.int .i64 i, .int .i64 j, .int .i64 0] w fun e w' => e = .returned (.agg #[.int .i64 i, .int .i64 j, .int .i64 1]) ∧ Below w.heap.size w w' := by
  go_enter Try.func49, Try.ntmps49
  go_wp2
  refine bodyPost_ret (by simp [results, Try.results49, go_sem]; try rfl) rfl ?_
  exact ⟨rfl, by go_grown⟩
theorem rf_two {w W : World} {g : Nat} (hb : Below w.heap.size w W) (hg : w.heap.size ≤ g) (hh : W.heap[g]? = some (.cells #[.int .i64 0, .int .i64 1, .int .i64 1, .int .i64 1, .int .i64 2, .int .i64 1] 30 (0, 0))) : Rf w W (.slice (some ⟨g, 0, none⟩) 2 2) [r01, r12] :=
  ⟨⟨rfl, .inr ⟨g, 2, _, rfl, hg, hh, Nat.le_refl _, by unfold maxLen; omega, rfl, rfl⟩⟩, hb⟩
theorem Rf.step {w W W' : World} {v : Value} {l : List Rl} (h : Rf w W v l) (hb : Below W.heap.size W W') : Rf w W' v l := by
  refine ⟨?_, bstep h.2 hb⟩
  obtain ⟨h1, h2 | ⟨g, cap, cur, q1, q2, q3, q4⟩⟩ := h.1
  · exact ⟨h1, .inl h2⟩
  · exact ⟨h1, .inr ⟨g, cap, cur, q1, q2, (hb.block g (Array.getElem?_eq_some_iff.1 q3).1).trans q3, q4⟩⟩
theorem wp_rel2 {ops : Array Oper} {rest : List Oper} {o : Oper} {a : Act} {Q : Exit → Act → World → Prop} {W0 w : World} {gv n c : Nat} {l : List Rl} (hB : Rf W0 w (.slice (some ⟨gv, 0, none⟩) n c) l) (hn : n = l.length) (hgd : o.guard = none) (s x : Operand)
    (ho : o.op = .call { callee := .builtin .append, args := #[s, x], argTypes := #[22, 22] }) (hs : a.eval s = .slice (some ⟨gv, 0, none⟩) n c) {H : Nat} (te : TypeId)
    (hx : a.eval x = .slice (some ⟨H, 0, none⟩) 1 1) (hH : w.heap.size = H) (u : Rl) (hlen : l.length ≤ 1000000)
    (h : ∀ v' w', Rf W0 w' v' (l ++ [u]) → Md (fun k => k = gv) w w' → wpList Try.prog ops Q rest (a.put o.dst v') w') : wpList Try.prog ops Q (o :: rest) a (w.alloc (.cells #[.int .i64 u.i, .int .i64 u.j, .int .i64 u.s] te)) := by
  obtain ⟨i0, hi, hz0, hz1, hz2⟩ := info_parts infoR
  subst hH
  refine wpList_append_lies _ hgd s x _ ho W0.heap.size _ i0 _ 3 24 Try.underlying22 hi hz0 hz1 hz2 rfl (by decide) _ l.length (cellsR l) hs (hB.1.alloc _) ⟨w.heap.size, 0, none⟩ 1 1 [.int .i64 u.i, .int .i64 u.j, .int .i64 u.s] hx rfl (cells_new w [.int .i64 u.i, .int .i64 u.j, .int .i64 u.s] te) (by intro x hx; simp at hx; rcases hx with rfl | rfl | rfl <;> rfl) (by omega) (by unfold maxLen; omega) (by omega) (by have := hB.2.size; simp; omega) (w.heap.size + 1) (by simp) ?_
  intro g cap w' h2 h3 _ _
  refine h _ w' ⟨?_, grow_step (hB.2.alloc hB.2.size _) h3 (fun k hk => (World.ownsRow.lt (hB.1.alloc (.cells [.int .i64 u.i, .int .i64 u.j, .int .i64 u.s].toArray te)) k hk).1)⟩ ((Md.of_below ((Below.refl _ _).alloc (Nat.le_refl _) _)).trans (Md.of_grown h3))
  rw [cellsR_app, List.length_append]
  exact h2
theorem three_new (w : World) (t : TypeId) : ∀ j, j < 3 → (w.alloc (.cells #[.int .i64 0, .int .i64 1, .int .i64 2] t)).cell? ⟨w.heap.size, 0 + j, none⟩ = some (.int .i64 (([0, 1, 2] : List Int).getD j 0)) := fun j hj => by
  rw [Nat.zero_add, cell_of_row _ _ j _ _ _ (heap_alloc_new w _)]
  rcases (show j = 0 ∨ j = 1 ∨ j = 2 by omega) with rfl | rfl | rfl <;> rfl
theorem vld3 : vldN 3 [r01, r12] = true := by decide
theorem vld33 : vldN 3 [r01, r12, r20] = true := by decide
set_option maxHeartbeats 8000000 in
theorem awake_any (w : World) : Calls Try.prog 12 #[] w fun e w' => e = .returned (.bool true) ∧ Below w.heap.size w w' := by
  have HCL : ∀ (s : Value) (W : World), Rs W s [r01, r12] → Calls Try.prog 18 #[.int .i64 3, s] W (CoE 3 [r01, r12] W) := fun s W h => close_ok 3 _ s W h vld3
  have HMI : ∀ (s : Value) (W : World), Rs W s [r01, r12, r20] → Calls Try.prog 14 #[.int .i64 3, s] W (MiE 3 [r01, r12, r20] W) := fun s W h => minimal_ok 3 _ s W h vld33
  go_enter Try.func12, Try.ntmps12
  go_upto_region 2 with (go_at_call 49; (with_reducible refine (rel_any _ _ _).mono ?_); rintro e w1 ⟨rfl, hb1⟩; have hL1 := bstep (w := w) (by first | assumption | exact Below.refl _ _) hb1; clear hb1)
  have hRf := rf_two ((‹Below w.heap.size w w1›).alloc (‹Below w.heap.size w w1›).size (.cells #[.int .i64 0, .int .i64 1, .int .i64 1, .int .i64 1, .int .i64 2, .int .i64 1] 30)) (‹Below w.heap.size w w1›).size (heap_alloc_new w1 _)
  generalize w1.heap.size = g at *
  generalize w1.alloc (.cells #[.int .i64 0, .int .i64 1, .int .i64 1, .int .i64 1, .int .i64 2, .int .i64 1] 30) = W2 at *
  go_upto_region 4 with (first | (go_at_call 18; (with_reducible refine (HCL _ _ (hRf.rs (by decide))).mono ?_); rintro e w3 ⟨hb3, X, ok, hcl, hy, hn⟩; obtain ⟨rfl, hx⟩ := aw_close hcl; obtain ⟨B, R, rfl, hM, hBf, hRf2⟩ := hy rfl; have hR3 := hRf.step hb3; clear hcl hy hn) | (go_at_call 49; (with_reducible refine (rel_any _ _ _).mono ?_); rintro e w4 ⟨rfl, hb4⟩; have hR4 := hR3.step hb4) | (at_builtin; go_must (refine wp_rel2 hR4 rfl rfl (.tmp 15) (.tmp 17) rfl rfl 30 rfl (by simp) r20 (by decide) ?_); intro v1 w5 hR5 hd5) | (go_at_call 14; (with_reducible refine (HMI _ _ (hR5.rs (by decide))).mono ?_); rintro e w6 ⟨hb6, ⟨hsat, _⟩ | ⟨v, K, rfl, hI, hN⟩⟩; exact (aw_no hsat).elim; obtain rfl := aw_min hN))
  have hlg : g < W2.heap.size := by
    obtain ⟨_, ⟨h, _⟩ | ⟨q, _, cur, e, _, hh, _⟩⟩ := hRf.1
    · cases h
    · cases e; exact (Array.getElem?_eq_some_iff.1 hh).1
  have hM4 := hM.below hb4
  have hM5 := hM4.keep hd5 (fun e => by omega) (fun i hi e => by have := hRf2 i hi; omega)
  have hM6 := hM5.below hb6
  obtain ⟨c0, hc0, k0⟩ := hM6.cap (show 0 < 3 by omega)
  have k1 := hM6.cell (show 0 < 3 by omega) (show 2 < 3 by omega)
  rw [hx] at k1
  obtain ⟨ga, oa, ca, e1, hci⟩ := hI.open (by decide)
  cases e1
  have hEQ := fun W (h : Below w6.heap.size w6 W) (g2 : Nat) (hc2 : ∀ j, j < 3 → W.cell? ⟨g2, 0 + j, none⟩ = some (.int .i64 (([0, 1, 2] : List Int).getD j 0))) => Try.slices_Equal_int ga oa 3 ca g2 0 3 3 [0, 1, 2] [0, 1, 2] W (by decide) (by decide) (by omega) (by omega) (fun j hj => by
    have h3 : j < 3 := hj
    have := Go.Proofs.Ytoadihclmnjjnaa.Sl.cell_kept (is_get (ks := [0, 1, 2]) hci (List.getElem?_eq_getElem h3)) h
    rw [this]
    rcases (show j = 0 ∨ j = 1 ∨ j = 2 by omega) with rfl | rfl | rfl <;> rfl) hc2
  have hL6 := bstep hR5.2 hb6
  have HL6 := Lib.hid hL6
  clear hI hN hci hM hM4 hM5 hM6 hR3 hR4 hR5 hRf hb3 hb4 hb6 hd5 hL6
  go_wp2_with (go_at_call 25; (with_reducible refine (hEQ _ (by go_grown) _ (three_new _ _)).mono ?_); rintro e w7 ⟨rfl, q, rfl⟩)
  go_ret
  exact ⟨by first | rfl | simp, by have h9 := HL6.out.alloc HL6.out.size (.cells #[.int .i64 0, .int .i64 1, .int .i64 2] 3); exact bdrewN h9 q⟩
end Go.Proofs.Ytoadihclmnjjnaa.Nw
