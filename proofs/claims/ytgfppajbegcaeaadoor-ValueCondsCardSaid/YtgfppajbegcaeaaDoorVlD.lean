/-
  The walk of ValueConds.
-/
import Derived.Test.YtgfppajbegcaeaaDoorVlL
import Derived.Test.YtgfppajbegcaeaaDoorVop
import Derived.Lib.QuietBelow
import Derived.Deep.Cut
set_option linter.unusedSimpArgs false
set_option linter.unusedVariables false
namespace Go.Proofs.YtgfppajbegcaeaaDoor.Va
open Go.RowKit Go.ChangeShapes Go.WideShapes Go.Proofs.YtgfppajbegcaeaaDoor.Sl

/-- Behind the first call: the condition's box and the counter's. -/
theorem cn_boxes {w w1 : World} {c0 c1 c2 c3 c4 c5 c6 : Value} {t : TypeId} {z : Int} (hb : Below ((w.alloc (.cells #[c0, c1, c2, c3, c4, c5, c6] t)).alloc (.cells #[.int .i64 z] 3)).heap.size ((w.alloc (.cells #[c0, c1, c2, c3, c4, c5, c6] t)).alloc (.cells #[.int .i64 z] 3)) w1) :
    Below w.heap.size w w1 ∧ w1.cell? ⟨w.heap.size, 0, none⟩ = some c0 ∧ w1.cell? ⟨w.heap.size, 1, none⟩ = some c1 ∧ w1.cell? ⟨w.heap.size, 2, none⟩ = some c2 ∧ w1.cell? ⟨w.heap.size, 3, none⟩ = some c3 ∧ w1.cell? ⟨w.heap.size, 4, none⟩ = some c4 ∧ w1.cell? ⟨w.heap.size, 5, none⟩ = some c5 ∧ w1.cell? ⟨w.heap.size, 6, none⟩ = some c6 ∧ Boxed w1 (w.heap.size + 1) 3 (.int .i64 z) := by
  have hb1 : Below w.heap.size w (w.alloc (.cells #[c0, c1, c2, c3, c4, c5, c6] t)) := (Below.refl _ _).alloc (Nat.le_refl _) _
  have k : ∀ j u, #[c0, c1, c2, c3, c4, c5, c6][j]? = some u → w1.cell? ⟨w.heap.size, j, none⟩ = some u := fun j u hu => Go.Proofs.YtgfppajbegcaeaaDoor.Sl.cell_kept (cell_alloc (box_cell (box_new w _ _) j u hu) _) hb
  have z1 : (w.alloc (.cells #[c0, c1, c2, c3, c4, c5, c6] t)).heap.size = w.heap.size + 1 := by simp
  refine ⟨bstep (hb1.alloc hb1.size _) hb, k 0 _ rfl, k 1 _ rfl, k 2 _ rfl, k 3 _ rfl, k 4 _ rfl, k 5 _ rfl, k 6 _ rfl, ?_⟩
  have := Boxed.new (w.alloc (.cells #[c0, c1, c2, c3, c4, c5, c6] t)) 3 (.int .i64 z)
  rw [z1] at this
  exact boxed_below this hb
theorem long0 (c : CN) (cs : List Value) (n B : Nat) (w w1 : World) (hc : CnAt w cs c) (hb : Below w.heap.size w w1) (hB : Boxed w1 B 3 (.int .i64 (n : Int))) (hn : n ≤ 200) (hwB : w.heap.size ≤ B) :
    Calls Tryd.prog 24 #[.agg cs.toArray, .int .i64 0, .pointer (some ⟨B, 0, none⟩)] w1 (LgP w1 B n) := long_any w c cs 0 n B w1 hb hc hwB hB hn (by omega)
set_option maxRecDepth 20000 in
set_option maxHeartbeats 1000000 in
theorem vd_go (c : CN) (k : Int) (col oth : ByteArray) (v0 v1 : Int) (v2 : ByteArray) (s : Value) (ns : List ByteArray) (vs : List V3) (l : List Cl) (a1 a2 a3 : Option Addr) (n1 n2 n3 c1 c2 c3 : Nat) (m : Int) (w : World) (hm : w.cell? ⟨0, 0, none⟩ = some (.int .i64 m))
    (hc : CnAt w [.int .i64 k, .string col, .string oth, .int .i64 v0, .int .i64 v1, .string v2, s] c) (hsz : szC c) (e1 : n1 = ns.length) (e2 : n2 = vs.length) (e3 : n3 = l.length) (h1 : Ss w (.slice a1 n1 c1) ns) (h2 : Vs w (.slice a2 n2 c2) vs) (h3 : Cs w (.slice a3 n3 c3) l) (hsv : SzL vs) :
    Calls Tryd.prog 5 #[agC k col oth v0 v1 v2 s, .slice a1 n1 c1, .slice a2 n2 c2, .slice a3 n3 c3] w fun e w' => e = .returned (.bool true) ∧ Below w.heap.size w w' := by
  have HW := fun (W : World) (h : Below w.heap.size w W) => awake_any m W (Go.Proofs.YtgfppajbegcaeaaDoor.Sl.cell_kept hm h)
  have HLo := fun (W : World) (h : Below w.heap.size w W) (hB : Boxed W (w.heap.size + 1) 3 (.int .i64 0)) => long0 c _ 0 (w.heap.size + 1) w W hc h hB (by omega) (by omega)
  have HH := fun (W : World) (h : Below w.heap.size w W) => holds_any c _ ns vs _ _ W (CnAt.below h _ _ hc) (h1.below h) (h2.below h)
  have HRH := fun (W : World) (h : Below w.heap.size w W) => rholds_any c _ ns vs _ _ W (CnAt.below h _ _ hc) (h1.below h) (h2.below h) hsz hsv
  have HCk := Lib.hid (fun (hl : l.length ≤ 2000000) (W : World) (h : Below w.heap.size w W) => check_any c _ l hl _ W (CnAt.below h _ _ hc) (h3.below h))
  have HRC := Lib.hid (fun (hl : l.length ≤ 2000000) (W : World) (h : Below w.heap.size w W) => rcheck_any c _ l hl _ W (CnAt.below h _ _ hc) (h3.below h) hsz)
  have HE := Lib.hid (show n1 = ns.length ∧ n2 = vs.length ∧ n3 = l.length from ⟨e1, e2, e3⟩)
  generalize holdsC c ns vs = R at HH HRH
  obtain ⟨rb, re⟩ := R
  clear hc hsz e1 e2 e3 h1 h2 h3 hsv hm
  go_enter Tryd.func5, Tryd.ntmps5
  go_wp2_with (go_at_call 10; (with_reducible refine (HW _ (by go_grown)).mono ?_); rintro e w1 ⟨rfl, hb⟩; obtain ⟨hL, p0, p1, p2, p3, p4, p5, p6, hB⟩ := cn_boxes hb; clear hb)
  refine (HLo _ hL hB).mono ?_
  intro e w2 hpp
  obtain ⟨b, n', rfl, hq1, hq2, hq3, hq4, hq5⟩ := LgP.out hpp
  have hL2 := below_grown hL hq5 (Nat.le_succ _)
  have hne : ∀ j : Nat, some w.heap.size ≠ some (w.heap.size + 1) := fun _ e => by simp at e
  replace p0 := hq5.cell p0 (hne 0)
  replace p1 := hq5.cell p1 (hne 0)
  replace p2 := hq5.cell p2 (hne 0)
  replace p3 := hq5.cell p3 (hne 0)
  replace p4 := hq5.cell p4 (hne 0)
  replace p5 := hq5.cell p5 (hne 0)
  replace p6 := hq5.cell p6 (hne 0)
  clear hq1 hq2 hq3 hq4 hq5 hL hB hne hpp HLo
  cases b
  case true =>
    go_wp2_with (go_at_call 10; (with_reducible refine (HW _ hL2).mono ?_); rintro e w3 ⟨rfl, hb⟩; replace hL2 := bstep hL2 hb; clear hb)
    go_ret
    exact ⟨rfl, hL2⟩
  by_cases g1 : (120 : Int) < (n1 : Int)
  · go_wp2_with (go_at_call 10; (with_reducible refine (HW _ hL2).mono ?_); rintro e w3 ⟨rfl, hb⟩; replace hL2 := bstep hL2 hb; clear hb)
    go_ret
    exact ⟨rfl, hL2⟩
  by_cases g2 : (120 : Int) < (n2 : Int)
  · go_wp2_with (go_at_call 10; (with_reducible refine (HW _ hL2).mono ?_); rintro e w3 ⟨rfl, hb⟩; replace hL2 := bstep hL2 hb; clear hb)
    go_ret
    exact ⟨rfl, hL2⟩
  by_cases g3 : (120 : Int) < (n3 : Int)
  · go_wp2_with (go_at_call 10; (with_reducible refine (HW _ hL2).mono ?_); rintro e w3 ⟨rfl, hb⟩; replace hL2 := bstep hL2 hb; clear hb)
    go_ret
    exact ⟨rfl, hL2⟩
  have HC1 := HCk.out (by have := HE.out; omega)
  have HC2 := HRC.out (by have := HE.out; omega)
  generalize chk c l = z at HC1 HC2
  go_upto_region 5 with (go_at_call 25; (with_reducible refine (HH _ hL2).mono ?_); rintro e w3 ⟨rfl, hb⟩; replace hL2 := bstep hL2 hb; replace p0 := Go.Proofs.YtgfppajbegcaeaaDoor.Sl.cell_kept p0 hb; replace p1 := Go.Proofs.YtgfppajbegcaeaaDoor.Sl.cell_kept p1 hb; replace p2 := Go.Proofs.YtgfppajbegcaeaaDoor.Sl.cell_kept p2 hb; replace p3 := Go.Proofs.YtgfppajbegcaeaaDoor.Sl.cell_kept p3 hb; replace p4 := Go.Proofs.YtgfppajbegcaeaaDoor.Sl.cell_kept p4 hb; replace p5 := Go.Proofs.YtgfppajbegcaeaaDoor.Sl.cell_kept p5 hb; replace p6 := Go.Proofs.YtgfppajbegcaeaaDoor.Sl.cell_kept p6 hb; clear hb)
  go_upto_region 6 with (go_at_call 26; (with_reducible refine (HRH _ hL2).mono ?_); rintro e w4 ⟨rfl, hb⟩; replace hL2 := bstep hL2 hb; replace p0 := Go.Proofs.YtgfppajbegcaeaaDoor.Sl.cell_kept p0 hb; replace p1 := Go.Proofs.YtgfppajbegcaeaaDoor.Sl.cell_kept p1 hb; replace p2 := Go.Proofs.YtgfppajbegcaeaaDoor.Sl.cell_kept p2 hb; replace p3 := Go.Proofs.YtgfppajbegcaeaaDoor.Sl.cell_kept p3 hb; replace p4 := Go.Proofs.YtgfppajbegcaeaaDoor.Sl.cell_kept p4 hb; replace p5 := Go.Proofs.YtgfppajbegcaeaaDoor.Sl.cell_kept p5 hb; replace p6 := Go.Proofs.YtgfppajbegcaeaaDoor.Sl.cell_kept p6 hb; clear hb)
  have r0 := cell_regrown p0
  have r1 := cell_regrown p1
  have r2 := cell_regrown p2
  have r3 := cell_regrown p3
  have r4 := cell_regrown p4
  have r5 := cell_regrown p5
  have r6 := cell_regrown p6
  cases rb
  · refine wp_region_quiet_below (by kernel_rfl) (by kernel_rfl) ?_
    repeat (go_big_quiet_step (first | (go_at_call 27; with_reducible exact Calls.regrown_of (HC1 _ (bstep hL2 (below_regrown _ _ _)))) | (go_at_call 28; with_reducible exact Calls.regrown_of (HC2 _ (bstep hL2 (below_regrown _ _ _))))))
    refine wpQuiet_nil ?_
    intro _ hw9
    obtain ⟨⟨dq, osq⟩, hw9⟩ := hw9
    subst hw9
    have hL3 := bstep hL2 (below_regrown _ dq osq)
    go_wp2
    go_ret
    exact ⟨by simp, hL3⟩
  · refine wp_region_quiet_below (by kernel_rfl) (by kernel_rfl) ?_
    repeat (go_big_quiet_step (first | (go_at_call 27; with_reducible exact Calls.regrown_of (HC1 _ (bstep hL2 (below_regrown _ _ _)))) | (go_at_call 28; with_reducible exact Calls.regrown_of (HC2 _ (bstep hL2 (below_regrown _ _ _))))))
    refine wpQuiet_nil ?_
    intro _ hw9
    obtain ⟨⟨dq, osq⟩, hw9⟩ := hw9
    subst hw9
    have hL3 := bstep hL2 (below_regrown _ dq osq)
    go_wp2
    go_ret
    exact ⟨by simp, hL3⟩
theorem valueConds_walk (cs : List Value) (c : CN) (vn : Value) (ns : List ByteArray) (vl : Value) (vs : List V3) (vc : Value) (l : List Cl) (m : Int) (w : World) (hm : w.cell? ⟨0, 0, none⟩ = some (.int .i64 m)) (hc : CnAt w cs c) (hsz : szC c) (h1 : Ss w vn ns) (l1 : ns.length ≤ 9223372036854775807)
    (h2 : Vs w vl vs) (l2 : vs.length ≤ 9223372036854775807) (hg : ∀ u ∈ vs, GoodV u) (h3 : Cs w vc l) (l3 : l.length ≤ 9223372036854775807) :
    Calls Tryd.prog 5 #[.agg cs.toArray, vn, vl, vc] w fun e w' => e = .returned (.bool true) ∧ Below w.heap.size w w' := by
  obtain ⟨k, col, oth, v0, v1, v2, ad, n, cap, rfl⟩ := hc.shape
  obtain ⟨a1, c1, rfl⟩ := h1.form
  obtain ⟨a2, c2, rfl⟩ := h2.form
  obtain ⟨a3, c3, rfl⟩ := h3.form
  exact vd_go c k col oth v0 v1 v2 _ ns vs l a1 a2 a3 _ _ _ c1 c2 c3 m w hm hc hsz rfl rfl rfl h1 h2 h3 (fun v hv => (hg v hv).2)
end Go.Proofs.YtgfppajbegcaeaaDoor.Va
