/-
  The walk of ValueLogic.
-/
import Derived.Test.YtgfppajbegcaeaaDoorVlG
import Derived.Test.YtgfppajbegcaeaaDoorVop
import Derived.Test.YtgfppajbegcaeaaDoorInv
import Derived.Lib.QuietBelow
import Derived.Deep.Cut
set_option linter.unusedSimpArgs false
set_option linter.unusedVariables false
namespace Go.Proofs.YtgfppajbegcaeaaDoor.Va
open Go.RowKit Go.ChangeShapes Go.WideShapes Go.Proofs.YtgfppajbegcaeaaDoor.Sl

theorem long_at (c : CN) (cs : List Value) (n B : Nat) (w w1 : World) (hc : CnAt w cs c) (hb : Below w.heap.size w w1) (hB : Boxed w1 B 3 (.int .i64 (n : Int))) (hn : n ≤ 200) (hwB : w.heap.size ≤ B) :
    Calls Tryd.prog 24 #[.agg cs.toArray, .int .i64 0, .pointer (some ⟨B, 0, none⟩)] w1 (LgP w1 B n) := long_any w c cs 0 n B w1 hb hc hwB hB hn (by omega)
/-- The entry number j of the law's list: a condition and what is wanted of it. -/
def Ent (W : World) (H j : Nat) (c : CN) (b : Bool) : Prop := ∃ (k : Int) (l o : ByteArray) (i z : Int) (t : ByteArray) (d : Option Addr) (m p : Nat), W.cell? ⟨H, j * 8, none⟩ = some (.int .i64 k) ∧ W.cell? ⟨H, j * 8 + 1, none⟩ = some (.string l) ∧ W.cell? ⟨H, j * 8 + 2, none⟩ = some (.string o) ∧ W.cell? ⟨H, j * 8 + 3, none⟩ = some (.int .i64 i) ∧ W.cell? ⟨H, j * 8 + 4, none⟩ = some (.int .i64 z) ∧ W.cell? ⟨H, j * 8 + 5, none⟩ = some (.string t) ∧ W.cell? ⟨H, j * 8 + 6, none⟩ = some (.slice d m p) ∧ W.cell? ⟨H, j * 8 + 7, none⟩ = some (.bool b) ∧
  CnAt W [.int .i64 k, .string l, .string o, .int .i64 i, .int .i64 z, .string t, .slice d m p] c
theorem box_at {w w' : World} {A : Array Value} {t : TypeId} (hb : Below (w.alloc (.cells A t)).heap.size (w.alloc (.cells A t)) w') (j : Nat) {u : Value} (h : A[j]? = some u) : w'.cell? ⟨w.heap.size, j, none⟩ = some u := Go.Proofs.YtgfppajbegcaeaaDoor.Sl.cell_kept (box_cell (box_new w _ _) j u h) hb
theorem ab_boxes {w w1 : World} {a0 a1 a2 a3 a4 a5 a6 b0 b1 b2 b3 b4 b5 b6 : Value} {t t2 : TypeId} {z : Int} (hb : Below (((w.alloc (.cells #[a0, a1, a2, a3, a4, a5, a6] t)).alloc (.cells #[b0, b1, b2, b3, b4, b5, b6] t2)).alloc (.cells #[.int .i64 z] 3)).heap.size (((w.alloc (.cells #[a0, a1, a2, a3, a4, a5, a6] t)).alloc (.cells #[b0, b1, b2, b3, b4, b5, b6] t2)).alloc (.cells #[.int .i64 z] 3)) w1) :
    Below w.heap.size w w1 ∧ (∀ j u, #[a0, a1, a2, a3, a4, a5, a6][j]? = some u → w1.cell? ⟨w.heap.size, j, none⟩ = some u) ∧ (∀ j u, #[b0, b1, b2, b3, b4, b5, b6][j]? = some u → w1.cell? ⟨w.heap.size + 1, j, none⟩ = some u) ∧ Boxed w1 (w.heap.size + 1 + 1) 3 (.int .i64 z) := by
  have hb1 : Below w.heap.size w (w.alloc (.cells #[a0, a1, a2, a3, a4, a5, a6] t)) := (Below.refl _ _).alloc (Nat.le_refl _) _
  have hb2 := hb1.alloc hb1.size (.cells #[b0, b1, b2, b3, b4, b5, b6] t2)
  have z1 : (w.alloc (.cells #[a0, a1, a2, a3, a4, a5, a6] t)).heap.size = w.heap.size + 1 := by simp
  have z2 : ((w.alloc (.cells #[a0, a1, a2, a3, a4, a5, a6] t)).alloc (.cells #[b0, b1, b2, b3, b4, b5, b6] t2)).heap.size = w.heap.size + 1 + 1 := by simp
  refine ⟨bstep (hb2.alloc hb2.size _) hb, fun j u hu => Go.Proofs.YtgfppajbegcaeaaDoor.Sl.cell_kept (cell_alloc (cell_alloc (box_cell (box_new w _ _) j u hu) _) _) hb, fun j u hu => ?_, ?_⟩
  · rw [← z1]
    exact Go.Proofs.YtgfppajbegcaeaaDoor.Sl.cell_kept (cell_alloc (box_cell (box_new _ _ _) j u hu) _) hb
  · have := Boxed.new ((w.alloc (.cells #[a0, a1, a2, a3, a4, a5, a6] t)).alloc (.cells #[b0, b1, b2, b3, b4, b5, b6] t2)) 3 (.int .i64 z)
    rw [z2] at this
    exact boxed_below this hb
theorem ab_keep {w V Vn : World} {k : Int} {col oth : ByteArray} {v0 v1 : Int} {v2 : ByteArray} {s : Value} {k2 : Int} {col2 oth2 : ByteArray} {u0 u1 : Int} {u2 : ByteArray} {s2 : Value} (h : V.cell? ⟨w.heap.size, 0, none⟩ = some (.int .i64 k) ∧ V.cell? ⟨w.heap.size, 1, none⟩ = some (.string col) ∧ V.cell? ⟨w.heap.size, 2, none⟩ = some (.string oth) ∧ V.cell? ⟨w.heap.size, 3, none⟩ = some (.int .i64 v0) ∧ V.cell? ⟨w.heap.size, 4, none⟩ = some (.int .i64 v1) ∧ V.cell? ⟨w.heap.size, 5, none⟩ = some (.string v2) ∧ V.cell? ⟨w.heap.size, 6, none⟩ = some (s) ∧ V.cell? ⟨w.heap.size + 1, 0, none⟩ = some (.int .i64 k2) ∧ V.cell? ⟨w.heap.size + 1, 1, none⟩ = some (.string col2) ∧ V.cell? ⟨w.heap.size + 1, 2, none⟩ = some (.string oth2) ∧ V.cell? ⟨w.heap.size + 1, 3, none⟩ = some (.int .i64 u0) ∧ V.cell? ⟨w.heap.size + 1, 4, none⟩ = some (.int .i64 u1) ∧ V.cell? ⟨w.heap.size + 1, 5, none⟩ = some (.string u2) ∧ V.cell? ⟨w.heap.size + 1, 6, none⟩ = some (s2)) (hb : Below V.heap.size V Vn) : Vn.cell? ⟨w.heap.size, 0, none⟩ = some (.int .i64 k) ∧ Vn.cell? ⟨w.heap.size, 1, none⟩ = some (.string col) ∧ Vn.cell? ⟨w.heap.size, 2, none⟩ = some (.string oth) ∧ Vn.cell? ⟨w.heap.size, 3, none⟩ = some (.int .i64 v0) ∧ Vn.cell? ⟨w.heap.size, 4, none⟩ = some (.int .i64 v1) ∧ Vn.cell? ⟨w.heap.size, 5, none⟩ = some (.string v2) ∧ Vn.cell? ⟨w.heap.size, 6, none⟩ = some (s) ∧ Vn.cell? ⟨w.heap.size + 1, 0, none⟩ = some (.int .i64 k2) ∧ Vn.cell? ⟨w.heap.size + 1, 1, none⟩ = some (.string col2) ∧ Vn.cell? ⟨w.heap.size + 1, 2, none⟩ = some (.string oth2) ∧ Vn.cell? ⟨w.heap.size + 1, 3, none⟩ = some (.int .i64 u0) ∧ Vn.cell? ⟨w.heap.size + 1, 4, none⟩ = some (.int .i64 u1) ∧ Vn.cell? ⟨w.heap.size + 1, 5, none⟩ = some (.string u2) ∧ Vn.cell? ⟨w.heap.size + 1, 6, none⟩ = some (s2) := by
  obtain ⟨h0, h1, h2, h3, h4, h5, h6, h7, h8, h9, h10, h11, h12, h13⟩ := h
  exact ⟨Go.Proofs.YtgfppajbegcaeaaDoor.Sl.cell_kept h0 hb, Go.Proofs.YtgfppajbegcaeaaDoor.Sl.cell_kept h1 hb, Go.Proofs.YtgfppajbegcaeaaDoor.Sl.cell_kept h2 hb, Go.Proofs.YtgfppajbegcaeaaDoor.Sl.cell_kept h3 hb, Go.Proofs.YtgfppajbegcaeaaDoor.Sl.cell_kept h4 hb, Go.Proofs.YtgfppajbegcaeaaDoor.Sl.cell_kept h5 hb, Go.Proofs.YtgfppajbegcaeaaDoor.Sl.cell_kept h6 hb, Go.Proofs.YtgfppajbegcaeaaDoor.Sl.cell_kept h7 hb, Go.Proofs.YtgfppajbegcaeaaDoor.Sl.cell_kept h8 hb, Go.Proofs.YtgfppajbegcaeaaDoor.Sl.cell_kept h9 hb, Go.Proofs.YtgfppajbegcaeaaDoor.Sl.cell_kept h10 hb, Go.Proofs.YtgfppajbegcaeaaDoor.Sl.cell_kept h11 hb, Go.Proofs.YtgfppajbegcaeaaDoor.Sl.cell_kept h12 hb, Go.Proofs.YtgfppajbegcaeaaDoor.Sl.cell_kept h13 hb⟩
set_option maxRecDepth 100000 in
set_option maxHeartbeats 4000000 in
theorem vg_go (a b : CN) (k : Int) (col oth : ByteArray) (v0 v1 : Int) (v2 : ByteArray) (s : Value) (k2 : Int) (col2 oth2 : ByteArray) (u0 u1 : Int) (u2 : ByteArray) (s2 : Value) (ns : List ByteArray) (vs : List V3) (a1 a2 : Option Addr) (n1 n2 c1 c2 : Nat) (m : Int) (w : World) (hm : w.cell? ⟨0, 0, none⟩ = some (.int .i64 m))
    (hca : CnAt w [.int .i64 k, .string col, .string oth, .int .i64 v0, .int .i64 v1, .string v2, s] a) (hcb : CnAt w [.int .i64 k2, .string col2, .string oth2, .int .i64 u0, .int .i64 u1, .string u2, s2] b) (e1 : n1 = ns.length) (e2 : n2 = vs.length) (h1 : Ss w (.slice a1 n1 c1) ns) (h2 : Vs w (.slice a2 n2 c2) vs) :
    Calls Tryd.prog 6 #[.agg #[.int .i64 k, .string col, .string oth, .int .i64 v0, .int .i64 v1, .string v2, s], .agg #[.int .i64 k2, .string col2, .string oth2, .int .i64 u0, .int .i64 u1, .string u2, s2], .slice a1 n1 c1, .slice a2 n2 c2] w fun e w' => e = .returned (.bool true) ∧ Below w.heap.size w w' := by
  have HW := fun (W : World) (h : Below w.heap.size w W) => awake_any m W (Go.Proofs.YtgfppajbegcaeaaDoor.Sl.cell_kept hm h)
  have HLa := fun (n : Nat) (hn : n ≤ 200) (W : World) (h : Below w.heap.size w W) (hB : Boxed W (w.heap.size + 1 + 1) 3 (.int .i64 (n : Int))) => long_at a _ n (w.heap.size + 1 + 1) w W hca h hB hn (by omega)
  have HLb := fun (n : Nat) (hn : n ≤ 200) (W : World) (h : Below w.heap.size w W) (hB : Boxed W (w.heap.size + 1 + 1) 3 (.int .i64 (n : Int))) => long_at b _ n (w.heap.size + 1 + 1) w W hcb h hB hn (by omega)
  have HHa := fun (W : World) (h : Below w.heap.size w W) => holds_any a _ ns vs _ _ W (CnAt.below h _ _ hca) (h1.below h) (h2.below h)
  have HHb := fun (W : World) (h : Below w.heap.size w W) => holds_any b _ ns vs _ _ W (CnAt.below h _ _ hcb) (h1.below h) (h2.below h)
  have HCA := Lib.hid hca
  have HCB := Lib.hid hcb
  have HNV := Lib.hid (show Ss w (.slice a1 n1 c1) ns ∧ Vs w (.slice a2 n2 c2) vs from ⟨h1, h2⟩)
  have HSix := Lib.hid (six_hold a b ns vs)
  have HEa := Lib.hid (holds_err a ns vs)
  have HEb := Lib.hid (holds_err b ns vs)
  have hRa : ∃ R, holdsC a ns vs = R := ⟨_, rfl⟩
  have hRb : ∃ R, holdsC b ns vs = R := ⟨_, rfl⟩
  obtain ⟨⟨x, ea⟩, hRa⟩ := hRa
  obtain ⟨⟨y, eb⟩, hRb⟩ := hRb
  rw [hRa] at HHa HSix HEa
  rw [hRb] at HHb HSix HEb
  clear hca hcb e1 e2 h1 h2 hm hRa hRb
  go_enter Tryd.func6, Tryd.ntmps6
  go_wp2_with (go_at_call 10; (with_reducible refine (HW _ (by go_grown)).mono ?_); rintro e w1 ⟨rfl, hb⟩; obtain ⟨hL, hpa, hpb, hB⟩ := ab_boxes hb; clear hb)
  refine (HLa 0 (by omega) _ hL hB).mono ?_
  intro e w2 hpp
  obtain ⟨b1, n', rfl, hq1, hq2, hq3, hq4, hq5⟩ := LgP.out hpp
  have hL2 := below_grown hL hq5 (by omega)
  have hnep : ∀ j : Nat, some w.heap.size ≠ some (w.heap.size + 1 + 1) := fun _ e => by simp at e; omega
  have hneq : ∀ j : Nat, some (w.heap.size + 1) ≠ some (w.heap.size + 1 + 1) := fun _ e => by simp at e
  have p0 := hpa 0 _ rfl
  have p1 := hpa 1 _ rfl
  have p2 := hpa 2 _ rfl
  have p3 := hpa 3 _ rfl
  have p4 := hpa 4 _ rfl
  have p5 := hpa 5 _ rfl
  have p6 := hpa 6 _ rfl
  have q0 := hpb 0 _ rfl
  have q1 := hpb 1 _ rfl
  have q2 := hpb 2 _ rfl
  have q3 := hpb 3 _ rfl
  have q4 := hpb 4 _ rfl
  have q5 := hpb 5 _ rfl
  have q6 := hpb 6 _ rfl
  clear hpa hpb
  replace p0 := hq5.cell p0 (hnep 0)
  replace p1 := hq5.cell p1 (hnep 0)
  replace p2 := hq5.cell p2 (hnep 0)
  replace p3 := hq5.cell p3 (hnep 0)
  replace p4 := hq5.cell p4 (hnep 0)
  replace p5 := hq5.cell p5 (hnep 0)
  replace p6 := hq5.cell p6 (hnep 0)
  replace q0 := hq5.cell q0 (hneq 0)
  replace q1 := hq5.cell q1 (hneq 0)
  replace q2 := hq5.cell q2 (hneq 0)
  replace q3 := hq5.cell q3 (hneq 0)
  replace q4 := hq5.cell q4 (hneq 0)
  replace q5 := hq5.cell q5 (hneq 0)
  replace q6 := hq5.cell q6 (hneq 0)
  clear hq5 hL hB hpp
  cases b1
  case true =>
    clear hq1 hq4
    go_wp2_with (go_at_call 10; (with_reducible refine (HW _ hL2).mono ?_); rintro e w3 ⟨rfl, hb⟩; replace hL2 := bstep hL2 hb; clear hb)
    go_ret
    exact ⟨rfl, hL2⟩
  have hn200 : n' ≤ 200 := hq4 rfl
  have hbc := hq1.cell
  go_wp2_with fail
  refine (HLb n' hn200 _ hL2 hq1).mono ?_
  intro e w3 hpp
  obtain ⟨b1, n2', rfl, hr1, hr2, hr3, hr4, hr5⟩ := LgP.out hpp
  replace hL2 := below_grown hL2 hr5 (by omega)
  replace p0 := hr5.cell p0 (hnep 0)
  replace p1 := hr5.cell p1 (hnep 0)
  replace p2 := hr5.cell p2 (hnep 0)
  replace p3 := hr5.cell p3 (hnep 0)
  replace p4 := hr5.cell p4 (hnep 0)
  replace p5 := hr5.cell p5 (hnep 0)
  replace p6 := hr5.cell p6 (hnep 0)
  replace q0 := hr5.cell q0 (hneq 0)
  replace q1 := hr5.cell q1 (hneq 0)
  replace q2 := hr5.cell q2 (hneq 0)
  replace q3 := hr5.cell q3 (hneq 0)
  replace q4 := hr5.cell q4 (hneq 0)
  replace q5 := hr5.cell q5 (hneq 0)
  replace q6 := hr5.cell q6 (hneq 0)
  have hnc := hr1.cell
  clear hr5 hpp hq1 hq4 hr1 HLa HLb hbc hn200 hq2 hq3
  cases b1
  case true =>
    clear hr4
    go_wp2_with (go_at_call 10; (with_reducible refine (HW _ hL2).mono ?_); rintro e w3 ⟨rfl, hb⟩; replace hL2 := bstep hL2 hb; clear hb)
    go_ret
    exact ⟨rfl, hL2⟩
  clear hr4 hr2
  by_cases g0 : (20 : Int) < (n2' : Int)
  · skip
    go_wp2_with (go_at_call 10; (with_reducible refine (HW _ hL2).mono ?_); rintro e w3 ⟨rfl, hb⟩; replace hL2 := bstep hL2 hb; clear hb)
    go_ret
    exact ⟨rfl, hL2⟩
  by_cases g1 : (20 : Int) < (n1 : Int)
  · skip
    go_wp2_with (go_at_call 10; (with_reducible refine (HW _ hL2).mono ?_); rintro e w3 ⟨rfl, hb⟩; replace hL2 := bstep hL2 hb; clear hb)
    go_ret
    exact ⟨rfl, hL2⟩
  by_cases g2 : (20 : Int) < (n2 : Int)
  · skip
    go_wp2_with (go_at_call 10; (with_reducible refine (HW _ hL2).mono ?_); rintro e w3 ⟨rfl, hb⟩; replace hL2 := bstep hL2 hb; clear hb)
    go_ret
    exact ⟨rfl, hL2⟩
  clear HW
  go_upto_region 8 with (go_at_call 25; (with_reducible refine (HHa _ hL2).mono ?_); rintro e w4 ⟨rfl, hb⟩; replace hL2 := bstep hL2 hb; replace p0 := Go.Proofs.YtgfppajbegcaeaaDoor.Sl.cell_kept p0 hb; replace p1 := Go.Proofs.YtgfppajbegcaeaaDoor.Sl.cell_kept p1 hb; replace p2 := Go.Proofs.YtgfppajbegcaeaaDoor.Sl.cell_kept p2 hb; replace p3 := Go.Proofs.YtgfppajbegcaeaaDoor.Sl.cell_kept p3 hb; replace p4 := Go.Proofs.YtgfppajbegcaeaaDoor.Sl.cell_kept p4 hb; replace p5 := Go.Proofs.YtgfppajbegcaeaaDoor.Sl.cell_kept p5 hb; replace p6 := Go.Proofs.YtgfppajbegcaeaaDoor.Sl.cell_kept p6 hb; replace q0 := Go.Proofs.YtgfppajbegcaeaaDoor.Sl.cell_kept q0 hb; replace q1 := Go.Proofs.YtgfppajbegcaeaaDoor.Sl.cell_kept q1 hb; replace q2 := Go.Proofs.YtgfppajbegcaeaaDoor.Sl.cell_kept q2 hb; replace q3 := Go.Proofs.YtgfppajbegcaeaaDoor.Sl.cell_kept q3 hb; replace q4 := Go.Proofs.YtgfppajbegcaeaaDoor.Sl.cell_kept q4 hb; replace q5 := Go.Proofs.YtgfppajbegcaeaaDoor.Sl.cell_kept q5 hb; replace q6 := Go.Proofs.YtgfppajbegcaeaaDoor.Sl.cell_kept q6 hb; clear hb)
  go_upto_region 9 with (go_at_call 25; (with_reducible refine (HHb _ hL2).mono ?_); rintro e w5 ⟨rfl, hb⟩; replace hL2 := bstep hL2 hb; replace p0 := Go.Proofs.YtgfppajbegcaeaaDoor.Sl.cell_kept p0 hb; replace p1 := Go.Proofs.YtgfppajbegcaeaaDoor.Sl.cell_kept p1 hb; replace p2 := Go.Proofs.YtgfppajbegcaeaaDoor.Sl.cell_kept p2 hb; replace p3 := Go.Proofs.YtgfppajbegcaeaaDoor.Sl.cell_kept p3 hb; replace p4 := Go.Proofs.YtgfppajbegcaeaaDoor.Sl.cell_kept p4 hb; replace p5 := Go.Proofs.YtgfppajbegcaeaaDoor.Sl.cell_kept p5 hb; replace p6 := Go.Proofs.YtgfppajbegcaeaaDoor.Sl.cell_kept p6 hb; replace q0 := Go.Proofs.YtgfppajbegcaeaaDoor.Sl.cell_kept q0 hb; replace q1 := Go.Proofs.YtgfppajbegcaeaaDoor.Sl.cell_kept q1 hb; replace q2 := Go.Proofs.YtgfppajbegcaeaaDoor.Sl.cell_kept q2 hb; replace q3 := Go.Proofs.YtgfppajbegcaeaaDoor.Sl.cell_kept q3 hb; replace q4 := Go.Proofs.YtgfppajbegcaeaaDoor.Sl.cell_kept q4 hb; replace q5 := Go.Proofs.YtgfppajbegcaeaaDoor.Sl.cell_kept q5 hb; replace q6 := Go.Proofs.YtgfppajbegcaeaaDoor.Sl.cell_kept q6 hb; clear hb)
  clear HHa HHb hnep hneq hnc
  by_cases ge : ea = 0
  case neg =>
    obtain rfl : x = false := HEa.out ge
    have ge2 : (ea == 0) = false := by simpa using ge
    by_cases gf : eb = 0
    · subst gf
      cases y
      · go_wp2
        go_ret
        exact ⟨rfl, hL2⟩
      · go_wp2
        go_ret
        exact ⟨rfl, hL2⟩
    · obtain rfl : y = false := HEb.out gf
      go_wp2
      go_ret
      exact ⟨rfl, hL2⟩
  subst ge
  by_cases gf : eb = 0
  case neg =>
    obtain rfl : y = false := HEb.out gf
    have gf2 : (eb == 0) = false := by simpa using gf
    cases x
    · go_wp2
      go_ret
      exact ⟨rfl, hL2⟩
    · go_wp2
      go_ret
      exact ⟨rfl, hL2⟩
  subst gf
  have HP := HSix.out rfl rfl
  clear HSix HEa HEb
  have HP2 := Lib.hid HP
  have hA5 : Cd w5 (.agg #[.int .i64 k, .string col, .string oth, .int .i64 v0, .int .i64 v1, .string v2, s]) a := ⟨_, rfl, CnAt.below hL2 _ _ HCA.out⟩
  have hB5 : Cd w5 (.agg #[.int .i64 k2, .string col2, .string oth2, .int .i64 u0, .int .i64 u1, .string u2, s2]) b := ⟨_, rfl, CnAt.below hL2 _ _ HCB.out⟩
  have HL5 := Lib.hid hL2
  have HA5 := Lib.hid hA5
  have HB5 := Lib.hid hB5
  have hS5 : w5.cell? ⟨w.heap.size, 0, none⟩ = some (.int .i64 k) ∧ w5.cell? ⟨w.heap.size, 1, none⟩ = some (.string col) ∧ w5.cell? ⟨w.heap.size, 2, none⟩ = some (.string oth) ∧ w5.cell? ⟨w.heap.size, 3, none⟩ = some (.int .i64 v0) ∧ w5.cell? ⟨w.heap.size, 4, none⟩ = some (.int .i64 v1) ∧ w5.cell? ⟨w.heap.size, 5, none⟩ = some (.string v2) ∧ w5.cell? ⟨w.heap.size, 6, none⟩ = some (s) ∧ w5.cell? ⟨w.heap.size + 1, 0, none⟩ = some (.int .i64 k2) ∧ w5.cell? ⟨w.heap.size + 1, 1, none⟩ = some (.string col2) ∧ w5.cell? ⟨w.heap.size + 1, 2, none⟩ = some (.string oth2) ∧ w5.cell? ⟨w.heap.size + 1, 3, none⟩ = some (.int .i64 u0) ∧ w5.cell? ⟨w.heap.size + 1, 4, none⟩ = some (.int .i64 u1) ∧ w5.cell? ⟨w.heap.size + 1, 5, none⟩ = some (.string u2) ∧ w5.cell? ⟨w.heap.size + 1, 6, none⟩ = some (s2) := ⟨p0, p1, p2, p3, p4, p5, p6, q0, q1, q2, q3, q4, q5, q6⟩
  clear HP hL2 hA5 hB5 p0 p1 p2 p3 p4 p5 p6 q0 q1 q2 q3 q4 q5 q6
  cases x
  · go_upto_region 11 with fail
    refine wp_region_held_drew (S := fun V => V.cell? ⟨w.heap.size, 0, none⟩ = some (.int .i64 k) ∧ V.cell? ⟨w.heap.size, 1, none⟩ = some (.string col) ∧ V.cell? ⟨w.heap.size, 2, none⟩ = some (.string oth) ∧ V.cell? ⟨w.heap.size, 3, none⟩ = some (.int .i64 v0) ∧ V.cell? ⟨w.heap.size, 4, none⟩ = some (.int .i64 v1) ∧ V.cell? ⟨w.heap.size, 5, none⟩ = some (.string v2) ∧ V.cell? ⟨w.heap.size, 6, none⟩ = some (s) ∧ V.cell? ⟨w.heap.size + 1, 0, none⟩ = some (.int .i64 k2) ∧ V.cell? ⟨w.heap.size + 1, 1, none⟩ = some (.string col2) ∧ V.cell? ⟨w.heap.size + 1, 2, none⟩ = some (.string oth2) ∧ V.cell? ⟨w.heap.size + 1, 3, none⟩ = some (.int .i64 u0) ∧ V.cell? ⟨w.heap.size + 1, 4, none⟩ = some (.int .i64 u1) ∧ V.cell? ⟨w.heap.size + 1, 5, none⟩ = some (.string u2) ∧ V.cell? ⟨w.heap.size + 1, 6, none⟩ = some (s2)) (by kernel_rfl) (ab_keep hS5 (bdrew (Below.refl _ _))) (fun hHeld => ?_)
    have hbd : Below w5.heap.size w5 w5.drew := bdrew (Below.refl _ _)
    first | (refine wpAnyH_take (i := 0) (v := ?tkv0_1) rfl (by kernel_rfl) (by kernel_rfl) (by kernel_rfl) (fun _ _ _ h => h) (Or.inl ⟨by rfl, ?tky0_1⟩) (by assumption) ?tkr0_1; case tky0_1 => (intro V hV; (try dsimp only at hV); go_simp; (try with_reducible rfl)); try simp only [Act.put, List.setIfInBounds_toArray, List.set_cons_zero, List.set_cons_succ]) | (refine wpAnyH_take (i := 0) (v := undef) rfl (by kernel_rfl) (by kernel_rfl) (by kernel_rfl) (fun _ _ _ h => h) (Or.inr ⟨by rfl, rfl⟩) (by assumption) ?tkr0_2; try simp only [Act.put, List.setIfInBounds_toArray, List.set_cons_zero, List.set_cons_succ])
    first | (refine wpAnyH_take (i := 1) (v := ?tkv1_3) rfl (by kernel_rfl) (by kernel_rfl) (by kernel_rfl) (fun _ _ _ h => h) (Or.inl ⟨by rfl, ?tky1_3⟩) (by assumption) ?tkr1_3; case tky1_3 => (intro V hV; (try dsimp only at hV); go_simp; (try with_reducible rfl)); try simp only [Act.put, List.setIfInBounds_toArray, List.set_cons_zero, List.set_cons_succ]) | (refine wpAnyH_take (i := 1) (v := undef) rfl (by kernel_rfl) (by kernel_rfl) (by kernel_rfl) (fun _ _ _ h => h) (Or.inr ⟨by rfl, rfl⟩) (by assumption) ?tkr1_4; try simp only [Act.put, List.setIfInBounds_toArray, List.set_cons_zero, List.set_cons_succ])
    first | (refine wpAnyH_take (i := 2) (v := ?tkv2_5) rfl (by kernel_rfl) (by kernel_rfl) (by kernel_rfl) (fun _ _ _ h => h) (Or.inl ⟨by rfl, ?tky2_5⟩) (by assumption) ?tkr2_5; case tky2_5 => (intro V hV; (try dsimp only at hV); go_simp; (try with_reducible rfl)); try simp only [Act.put, List.setIfInBounds_toArray, List.set_cons_zero, List.set_cons_succ]) | (refine wpAnyH_take (i := 2) (v := undef) rfl (by kernel_rfl) (by kernel_rfl) (by kernel_rfl) (fun _ _ _ h => h) (Or.inr ⟨by rfl, rfl⟩) (by assumption) ?tkr2_6; try simp only [Act.put, List.setIfInBounds_toArray, List.set_cons_zero, List.set_cons_succ])
    first | (refine wpAnyH_take (i := 5) (v := ?tkv5_7) rfl (by kernel_rfl) (by kernel_rfl) (by kernel_rfl) (fun _ _ _ h => h) (Or.inl ⟨by rfl, ?tky5_7⟩) (by assumption) ?tkr5_7; case tky5_7 => (intro V hV; (try dsimp only at hV); go_simp; (try with_reducible rfl)); try simp only [Act.put, List.setIfInBounds_toArray, List.set_cons_zero, List.set_cons_succ]) | (refine wpAnyH_take (i := 5) (v := undef) rfl (by kernel_rfl) (by kernel_rfl) (by kernel_rfl) (fun _ _ _ h => h) (Or.inr ⟨by rfl, rfl⟩) (by assumption) ?tkr5_8; try simp only [Act.put, List.setIfInBounds_toArray, List.set_cons_zero, List.set_cons_succ])
    first | (refine wpAnyH_take (i := 7) (v := ?tkv7_9) rfl (by kernel_rfl) (by kernel_rfl) (by kernel_rfl) (fun _ _ _ h => h) (Or.inl ⟨by rfl, ?tky7_9⟩) (by assumption) ?tkr7_9; case tky7_9 => (intro V hV; (try dsimp only at hV); go_simp; (try with_reducible rfl)); try simp only [Act.put, List.setIfInBounds_toArray, List.set_cons_zero, List.set_cons_succ]) | (refine wpAnyH_take (i := 7) (v := undef) rfl (by kernel_rfl) (by kernel_rfl) (by kernel_rfl) (fun _ _ _ h => h) (Or.inr ⟨by rfl, rfl⟩) (by assumption) ?tkr7_10; try simp only [Act.put, List.setIfInBounds_toArray, List.set_cons_zero, List.set_cons_succ])
    first | (refine wpAnyH_take (i := 8) (v := ?tkv8_11) rfl (by kernel_rfl) (by kernel_rfl) (by kernel_rfl) (fun _ _ _ h => h) (Or.inl ⟨by rfl, ?tky8_11⟩) (by assumption) ?tkr8_11; case tky8_11 => (intro V hV; (try dsimp only at hV); go_simp; (try with_reducible rfl)); try simp only [Act.put, List.setIfInBounds_toArray, List.set_cons_zero, List.set_cons_succ]) | (refine wpAnyH_take (i := 8) (v := undef) rfl (by kernel_rfl) (by kernel_rfl) (by kernel_rfl) (fun _ _ _ h => h) (Or.inr ⟨by rfl, rfl⟩) (by assumption) ?tkr8_12; try simp only [Act.put, List.setIfInBounds_toArray, List.set_cons_zero, List.set_cons_succ])
    first | (refine wpAnyH_take (i := 9) (v := ?tkv9_13) rfl (by kernel_rfl) (by kernel_rfl) (by kernel_rfl) (fun _ _ _ h => h) (Or.inl ⟨by rfl, ?tky9_13⟩) (by assumption) ?tkr9_13; case tky9_13 => (intro V hV; (try dsimp only at hV); go_simp; (try with_reducible rfl)); try simp only [Act.put, List.setIfInBounds_toArray, List.set_cons_zero, List.set_cons_succ]) | (refine wpAnyH_take (i := 9) (v := undef) rfl (by kernel_rfl) (by kernel_rfl) (by kernel_rfl) (fun _ _ _ h => h) (Or.inr ⟨by rfl, rfl⟩) (by assumption) ?tkr9_14; try simp only [Act.put, List.setIfInBounds_toArray, List.set_cons_zero, List.set_cons_succ])
    first | (refine wpAnyH_take (i := 10) (v := ?tkv10_15) rfl (by kernel_rfl) (by kernel_rfl) (by kernel_rfl) (fun _ _ _ h => h) (Or.inl ⟨by rfl, ?tky10_15⟩) (by assumption) ?tkr10_15; case tky10_15 => (intro V hV; (try dsimp only at hV); go_simp; (try with_reducible rfl)); try simp only [Act.put, List.setIfInBounds_toArray, List.set_cons_zero, List.set_cons_succ]) | (refine wpAnyH_take (i := 10) (v := undef) rfl (by kernel_rfl) (by kernel_rfl) (by kernel_rfl) (fun _ _ _ h => h) (Or.inr ⟨by rfl, rfl⟩) (by assumption) ?tkr10_16; try simp only [Act.put, List.setIfInBounds_toArray, List.set_cons_zero, List.set_cons_succ])
    first | (refine wpAnyH_take (i := 13) (v := ?tkv13_17) rfl (by kernel_rfl) (by kernel_rfl) (by kernel_rfl) (fun _ _ _ h => h) (Or.inl ⟨by rfl, ?tky13_17⟩) (by assumption) ?tkr13_17; case tky13_17 => (intro V hV; (try dsimp only at hV); go_simp; (try with_reducible rfl)); try simp only [Act.put, List.setIfInBounds_toArray, List.set_cons_zero, List.set_cons_succ]) | (refine wpAnyH_take (i := 13) (v := undef) rfl (by kernel_rfl) (by kernel_rfl) (by kernel_rfl) (fun _ _ _ h => h) (Or.inr ⟨by rfl, rfl⟩) (by assumption) ?tkr13_18; try simp only [Act.put, List.setIfInBounds_toArray, List.set_cons_zero, List.set_cons_succ])
    first | (refine wpAnyH_take (i := 14) (v := ?tkv14_19) rfl (by kernel_rfl) (by kernel_rfl) (by kernel_rfl) (fun _ _ _ h => h) (Or.inl ⟨by rfl, ?tky14_19⟩) (by assumption) ?tkr14_19; case tky14_19 => (intro V hV; (try dsimp only at hV); go_simp; (try with_reducible rfl)); try simp only [Act.put, List.setIfInBounds_toArray, List.set_cons_zero, List.set_cons_succ]) | (refine wpAnyH_take (i := 14) (v := undef) rfl (by kernel_rfl) (by kernel_rfl) (by kernel_rfl) (fun _ _ _ h => h) (Or.inr ⟨by rfl, rfl⟩) (by assumption) ?tkr14_20; try simp only [Act.put, List.setIfInBounds_toArray, List.set_cons_zero, List.set_cons_succ])
    first | (refine wpAnyH_take (i := 20) (v := ?tkv20_21) rfl (by kernel_rfl) (by kernel_rfl) (by kernel_rfl) (fun _ _ _ h => h) (Or.inl ⟨by rfl, ?tky20_21⟩) (by assumption) ?tkr20_21; case tky20_21 => (intro V hV; (try dsimp only at hV); go_simp; (try with_reducible rfl)); try simp only [Act.put, List.setIfInBounds_toArray, List.set_cons_zero, List.set_cons_succ]) | (refine wpAnyH_take (i := 20) (v := undef) rfl (by kernel_rfl) (by kernel_rfl) (by kernel_rfl) (fun _ _ _ h => h) (Or.inr ⟨by rfl, rfl⟩) (by assumption) ?tkr20_22; try simp only [Act.put, List.setIfInBounds_toArray, List.set_cons_zero, List.set_cons_succ])
    first | (refine wpAnyH_take (i := 21) (v := ?tkv21_23) rfl (by kernel_rfl) (by kernel_rfl) (by kernel_rfl) (fun _ _ _ h => h) (Or.inl ⟨by rfl, ?tky21_23⟩) (by assumption) ?tkr21_23; case tky21_23 => (intro V hV; (try dsimp only at hV); go_simp; (try with_reducible rfl)); try simp only [Act.put, List.setIfInBounds_toArray, List.set_cons_zero, List.set_cons_succ]) | (refine wpAnyH_take (i := 21) (v := undef) rfl (by kernel_rfl) (by kernel_rfl) (by kernel_rfl) (fun _ _ _ h => h) (Or.inr ⟨by rfl, rfl⟩) (by assumption) ?tkr21_24; try simp only [Act.put, List.setIfInBounds_toArray, List.set_cons_zero, List.set_cons_succ])
    first | (refine wpAnyH_take (i := 22) (v := ?tkv22_25) rfl (by kernel_rfl) (by kernel_rfl) (by kernel_rfl) (fun _ _ _ h => h) (Or.inl ⟨by rfl, ?tky22_25⟩) (by assumption) ?tkr22_25; case tky22_25 => (intro V hV; (try dsimp only at hV); go_simp; (try with_reducible rfl)); try simp only [Act.put, List.setIfInBounds_toArray, List.set_cons_zero, List.set_cons_succ]) | (refine wpAnyH_take (i := 22) (v := undef) rfl (by kernel_rfl) (by kernel_rfl) (by kernel_rfl) (fun _ _ _ h => h) (Or.inr ⟨by rfl, rfl⟩) (by assumption) ?tkr22_26; try simp only [Act.put, List.setIfInBounds_toArray, List.set_cons_zero, List.set_cons_succ])
    first | (refine wpAnyH_take (i := 24) (v := ?tkv24_27) rfl (by kernel_rfl) (by kernel_rfl) (by kernel_rfl) (fun _ _ _ h => h) (Or.inl ⟨by rfl, ?tky24_27⟩) (by assumption) ?tkr24_27; case tky24_27 => (intro V hV; (try dsimp only at hV); go_simp; (try with_reducible rfl)); try simp only [Act.put, List.setIfInBounds_toArray, List.set_cons_zero, List.set_cons_succ]) | (refine wpAnyH_take (i := 24) (v := undef) rfl (by kernel_rfl) (by kernel_rfl) (by kernel_rfl) (fun _ _ _ h => h) (Or.inr ⟨by rfl, rfl⟩) (by assumption) ?tkr24_28; try simp only [Act.put, List.setIfInBounds_toArray, List.set_cons_zero, List.set_cons_succ])
    first | (refine wpAnyH_take (i := 25) (v := ?tkv25_29) rfl (by kernel_rfl) (by kernel_rfl) (by kernel_rfl) (fun _ _ _ h => h) (Or.inl ⟨by rfl, ?tky25_29⟩) (by assumption) ?tkr25_29; case tky25_29 => (intro V hV; (try dsimp only at hV); go_simp; (try with_reducible rfl)); try simp only [Act.put, List.setIfInBounds_toArray, List.set_cons_zero, List.set_cons_succ]) | (refine wpAnyH_take (i := 25) (v := undef) rfl (by kernel_rfl) (by kernel_rfl) (by kernel_rfl) (fun _ _ _ h => h) (Or.inr ⟨by rfl, rfl⟩) (by assumption) ?tkr25_30; try simp only [Act.put, List.setIfInBounds_toArray, List.set_cons_zero, List.set_cons_succ])
    first | (refine wpAnyH_take (i := 28) (v := ?tkv28_31) rfl (by kernel_rfl) (by kernel_rfl) (by kernel_rfl) (fun _ _ _ h => h) (Or.inl ⟨by rfl, ?tky28_31⟩) (by assumption) ?tkr28_31; case tky28_31 => (intro V hV; (try dsimp only at hV); go_simp; (try with_reducible rfl)); try simp only [Act.put, List.setIfInBounds_toArray, List.set_cons_zero, List.set_cons_succ]) | (refine wpAnyH_take (i := 28) (v := undef) rfl (by kernel_rfl) (by kernel_rfl) (by kernel_rfl) (fun _ _ _ h => h) (Or.inr ⟨by rfl, rfl⟩) (by assumption) ?tkr28_32; try simp only [Act.put, List.setIfInBounds_toArray, List.set_cons_zero, List.set_cons_succ])
    first | (refine wpAnyH_take (i := 29) (v := ?tkv29_33) rfl (by kernel_rfl) (by kernel_rfl) (by kernel_rfl) (fun _ _ _ h => h) (Or.inl ⟨by rfl, ?tky29_33⟩) (by assumption) ?tkr29_33; case tky29_33 => (intro V hV; (try dsimp only at hV); go_simp; (try with_reducible rfl)); try simp only [Act.put, List.setIfInBounds_toArray, List.set_cons_zero, List.set_cons_succ]) | (refine wpAnyH_take (i := 29) (v := undef) rfl (by kernel_rfl) (by kernel_rfl) (by kernel_rfl) (fun _ _ _ h => h) (Or.inr ⟨by rfl, rfl⟩) (by assumption) ?tkr29_34; try simp only [Act.put, List.setIfInBounds_toArray, List.set_cons_zero, List.set_cons_succ])
    first | (refine wpAnyH_take (i := 35) (v := ?tkv35_35) rfl (by kernel_rfl) (by kernel_rfl) (by kernel_rfl) (fun _ _ _ h => h) (Or.inl ⟨by rfl, ?tky35_35⟩) (by assumption) ?tkr35_35; case tky35_35 => (intro V hV; (try dsimp only at hV); go_simp; (try with_reducible rfl)); try simp only [Act.put, List.setIfInBounds_toArray, List.set_cons_zero, List.set_cons_succ]) | (refine wpAnyH_take (i := 35) (v := undef) rfl (by kernel_rfl) (by kernel_rfl) (by kernel_rfl) (fun _ _ _ h => h) (Or.inr ⟨by rfl, rfl⟩) (by assumption) ?tkr35_36; try simp only [Act.put, List.setIfInBounds_toArray, List.set_cons_zero, List.set_cons_succ])
    first | (refine wpAnyH_take (i := 36) (v := ?tkv36_37) rfl (by kernel_rfl) (by kernel_rfl) (by kernel_rfl) (fun _ _ _ h => h) (Or.inl ⟨by rfl, ?tky36_37⟩) (by assumption) ?tkr36_37; case tky36_37 => (intro V hV; (try dsimp only at hV); go_simp; (try with_reducible rfl)); try simp only [Act.put, List.setIfInBounds_toArray, List.set_cons_zero, List.set_cons_succ]) | (refine wpAnyH_take (i := 36) (v := undef) rfl (by kernel_rfl) (by kernel_rfl) (by kernel_rfl) (fun _ _ _ h => h) (Or.inr ⟨by rfl, rfl⟩) (by assumption) ?tkr36_38; try simp only [Act.put, List.setIfInBounds_toArray, List.set_cons_zero, List.set_cons_succ])
    first | (refine wpAnyH_take (i := 37) (v := ?tkv37_39) rfl (by kernel_rfl) (by kernel_rfl) (by kernel_rfl) (fun _ _ _ h => h) (Or.inl ⟨by rfl, ?tky37_39⟩) (by assumption) ?tkr37_39; case tky37_39 => (intro V hV; (try dsimp only at hV); go_simp; (try with_reducible rfl)); try simp only [Act.put, List.setIfInBounds_toArray, List.set_cons_zero, List.set_cons_succ]) | (refine wpAnyH_take (i := 37) (v := undef) rfl (by kernel_rfl) (by kernel_rfl) (by kernel_rfl) (fun _ _ _ h => h) (Or.inr ⟨by rfl, rfl⟩) (by assumption) ?tkr37_40; try simp only [Act.put, List.setIfInBounds_toArray, List.set_cons_zero, List.set_cons_succ])
    first | (refine wpAnyH_take (i := 38) (v := ?tkv38_41) rfl (by kernel_rfl) (by kernel_rfl) (by kernel_rfl) (fun _ _ _ h => h) (Or.inl ⟨by rfl, ?tky38_41⟩) (by assumption) ?tkr38_41; case tky38_41 => (intro V hV; (try dsimp only at hV); go_simp; (try with_reducible rfl)); try simp only [Act.put, List.setIfInBounds_toArray, List.set_cons_zero, List.set_cons_succ]) | (refine wpAnyH_take (i := 38) (v := undef) rfl (by kernel_rfl) (by kernel_rfl) (by kernel_rfl) (fun _ _ _ h => h) (Or.inr ⟨by rfl, rfl⟩) (by assumption) ?tkr38_42; try simp only [Act.put, List.setIfInBounds_toArray, List.set_cons_zero, List.set_cons_succ])
    first | (refine wpAnyH_take (i := 42) (v := ?tkv42_43) rfl (by kernel_rfl) (by kernel_rfl) (by kernel_rfl) (fun _ _ _ h => h) (Or.inl ⟨by rfl, ?tky42_43⟩) (by assumption) ?tkr42_43; case tky42_43 => (intro V hV; (try dsimp only at hV); go_simp; (try with_reducible rfl)); try simp only [Act.put, List.setIfInBounds_toArray, List.set_cons_zero, List.set_cons_succ]) | (refine wpAnyH_take (i := 42) (v := undef) rfl (by kernel_rfl) (by kernel_rfl) (by kernel_rfl) (fun _ _ _ h => h) (Or.inr ⟨by rfl, rfl⟩) (by assumption) ?tkr42_44; try simp only [Act.put, List.setIfInBounds_toArray, List.set_cons_zero, List.set_cons_succ])
    first | (refine wpAnyH_take (i := 43) (v := ?tkv43_45) rfl (by kernel_rfl) (by kernel_rfl) (by kernel_rfl) (fun _ _ _ h => h) (Or.inl ⟨by rfl, ?tky43_45⟩) (by assumption) ?tkr43_45; case tky43_45 => (intro V hV; (try dsimp only at hV); go_simp; (try with_reducible rfl)); try simp only [Act.put, List.setIfInBounds_toArray, List.set_cons_zero, List.set_cons_succ]) | (refine wpAnyH_take (i := 43) (v := undef) rfl (by kernel_rfl) (by kernel_rfl) (by kernel_rfl) (fun _ _ _ h => h) (Or.inr ⟨by rfl, rfl⟩) (by assumption) ?tkr43_46; try simp only [Act.put, List.setIfInBounds_toArray, List.set_cons_zero, List.set_cons_succ])
    first | (refine wpAnyH_take (i := 44) (v := ?tkv44_47) rfl (by kernel_rfl) (by kernel_rfl) (by kernel_rfl) (fun _ _ _ h => h) (Or.inl ⟨by rfl, ?tky44_47⟩) (by assumption) ?tkr44_47; case tky44_47 => (intro V hV; (try dsimp only at hV); go_simp; (try with_reducible rfl)); try simp only [Act.put, List.setIfInBounds_toArray, List.set_cons_zero, List.set_cons_succ]) | (refine wpAnyH_take (i := 44) (v := undef) rfl (by kernel_rfl) (by kernel_rfl) (by kernel_rfl) (fun _ _ _ h => h) (Or.inr ⟨by rfl, rfl⟩) (by assumption) ?tkr44_48; try simp only [Act.put, List.setIfInBounds_toArray, List.set_cons_zero, List.set_cons_succ])
    first | (refine wpAnyH_take (i := 45) (v := ?tkv45_49) rfl (by kernel_rfl) (by kernel_rfl) (by kernel_rfl) (fun _ _ _ h => h) (Or.inl ⟨by rfl, ?tky45_49⟩) (by assumption) ?tkr45_49; case tky45_49 => (intro V hV; (try dsimp only at hV); go_simp; (try with_reducible rfl)); try simp only [Act.put, List.setIfInBounds_toArray, List.set_cons_zero, List.set_cons_succ]) | (refine wpAnyH_take (i := 45) (v := undef) rfl (by kernel_rfl) (by kernel_rfl) (by kernel_rfl) (fun _ _ _ h => h) (Or.inr ⟨by rfl, rfl⟩) (by assumption) ?tkr45_50; try simp only [Act.put, List.setIfInBounds_toArray, List.set_cons_zero, List.set_cons_succ])
    first | (refine wpAnyH_take (i := 49) (v := ?tkv49_51) rfl (by kernel_rfl) (by kernel_rfl) (by kernel_rfl) (fun _ _ _ h => h) (Or.inl ⟨by rfl, ?tky49_51⟩) (by assumption) ?tkr49_51; case tky49_51 => (intro V hV; (try dsimp only at hV); go_simp; (try with_reducible rfl)); try simp only [Act.put, List.setIfInBounds_toArray, List.set_cons_zero, List.set_cons_succ]) | (refine wpAnyH_take (i := 49) (v := undef) rfl (by kernel_rfl) (by kernel_rfl) (by kernel_rfl) (fun _ _ _ h => h) (Or.inr ⟨by rfl, rfl⟩) (by assumption) ?tkr49_52; try simp only [Act.put, List.setIfInBounds_toArray, List.set_cons_zero, List.set_cons_succ])
    first | (refine wpAnyH_take (i := 50) (v := ?tkv50_53) rfl (by kernel_rfl) (by kernel_rfl) (by kernel_rfl) (fun _ _ _ h => h) (Or.inl ⟨by rfl, ?tky50_53⟩) (by assumption) ?tkr50_53; case tky50_53 => (intro V hV; (try dsimp only at hV); go_simp; (try with_reducible rfl)); try simp only [Act.put, List.setIfInBounds_toArray, List.set_cons_zero, List.set_cons_succ]) | (refine wpAnyH_take (i := 50) (v := undef) rfl (by kernel_rfl) (by kernel_rfl) (by kernel_rfl) (fun _ _ _ h => h) (Or.inr ⟨by rfl, rfl⟩) (by assumption) ?tkr50_54; try simp only [Act.put, List.setIfInBounds_toArray, List.set_cons_zero, List.set_cons_succ])
    first | (refine wpAnyH_take (i := 53) (v := ?tkv53_55) rfl (by kernel_rfl) (by kernel_rfl) (by kernel_rfl) (fun _ _ _ h => h) (Or.inl ⟨by rfl, ?tky53_55⟩) (by assumption) ?tkr53_55; case tky53_55 => (intro V hV; (try dsimp only at hV); go_simp; (try with_reducible rfl)); try simp only [Act.put, List.setIfInBounds_toArray, List.set_cons_zero, List.set_cons_succ]) | (refine wpAnyH_take (i := 53) (v := undef) rfl (by kernel_rfl) (by kernel_rfl) (by kernel_rfl) (fun _ _ _ h => h) (Or.inr ⟨by rfl, rfl⟩) (by assumption) ?tkr53_56; try simp only [Act.put, List.setIfInBounds_toArray, List.set_cons_zero, List.set_cons_succ])
    (refine wpAnyH_ready (rs := [3]) (by kernel_rfl) (by simp) ?_; refine AllReadyH.cons rfl (fun K hK => ?_) AllReadyH.nil; (try go_simp); (go_at_call 29; (with_reducible refine (not_v _ _ a (HA5.out.below hbd)).mono ?_); rintro e w6 ⟨x3, rfl, hx3, hb⟩); refine hK.out _ _ (by exact ab_keep hHeld hb) (fun hHeld => ?_); clear hK K; try simp only [Act.put, List.setIfInBounds_toArray, List.set_cons_zero, List.set_cons_succ])
    replace hbd := bstep hbd hb
    clear hb
    (refine wpAnyH_ready (rs := [4]) (by kernel_rfl) (by simp) ?_; refine AllReadyH.cons rfl (fun K hK => ?_) AllReadyH.nil; (try go_simp); (go_at_call 29; (with_reducible refine (not_v _ _ _ hx3).mono ?_); rintro e w7 ⟨x4, rfl, hx4, hb⟩); refine hK.out _ _ (by exact ab_keep hHeld hb) (fun hHeld => ?_); clear hK K; try simp only [Act.put, List.setIfInBounds_toArray, List.set_cons_zero, List.set_cons_succ])
    replace hbd := bstep hbd hb
    replace hx3 := hx3.below hb
    clear hb
    obtain ⟨csx4, rfl, c4⟩ := hx4
    have c4S := c4.shape
    obtain ⟨kx4, lx4, ox4, ix4, jx4, tx4, dx4, mx4, px4, rfl⟩ := c4S
    first | (refine wpAnyH_take (i := 6) (v := ?tkv6_57) rfl (by kernel_rfl) (by kernel_rfl) (by kernel_rfl) (fun _ _ _ h => h) (Or.inl ⟨by rfl, ?tky6_57⟩) (by assumption) ?tkr6_57; case tky6_57 => (intro V hV; (try dsimp only at hV); go_simp; (try with_reducible rfl)); try simp only [Act.put, List.setIfInBounds_toArray, List.set_cons_zero, List.set_cons_succ]) | (refine wpAnyH_take (i := 6) (v := undef) rfl (by kernel_rfl) (by kernel_rfl) (by kernel_rfl) (fun _ _ _ h => h) (Or.inr ⟨by rfl, rfl⟩) (by assumption) ?tkr6_58; try simp only [Act.put, List.setIfInBounds_toArray, List.set_cons_zero, List.set_cons_succ])
    (refine wpAnyH_ready (rs := [11]) (by kernel_rfl) (by simp) ?_; refine AllReadyH.cons rfl (fun K hK => ?_) AllReadyH.nil; (try go_simp); (go_at_call 30; (with_reducible refine (and_v _ _ _ a b (HA5.out.below hbd) (HB5.out.below hbd)).mono ?_); rintro e w8 ⟨x11, rfl, hx11, hb⟩); refine hK.out _ _ (by exact ab_keep hHeld hb) (fun hHeld => ?_); clear hK K; try simp only [Act.put, List.setIfInBounds_toArray, List.set_cons_zero, List.set_cons_succ])
    replace hbd := bstep hbd hb
    replace c4 := CnAt.below hb _ _ c4
    clear hb
    (refine wpAnyH_ready (rs := [12]) (by kernel_rfl) (by simp) ?_; refine AllReadyH.cons rfl (fun K hK => ?_) AllReadyH.nil; (try go_simp); (go_at_call 29; (with_reducible refine (not_v _ _ _ hx11).mono ?_); rintro e w9 ⟨x12, rfl, hx12, hb⟩); refine hK.out _ _ (by exact ab_keep hHeld hb) (fun hHeld => ?_); clear hK K; try simp only [Act.put, List.setIfInBounds_toArray, List.set_cons_zero, List.set_cons_succ])
    replace hbd := bstep hbd hb
    replace c4 := CnAt.below hb _ _ c4
    replace hx11 := hx11.below hb
    clear hb
    obtain ⟨csx12, rfl, c12⟩ := hx12
    have c12S := c12.shape
    obtain ⟨kx12, lx12, ox12, ix12, jx12, tx12, dx12, mx12, px12, rfl⟩ := c12S
    first | (refine wpAnyH_take (i := 15) (v := ?tkv15_59) rfl (by kernel_rfl) (by kernel_rfl) (by kernel_rfl) (fun _ _ _ h => h) (Or.inl ⟨by rfl, ?tky15_59⟩) (by assumption) ?tkr15_59; case tky15_59 => (intro V hV; (try dsimp only at hV); go_simp; (try with_reducible rfl)); try simp only [Act.put, List.setIfInBounds_toArray, List.set_cons_zero, List.set_cons_succ]) | (refine wpAnyH_take (i := 15) (v := undef) rfl (by kernel_rfl) (by kernel_rfl) (by kernel_rfl) (fun _ _ _ h => h) (Or.inr ⟨by rfl, rfl⟩) (by assumption) ?tkr15_60; try simp only [Act.put, List.setIfInBounds_toArray, List.set_cons_zero, List.set_cons_succ])
    first | (refine wpAnyH_take (i := 16) (v := ?tkv16_61) rfl (by kernel_rfl) (by kernel_rfl) (by kernel_rfl) (fun _ _ _ h => h) (Or.inl ⟨by rfl, ?tky16_61⟩) (by assumption) ?tkr16_61; case tky16_61 => (intro V hV; (try dsimp only at hV); go_simp; (try with_reducible rfl)); try simp only [Act.put, List.setIfInBounds_toArray, List.set_cons_zero, List.set_cons_succ]) | (refine wpAnyH_take (i := 16) (v := undef) rfl (by kernel_rfl) (by kernel_rfl) (by kernel_rfl) (fun _ _ _ h => h) (Or.inr ⟨by rfl, rfl⟩) (by assumption) ?tkr16_62; try simp only [Act.put, List.setIfInBounds_toArray, List.set_cons_zero, List.set_cons_succ])
    first | (refine wpAnyH_take (i := 17) (v := ?tkv17_63) rfl (by kernel_rfl) (by kernel_rfl) (by kernel_rfl) (fun _ _ _ h => h) (Or.inl ⟨by rfl, ?tky17_63⟩) (by assumption) ?tkr17_63; case tky17_63 => (intro V hV; (try dsimp only at hV); go_simp; (try with_reducible rfl)); try simp only [Act.put, List.setIfInBounds_toArray, List.set_cons_zero, List.set_cons_succ]) | (refine wpAnyH_take (i := 17) (v := undef) rfl (by kernel_rfl) (by kernel_rfl) (by kernel_rfl) (fun _ _ _ h => h) (Or.inr ⟨by rfl, rfl⟩) (by assumption) ?tkr17_64; try simp only [Act.put, List.setIfInBounds_toArray, List.set_cons_zero, List.set_cons_succ])
    first | (refine wpAnyH_take (i := 18) (v := ?tkv18_65) rfl (by kernel_rfl) (by kernel_rfl) (by kernel_rfl) (fun _ _ _ h => h) (Or.inl ⟨by rfl, ?tky18_65⟩) (by assumption) ?tkr18_65; case tky18_65 => (intro V hV; (try dsimp only at hV); go_simp; (try with_reducible rfl)); try simp only [Act.put, List.setIfInBounds_toArray, List.set_cons_zero, List.set_cons_succ]) | (refine wpAnyH_take (i := 18) (v := undef) rfl (by kernel_rfl) (by kernel_rfl) (by kernel_rfl) (fun _ _ _ h => h) (Or.inr ⟨by rfl, rfl⟩) (by assumption) ?tkr18_66; try simp only [Act.put, List.setIfInBounds_toArray, List.set_cons_zero, List.set_cons_succ])
    first | (refine wpAnyH_take (i := 19) (v := ?tkv19_67) rfl (by kernel_rfl) (by kernel_rfl) (by kernel_rfl) (fun _ _ _ h => h) (Or.inl ⟨by rfl, ?tky19_67⟩) (by assumption) ?tkr19_67; case tky19_67 => (intro V hV; (try dsimp only at hV); go_simp; (try with_reducible rfl)); try simp only [Act.put, List.setIfInBounds_toArray, List.set_cons_zero, List.set_cons_succ]) | (refine wpAnyH_take (i := 19) (v := undef) rfl (by kernel_rfl) (by kernel_rfl) (by kernel_rfl) (fun _ _ _ h => h) (Or.inr ⟨by rfl, rfl⟩) (by assumption) ?tkr19_68; try simp only [Act.put, List.setIfInBounds_toArray, List.set_cons_zero, List.set_cons_succ])
    (refine wpAnyH_ready (rs := [23]) (by kernel_rfl) (by simp) ?_; refine AllReadyH.cons rfl (fun K hK => ?_) AllReadyH.nil; (try go_simp); (go_at_call 29; (with_reducible refine (not_v _ _ a (HA5.out.below hbd)).mono ?_); rintro e w10 ⟨x23, rfl, hx23, hb⟩); refine hK.out _ _ (by exact ab_keep hHeld hb) (fun hHeld => ?_); clear hK K; try simp only [Act.put, List.setIfInBounds_toArray, List.set_cons_zero, List.set_cons_succ])
    replace hbd := bstep hbd hb
    replace c4 := CnAt.below hb _ _ c4
    replace c12 := CnAt.below hb _ _ c12
    clear hb
    (refine wpAnyH_ready (rs := [26]) (by kernel_rfl) (by simp) ?_; refine AllReadyH.cons rfl (fun K hK => ?_) AllReadyH.nil; (try go_simp); (go_at_call 29; (with_reducible refine (not_v _ _ b (HB5.out.below hbd)).mono ?_); rintro e w11 ⟨x26, rfl, hx26, hb⟩); refine hK.out _ _ (by exact ab_keep hHeld hb) (fun hHeld => ?_); clear hK K; try simp only [Act.put, List.setIfInBounds_toArray, List.set_cons_zero, List.set_cons_succ])
    replace hbd := bstep hbd hb
    replace c4 := CnAt.below hb _ _ c4
    replace c12 := CnAt.below hb _ _ c12
    replace hx23 := hx23.below hb
    clear hb
    (refine wpAnyH_ready (rs := [27]) (by kernel_rfl) (by simp) ?_; refine AllReadyH.cons rfl (fun K hK => ?_) AllReadyH.nil; (try go_simp); (go_at_call 31; (with_reducible refine (or_v _ _ _ _ _ hx23 hx26).mono ?_); rintro e w12 ⟨x27, rfl, hx27, hb⟩); refine hK.out _ _ (by exact ab_keep hHeld hb) (fun hHeld => ?_); clear hK K; try simp only [Act.put, List.setIfInBounds_toArray, List.set_cons_zero, List.set_cons_succ])
    replace hbd := bstep hbd hb
    replace c4 := CnAt.below hb _ _ c4
    replace c12 := CnAt.below hb _ _ c12
    replace hx23 := hx23.below hb
    replace hx26 := hx26.below hb
    clear hb
    obtain ⟨csx27, rfl, c27⟩ := hx27
    have c27S := c27.shape
    obtain ⟨kx27, lx27, ox27, ix27, jx27, tx27, dx27, mx27, px27, rfl⟩ := c27S
    first | (refine wpAnyH_take (i := 30) (v := ?tkv30_69) rfl (by kernel_rfl) (by kernel_rfl) (by kernel_rfl) (fun _ _ _ h => h) (Or.inl ⟨by rfl, ?tky30_69⟩) (by assumption) ?tkr30_69; case tky30_69 => (intro V hV; (try dsimp only at hV); go_simp; (try with_reducible rfl)); try simp only [Act.put, List.setIfInBounds_toArray, List.set_cons_zero, List.set_cons_succ]) | (refine wpAnyH_take (i := 30) (v := undef) rfl (by kernel_rfl) (by kernel_rfl) (by kernel_rfl) (fun _ _ _ h => h) (Or.inr ⟨by rfl, rfl⟩) (by assumption) ?tkr30_70; try simp only [Act.put, List.setIfInBounds_toArray, List.set_cons_zero, List.set_cons_succ])
    first | (refine wpAnyH_take (i := 31) (v := ?tkv31_71) rfl (by kernel_rfl) (by kernel_rfl) (by kernel_rfl) (fun _ _ _ h => h) (Or.inl ⟨by rfl, ?tky31_71⟩) (by assumption) ?tkr31_71; case tky31_71 => (intro V hV; (try dsimp only at hV); go_simp; (try with_reducible rfl)); try simp only [Act.put, List.setIfInBounds_toArray, List.set_cons_zero, List.set_cons_succ]) | (refine wpAnyH_take (i := 31) (v := undef) rfl (by kernel_rfl) (by kernel_rfl) (by kernel_rfl) (fun _ _ _ h => h) (Or.inr ⟨by rfl, rfl⟩) (by assumption) ?tkr31_72; try simp only [Act.put, List.setIfInBounds_toArray, List.set_cons_zero, List.set_cons_succ])
    first | (refine wpAnyH_take (i := 32) (v := ?tkv32_73) rfl (by kernel_rfl) (by kernel_rfl) (by kernel_rfl) (fun _ _ _ h => h) (Or.inl ⟨by rfl, ?tky32_73⟩) (by assumption) ?tkr32_73; case tky32_73 => (intro V hV; (try dsimp only at hV); go_simp; (try with_reducible rfl)); try simp only [Act.put, List.setIfInBounds_toArray, List.set_cons_zero, List.set_cons_succ]) | (refine wpAnyH_take (i := 32) (v := undef) rfl (by kernel_rfl) (by kernel_rfl) (by kernel_rfl) (fun _ _ _ h => h) (Or.inr ⟨by rfl, rfl⟩) (by assumption) ?tkr32_74; try simp only [Act.put, List.setIfInBounds_toArray, List.set_cons_zero, List.set_cons_succ])
    first | (refine wpAnyH_take (i := 33) (v := ?tkv33_75) rfl (by kernel_rfl) (by kernel_rfl) (by kernel_rfl) (fun _ _ _ h => h) (Or.inl ⟨by rfl, ?tky33_75⟩) (by assumption) ?tkr33_75; case tky33_75 => (intro V hV; (try dsimp only at hV); go_simp; (try with_reducible rfl)); try simp only [Act.put, List.setIfInBounds_toArray, List.set_cons_zero, List.set_cons_succ]) | (refine wpAnyH_take (i := 33) (v := undef) rfl (by kernel_rfl) (by kernel_rfl) (by kernel_rfl) (fun _ _ _ h => h) (Or.inr ⟨by rfl, rfl⟩) (by assumption) ?tkr33_76; try simp only [Act.put, List.setIfInBounds_toArray, List.set_cons_zero, List.set_cons_succ])
    first | (refine wpAnyH_take (i := 34) (v := ?tkv34_77) rfl (by kernel_rfl) (by kernel_rfl) (by kernel_rfl) (fun _ _ _ h => h) (Or.inl ⟨by rfl, ?tky34_77⟩) (by assumption) ?tkr34_77; case tky34_77 => (intro V hV; (try dsimp only at hV); go_simp; (try with_reducible rfl)); try simp only [Act.put, List.setIfInBounds_toArray, List.set_cons_zero, List.set_cons_succ]) | (refine wpAnyH_take (i := 34) (v := undef) rfl (by kernel_rfl) (by kernel_rfl) (by kernel_rfl) (fun _ _ _ h => h) (Or.inr ⟨by rfl, rfl⟩) (by assumption) ?tkr34_78; try simp only [Act.put, List.setIfInBounds_toArray, List.set_cons_zero, List.set_cons_succ])
    (refine wpAnyH_ready (rs := [39]) (by kernel_rfl) (by simp) ?_; refine AllReadyH.cons rfl (fun K hK => ?_) AllReadyH.nil; (try go_simp); (go_at_call 29; (with_reducible refine (not_v _ _ a (HA5.out.below hbd)).mono ?_); rintro e w13 ⟨x39, rfl, hx39, hb⟩); refine hK.out _ _ (by exact ab_keep hHeld hb) (fun hHeld => ?_); clear hK K; try simp only [Act.put, List.setIfInBounds_toArray, List.set_cons_zero, List.set_cons_succ])
    replace hbd := bstep hbd hb
    replace c4 := CnAt.below hb _ _ c4
    replace c12 := CnAt.below hb _ _ c12
    replace c27 := CnAt.below hb _ _ c27
    clear hb
    (refine wpAnyH_ready (rs := [40]) (by kernel_rfl) (by simp) ?_; refine AllReadyH.cons rfl (fun K hK => ?_) AllReadyH.nil; (try go_simp); (go_at_call 31; (with_reducible refine (or_v _ _ _ a _ (HA5.out.below hbd) hx39).mono ?_); rintro e w14 ⟨x40, rfl, hx40, hb⟩); refine hK.out _ _ (by exact ab_keep hHeld hb) (fun hHeld => ?_); clear hK K; try simp only [Act.put, List.setIfInBounds_toArray, List.set_cons_zero, List.set_cons_succ])
    replace hbd := bstep hbd hb
    replace c4 := CnAt.below hb _ _ c4
    replace c12 := CnAt.below hb _ _ c12
    replace c27 := CnAt.below hb _ _ c27
    replace hx39 := hx39.below hb
    clear hb
    obtain ⟨csx40, rfl, c40⟩ := hx40
    have c40S := c40.shape
    obtain ⟨kx40, lx40, ox40, ix40, jx40, tx40, dx40, mx40, px40, rfl⟩ := c40S
    first | (refine wpAnyH_take (i := 41) (v := ?tkv41_79) rfl (by kernel_rfl) (by kernel_rfl) (by kernel_rfl) (fun _ _ _ h => h) (Or.inl ⟨by rfl, ?tky41_79⟩) (by assumption) ?tkr41_79; case tky41_79 => (intro V hV; (try dsimp only at hV); go_simp; (try with_reducible rfl)); try simp only [Act.put, List.setIfInBounds_toArray, List.set_cons_zero, List.set_cons_succ]) | (refine wpAnyH_take (i := 41) (v := undef) rfl (by kernel_rfl) (by kernel_rfl) (by kernel_rfl) (fun _ _ _ h => h) (Or.inr ⟨by rfl, rfl⟩) (by assumption) ?tkr41_80; try simp only [Act.put, List.setIfInBounds_toArray, List.set_cons_zero, List.set_cons_succ])
    (refine wpAnyH_ready (rs := [46]) (by kernel_rfl) (by simp) ?_; refine AllReadyH.cons rfl (fun K hK => ?_) AllReadyH.nil; (try go_simp); (go_at_call 29; (with_reducible refine (not_v _ _ a (HA5.out.below hbd)).mono ?_); rintro e w15 ⟨x46, rfl, hx46, hb⟩); refine hK.out _ _ (by exact ab_keep hHeld hb) (fun hHeld => ?_); clear hK K; try simp only [Act.put, List.setIfInBounds_toArray, List.set_cons_zero, List.set_cons_succ])
    replace hbd := bstep hbd hb
    replace c4 := CnAt.below hb _ _ c4
    replace c12 := CnAt.below hb _ _ c12
    replace c27 := CnAt.below hb _ _ c27
    replace c40 := CnAt.below hb _ _ c40
    clear hb
    (refine wpAnyH_ready (rs := [47]) (by kernel_rfl) (by simp) ?_; refine AllReadyH.cons rfl (fun K hK => ?_) AllReadyH.nil; (try go_simp); (go_at_call 30; (with_reducible refine (and_v _ _ _ a _ (HA5.out.below hbd) hx46).mono ?_); rintro e w16 ⟨x47, rfl, hx47, hb⟩); refine hK.out _ _ (by exact ab_keep hHeld hb) (fun hHeld => ?_); clear hK K; try simp only [Act.put, List.setIfInBounds_toArray, List.set_cons_zero, List.set_cons_succ])
    replace hbd := bstep hbd hb
    replace c4 := CnAt.below hb _ _ c4
    replace c12 := CnAt.below hb _ _ c12
    replace c27 := CnAt.below hb _ _ c27
    replace c40 := CnAt.below hb _ _ c40
    replace hx46 := hx46.below hb
    clear hb
    obtain ⟨csx47, rfl, c47⟩ := hx47
    have c47S := c47.shape
    obtain ⟨kx47, lx47, ox47, ix47, jx47, tx47, dx47, mx47, px47, rfl⟩ := c47S
    first | (refine wpAnyH_take (i := 48) (v := ?tkv48_81) rfl (by kernel_rfl) (by kernel_rfl) (by kernel_rfl) (fun _ _ _ h => h) (Or.inl ⟨by rfl, ?tky48_81⟩) (by assumption) ?tkr48_81; case tky48_81 => (intro V hV; (try dsimp only at hV); go_simp; (try with_reducible rfl)); try simp only [Act.put, List.setIfInBounds_toArray, List.set_cons_zero, List.set_cons_succ]) | (refine wpAnyH_take (i := 48) (v := undef) rfl (by kernel_rfl) (by kernel_rfl) (by kernel_rfl) (fun _ _ _ h => h) (Or.inr ⟨by rfl, rfl⟩) (by assumption) ?tkr48_82; try simp only [Act.put, List.setIfInBounds_toArray, List.set_cons_zero, List.set_cons_succ])
    (refine wpAnyH_ready (rs := [51]) (by kernel_rfl) (by simp) ?_; refine AllReadyH.cons rfl (fun K hK => ?_) AllReadyH.nil; (try go_simp); refine hK.out _ _ (by exact ab_keep hHeld ((Below.refl _ _).alloc (Nat.le_refl _) _)) (fun hHeld => ?_); clear hK K; try simp only [Act.put, List.setIfInBounds_toArray, List.set_cons_zero, List.set_cons_succ])
    (refine wpAnyH_take (i := 52) (v := ?tkv52_83) rfl (by kernel_rfl) (by kernel_rfl) (by kernel_rfl) (fun _ _ _ h => h) (Or.inl ⟨by rfl, ?tky52_83⟩) (by assumption) ?tkr52_83; case tky52_83 => (intro V hV; (try dsimp only at hV); go_simp; (try with_reducible rfl)); try simp only [Act.put, List.setIfInBounds_toArray, List.set_cons_zero, List.set_cons_succ])
    simp only [List.getElem_toArray, List.getElem_cons_succ, List.getElem_cons_zero, Act.put, List.setIfInBounds_toArray, List.set_cons_zero, List.set_cons_succ]
    refine wpAnyH_done (by kernel_rfl) ?_ _
    clear hHeld
    obtain ⟨W, hW⟩ : ∃ W, w16.alloc (Obj.cells #[.int .i64 kx4, .string lx4, .string ox4, .int .i64 ix4, .int .i64 jx4, .string tx4, .slice dx4 mx4 px4, .bool false, .int .i64 kx12, .string lx12, .string ox12, .int .i64 ix12, .int .i64 jx12, .string tx12, .slice dx12 mx12 px12, .bool true, .int .i64 kx27, .string lx27, .string ox27, .int .i64 ix27, .int .i64 jx27, .string tx27, .slice dx27 mx27 px27, .bool true, .int .i64 kx40, .string lx40, .string ox40, .int .i64 ix40, .int .i64 jx40, .string tx40, .slice dx40 mx40 px40, .bool true, .int .i64 kx47, .string lx47, .string ox47, .int .i64 ix47, .int .i64 jx47, .string tx47, .slice dx47 mx47 px47, .bool false, .int .i64 3, .string ⟨#[]⟩, .string ⟨#[]⟩, .int .i64 0, .int .i64 0, .string ⟨#[]⟩, .slice none 0 0, .bool true] 60) = W := ⟨_, rfl⟩
    have h48 : ∀ i u, #[.int .i64 kx4, .string lx4, .string ox4, .int .i64 ix4, .int .i64 jx4, .string tx4, .slice dx4 mx4 px4, .bool false, .int .i64 kx12, .string lx12, .string ox12, .int .i64 ix12, .int .i64 jx12, .string tx12, .slice dx12 mx12 px12, .bool true, .int .i64 kx27, .string lx27, .string ox27, .int .i64 ix27, .int .i64 jx27, .string tx27, .slice dx27 mx27 px27, .bool true, .int .i64 kx40, .string lx40, .string ox40, .int .i64 ix40, .int .i64 jx40, .string tx40, .slice dx40 mx40 px40, .bool true, .int .i64 kx47, .string lx47, .string ox47, .int .i64 ix47, .int .i64 jx47, .string tx47, .slice dx47 mx47 px47, .bool false, .int .i64 3, .string ⟨#[]⟩, .string ⟨#[]⟩, .int .i64 0, .int .i64 0, .string ⟨#[]⟩, .slice none 0 0, .bool true][i]? = some u → W.cell? ⟨w16.heap.size, i, none⟩ = some u := fun i u hu => by rw [← hW]; exact box_cell (box_new _ _ _) i u hu
    have hb : Below w16.heap.size w16 W := by rw [← hW]; exact (Below.refl _ _).alloc (Nat.le_refl _) _
    rw [hW]
    clear hW
    replace c4 := CnAt.below hb _ _ c4
    replace c12 := CnAt.below hb _ _ c12
    replace c27 := CnAt.below hb _ _ c27
    replace c40 := CnAt.below hb _ _ c40
    replace c47 := CnAt.below hb _ _ c47
    have cw : CnAt W [.int .i64 3, .string ⟨#[]⟩, .string ⟨#[]⟩, .int .i64 0, .int .i64 0, .string ⟨#[]⟩, .slice none 0 0] alwC := by unfold alwC; rw [CnAt]; exact ⟨.slice none 0 0, rfl, [], Sl.mk0 _ _ _ _, by rw [RowsAt]; trivial⟩
    have hLW := bstep HL5.out (bstep hbd hb)
    generalize w16.heap.size = H at h48 ⊢
    have HE := Lib.hid (show ∀ (j : Nat) (p : CN × Bool), (six a b false y)[j]? = some p → Ent W H j p.1 p.2 from fun j p hp => by
      match j, hp with
      | 0, hp => cases hp; exact ⟨_, _, _, _, _, _, _, _, _, h48 (0 * 8) _ rfl, h48 (0 * 8 + 1) _ rfl, h48 (0 * 8 + 2) _ rfl, h48 (0 * 8 + 3) _ rfl, h48 (0 * 8 + 4) _ rfl, h48 (0 * 8 + 5) _ rfl, h48 (0 * 8 + 6) _ rfl, h48 (0 * 8 + 7) _ rfl, c4⟩
      | 1, hp => cases hp; exact ⟨_, _, _, _, _, _, _, _, _, h48 (1 * 8) _ rfl, h48 (1 * 8 + 1) _ rfl, h48 (1 * 8 + 2) _ rfl, h48 (1 * 8 + 3) _ rfl, h48 (1 * 8 + 4) _ rfl, h48 (1 * 8 + 5) _ rfl, h48 (1 * 8 + 6) _ rfl, h48 (1 * 8 + 7) _ rfl, c12⟩
      | 2, hp => cases hp; exact ⟨_, _, _, _, _, _, _, _, _, h48 (2 * 8) _ rfl, h48 (2 * 8 + 1) _ rfl, h48 (2 * 8 + 2) _ rfl, h48 (2 * 8 + 3) _ rfl, h48 (2 * 8 + 4) _ rfl, h48 (2 * 8 + 5) _ rfl, h48 (2 * 8 + 6) _ rfl, h48 (2 * 8 + 7) _ rfl, c27⟩
      | 3, hp => cases hp; exact ⟨_, _, _, _, _, _, _, _, _, h48 (3 * 8) _ rfl, h48 (3 * 8 + 1) _ rfl, h48 (3 * 8 + 2) _ rfl, h48 (3 * 8 + 3) _ rfl, h48 (3 * 8 + 4) _ rfl, h48 (3 * 8 + 5) _ rfl, h48 (3 * 8 + 6) _ rfl, h48 (3 * 8 + 7) _ rfl, c40⟩
      | 4, hp => cases hp; exact ⟨_, _, _, _, _, _, _, _, _, h48 (4 * 8) _ rfl, h48 (4 * 8 + 1) _ rfl, h48 (4 * 8 + 2) _ rfl, h48 (4 * 8 + 3) _ rfl, h48 (4 * 8 + 4) _ rfl, h48 (4 * 8 + 5) _ rfl, h48 (4 * 8 + 6) _ rfl, h48 (4 * 8 + 7) _ rfl, c47⟩
      | 5, hp => cases hp; exact ⟨_, _, _, _, _, _, _, _, _, h48 (5 * 8) _ rfl, h48 (5 * 8 + 1) _ rfl, h48 (5 * 8 + 2) _ rfl, h48 (5 * 8 + 3) _ rfl, h48 (5 * 8 + 4) _ rfl, h48 (5 * 8 + 5) _ rfl, h48 (5 * 8 + 6) _ rfl, h48 (5 * 8 + 7) _ rfl, cw⟩
      | n + 6, hp => cases hp)
    clear h48 hb hbd c4 c12 c27 c40 c47 cw HA5 HB5
    have HLW := Lib.hid hLW
    clear hLW
    go_wp2
    go_loopw [133] (fun i wr => ∃ j : Nat, j ≤ 6 ∧ i = .int .i64 j ∧ Below W.heap.size W wr) (fun i _ => 6 - (intOf i).toNat)
    case atStart => exact ⟨0, by omega, rfl, Below.refl _ _⟩
    case round =>
      obtain ⟨j, hj, rfl, hL⟩ := hrel
      by_cases hlt : j < 6
      · obtain ⟨⟨c, wb⟩, hp⟩ : ∃ p, (six a b false y)[j]? = some p := ⟨_, List.getElem?_eq_getElem (by simp [six]; omega)⟩
        obtain ⟨k9, l9, o9, i9, j9, t9, d9, m9, p9, f0, f1, f2, f3, f4, f5, f6, f7, hc9⟩ := HE.out j _ hp
        have HR := HP2.out _ (List.mem_of_getElem? hp)
        have HH := fun (V : World) (h : Below W.heap.size W V) => holds_any c _ ns vs _ _ V (CnAt.below h _ _ hc9) (HNV.out.1.below (bstep HLW.out h)) (HNV.out.2.below (bstep HLW.out h))
        replace f0 := Go.Proofs.YtgfppajbegcaeaaDoor.Sl.cell_kept f0 hL
        replace f1 := Go.Proofs.YtgfppajbegcaeaaDoor.Sl.cell_kept f1 hL
        replace f2 := Go.Proofs.YtgfppajbegcaeaaDoor.Sl.cell_kept f2 hL
        replace f3 := Go.Proofs.YtgfppajbegcaeaaDoor.Sl.cell_kept f3 hL
        replace f4 := Go.Proofs.YtgfppajbegcaeaaDoor.Sl.cell_kept f4 hL
        replace f5 := Go.Proofs.YtgfppajbegcaeaaDoor.Sl.cell_kept f5 hL
        replace f6 := Go.Proofs.YtgfppajbegcaeaaDoor.Sl.cell_kept f6 hL
        replace f7 := Go.Proofs.YtgfppajbegcaeaaDoor.Sl.cell_kept f7 hL
        have j0 : (0 : Int) ≤ (j : Int) := by omega
        have j1 : (j : Int) < 6 := by omega
        clear hp hc9
        rcases HR with HR | HR
        · obtain ⟨⟨o, z⟩, hR⟩ : ∃ R, holdsC c ns vs = R := ⟨_, rfl⟩
          rw [hR] at HR HH
          obtain rfl : z = 1 := HR
          clear hR
          go_wp2_with (go_at_call 25; (with_reducible refine (HH _ (bstep hL (by go_grown))).mono ?_); rintro e w20 ⟨rfl, hb⟩; have hw7 := box_at hb 7 rfl; have hL3 := bstep hL (bstep (by go_grown) hb); clear hb)
          go_roundw
          case rel => exact ⟨j + 1, by omega, by go_num, hL3⟩
          case measure => simp [intOf]; omega
        · rw [HR] at HH
          clear HR
          cases wb
          · go_wp2_with (go_at_call 25; (with_reducible refine (HH _ (bstep hL (by go_grown))).mono ?_); rintro e w20 ⟨rfl, hb⟩; have hw7 := box_at hb 7 rfl; have hL3 := bstep hL (bstep (by go_grown) hb); clear hb)
            go_roundw
            case rel => exact ⟨j + 1, by omega, by go_num, hL3⟩
            case measure => simp [intOf]; omega
          · go_wp2_with (go_at_call 25; (with_reducible refine (HH _ (bstep hL (by go_grown))).mono ?_); rintro e w20 ⟨rfl, hb⟩; have hw7 := box_at hb 7 rfl; have hL3 := bstep hL (bstep (by go_grown) hb); clear hb)
            go_roundw
            case rel => exact ⟨j + 1, by omega, by go_num, hL3⟩
            case measure => simp [intOf]; omega
      · go_wp2
        go_ret
        exact ⟨rfl, bstep HLW.out hL⟩
  · go_upto_region 11 with fail
    refine wp_region_held_drew (S := fun V => V.cell? ⟨w.heap.size, 0, none⟩ = some (.int .i64 k) ∧ V.cell? ⟨w.heap.size, 1, none⟩ = some (.string col) ∧ V.cell? ⟨w.heap.size, 2, none⟩ = some (.string oth) ∧ V.cell? ⟨w.heap.size, 3, none⟩ = some (.int .i64 v0) ∧ V.cell? ⟨w.heap.size, 4, none⟩ = some (.int .i64 v1) ∧ V.cell? ⟨w.heap.size, 5, none⟩ = some (.string v2) ∧ V.cell? ⟨w.heap.size, 6, none⟩ = some (s) ∧ V.cell? ⟨w.heap.size + 1, 0, none⟩ = some (.int .i64 k2) ∧ V.cell? ⟨w.heap.size + 1, 1, none⟩ = some (.string col2) ∧ V.cell? ⟨w.heap.size + 1, 2, none⟩ = some (.string oth2) ∧ V.cell? ⟨w.heap.size + 1, 3, none⟩ = some (.int .i64 u0) ∧ V.cell? ⟨w.heap.size + 1, 4, none⟩ = some (.int .i64 u1) ∧ V.cell? ⟨w.heap.size + 1, 5, none⟩ = some (.string u2) ∧ V.cell? ⟨w.heap.size + 1, 6, none⟩ = some (s2)) (by kernel_rfl) (ab_keep hS5 (bdrew (Below.refl _ _))) (fun hHeld => ?_)
    have hbd : Below w5.heap.size w5 w5.drew := bdrew (Below.refl _ _)
    first | (refine wpAnyH_take (i := 0) (v := ?tkv0_84) rfl (by kernel_rfl) (by kernel_rfl) (by kernel_rfl) (fun _ _ _ h => h) (Or.inl ⟨by rfl, ?tky0_84⟩) (by assumption) ?tkr0_84; case tky0_84 => (intro V hV; (try dsimp only at hV); go_simp; (try with_reducible rfl)); try simp only [Act.put, List.setIfInBounds_toArray, List.set_cons_zero, List.set_cons_succ]) | (refine wpAnyH_take (i := 0) (v := undef) rfl (by kernel_rfl) (by kernel_rfl) (by kernel_rfl) (fun _ _ _ h => h) (Or.inr ⟨by rfl, rfl⟩) (by assumption) ?tkr0_85; try simp only [Act.put, List.setIfInBounds_toArray, List.set_cons_zero, List.set_cons_succ])
    first | (refine wpAnyH_take (i := 1) (v := ?tkv1_86) rfl (by kernel_rfl) (by kernel_rfl) (by kernel_rfl) (fun _ _ _ h => h) (Or.inl ⟨by rfl, ?tky1_86⟩) (by assumption) ?tkr1_86; case tky1_86 => (intro V hV; (try dsimp only at hV); go_simp; (try with_reducible rfl)); try simp only [Act.put, List.setIfInBounds_toArray, List.set_cons_zero, List.set_cons_succ]) | (refine wpAnyH_take (i := 1) (v := undef) rfl (by kernel_rfl) (by kernel_rfl) (by kernel_rfl) (fun _ _ _ h => h) (Or.inr ⟨by rfl, rfl⟩) (by assumption) ?tkr1_87; try simp only [Act.put, List.setIfInBounds_toArray, List.set_cons_zero, List.set_cons_succ])
    first | (refine wpAnyH_take (i := 2) (v := ?tkv2_88) rfl (by kernel_rfl) (by kernel_rfl) (by kernel_rfl) (fun _ _ _ h => h) (Or.inl ⟨by rfl, ?tky2_88⟩) (by assumption) ?tkr2_88; case tky2_88 => (intro V hV; (try dsimp only at hV); go_simp; (try with_reducible rfl)); try simp only [Act.put, List.setIfInBounds_toArray, List.set_cons_zero, List.set_cons_succ]) | (refine wpAnyH_take (i := 2) (v := undef) rfl (by kernel_rfl) (by kernel_rfl) (by kernel_rfl) (fun _ _ _ h => h) (Or.inr ⟨by rfl, rfl⟩) (by assumption) ?tkr2_89; try simp only [Act.put, List.setIfInBounds_toArray, List.set_cons_zero, List.set_cons_succ])
    first | (refine wpAnyH_take (i := 5) (v := ?tkv5_90) rfl (by kernel_rfl) (by kernel_rfl) (by kernel_rfl) (fun _ _ _ h => h) (Or.inl ⟨by rfl, ?tky5_90⟩) (by assumption) ?tkr5_90; case tky5_90 => (intro V hV; (try dsimp only at hV); go_simp; (try with_reducible rfl)); try simp only [Act.put, List.setIfInBounds_toArray, List.set_cons_zero, List.set_cons_succ]) | (refine wpAnyH_take (i := 5) (v := undef) rfl (by kernel_rfl) (by kernel_rfl) (by kernel_rfl) (fun _ _ _ h => h) (Or.inr ⟨by rfl, rfl⟩) (by assumption) ?tkr5_91; try simp only [Act.put, List.setIfInBounds_toArray, List.set_cons_zero, List.set_cons_succ])
    first | (refine wpAnyH_take (i := 7) (v := ?tkv7_92) rfl (by kernel_rfl) (by kernel_rfl) (by kernel_rfl) (fun _ _ _ h => h) (Or.inl ⟨by rfl, ?tky7_92⟩) (by assumption) ?tkr7_92; case tky7_92 => (intro V hV; (try dsimp only at hV); go_simp; (try with_reducible rfl)); try simp only [Act.put, List.setIfInBounds_toArray, List.set_cons_zero, List.set_cons_succ]) | (refine wpAnyH_take (i := 7) (v := undef) rfl (by kernel_rfl) (by kernel_rfl) (by kernel_rfl) (fun _ _ _ h => h) (Or.inr ⟨by rfl, rfl⟩) (by assumption) ?tkr7_93; try simp only [Act.put, List.setIfInBounds_toArray, List.set_cons_zero, List.set_cons_succ])
    first | (refine wpAnyH_take (i := 8) (v := ?tkv8_94) rfl (by kernel_rfl) (by kernel_rfl) (by kernel_rfl) (fun _ _ _ h => h) (Or.inl ⟨by rfl, ?tky8_94⟩) (by assumption) ?tkr8_94; case tky8_94 => (intro V hV; (try dsimp only at hV); go_simp; (try with_reducible rfl)); try simp only [Act.put, List.setIfInBounds_toArray, List.set_cons_zero, List.set_cons_succ]) | (refine wpAnyH_take (i := 8) (v := undef) rfl (by kernel_rfl) (by kernel_rfl) (by kernel_rfl) (fun _ _ _ h => h) (Or.inr ⟨by rfl, rfl⟩) (by assumption) ?tkr8_95; try simp only [Act.put, List.setIfInBounds_toArray, List.set_cons_zero, List.set_cons_succ])
    first | (refine wpAnyH_take (i := 9) (v := ?tkv9_96) rfl (by kernel_rfl) (by kernel_rfl) (by kernel_rfl) (fun _ _ _ h => h) (Or.inl ⟨by rfl, ?tky9_96⟩) (by assumption) ?tkr9_96; case tky9_96 => (intro V hV; (try dsimp only at hV); go_simp; (try with_reducible rfl)); try simp only [Act.put, List.setIfInBounds_toArray, List.set_cons_zero, List.set_cons_succ]) | (refine wpAnyH_take (i := 9) (v := undef) rfl (by kernel_rfl) (by kernel_rfl) (by kernel_rfl) (fun _ _ _ h => h) (Or.inr ⟨by rfl, rfl⟩) (by assumption) ?tkr9_97; try simp only [Act.put, List.setIfInBounds_toArray, List.set_cons_zero, List.set_cons_succ])
    first | (refine wpAnyH_take (i := 10) (v := ?tkv10_98) rfl (by kernel_rfl) (by kernel_rfl) (by kernel_rfl) (fun _ _ _ h => h) (Or.inl ⟨by rfl, ?tky10_98⟩) (by assumption) ?tkr10_98; case tky10_98 => (intro V hV; (try dsimp only at hV); go_simp; (try with_reducible rfl)); try simp only [Act.put, List.setIfInBounds_toArray, List.set_cons_zero, List.set_cons_succ]) | (refine wpAnyH_take (i := 10) (v := undef) rfl (by kernel_rfl) (by kernel_rfl) (by kernel_rfl) (fun _ _ _ h => h) (Or.inr ⟨by rfl, rfl⟩) (by assumption) ?tkr10_99; try simp only [Act.put, List.setIfInBounds_toArray, List.set_cons_zero, List.set_cons_succ])
    first | (refine wpAnyH_take (i := 13) (v := ?tkv13_100) rfl (by kernel_rfl) (by kernel_rfl) (by kernel_rfl) (fun _ _ _ h => h) (Or.inl ⟨by rfl, ?tky13_100⟩) (by assumption) ?tkr13_100; case tky13_100 => (intro V hV; (try dsimp only at hV); go_simp; (try with_reducible rfl)); try simp only [Act.put, List.setIfInBounds_toArray, List.set_cons_zero, List.set_cons_succ]) | (refine wpAnyH_take (i := 13) (v := undef) rfl (by kernel_rfl) (by kernel_rfl) (by kernel_rfl) (fun _ _ _ h => h) (Or.inr ⟨by rfl, rfl⟩) (by assumption) ?tkr13_101; try simp only [Act.put, List.setIfInBounds_toArray, List.set_cons_zero, List.set_cons_succ])
    first | (refine wpAnyH_take (i := 14) (v := ?tkv14_102) rfl (by kernel_rfl) (by kernel_rfl) (by kernel_rfl) (fun _ _ _ h => h) (Or.inl ⟨by rfl, ?tky14_102⟩) (by assumption) ?tkr14_102; case tky14_102 => (intro V hV; (try dsimp only at hV); go_simp; (try with_reducible rfl)); try simp only [Act.put, List.setIfInBounds_toArray, List.set_cons_zero, List.set_cons_succ]) | (refine wpAnyH_take (i := 14) (v := undef) rfl (by kernel_rfl) (by kernel_rfl) (by kernel_rfl) (fun _ _ _ h => h) (Or.inr ⟨by rfl, rfl⟩) (by assumption) ?tkr14_103; try simp only [Act.put, List.setIfInBounds_toArray, List.set_cons_zero, List.set_cons_succ])
    first | (refine wpAnyH_take (i := 20) (v := ?tkv20_104) rfl (by kernel_rfl) (by kernel_rfl) (by kernel_rfl) (fun _ _ _ h => h) (Or.inl ⟨by rfl, ?tky20_104⟩) (by assumption) ?tkr20_104; case tky20_104 => (intro V hV; (try dsimp only at hV); go_simp; (try with_reducible rfl)); try simp only [Act.put, List.setIfInBounds_toArray, List.set_cons_zero, List.set_cons_succ]) | (refine wpAnyH_take (i := 20) (v := undef) rfl (by kernel_rfl) (by kernel_rfl) (by kernel_rfl) (fun _ _ _ h => h) (Or.inr ⟨by rfl, rfl⟩) (by assumption) ?tkr20_105; try simp only [Act.put, List.setIfInBounds_toArray, List.set_cons_zero, List.set_cons_succ])
    first | (refine wpAnyH_take (i := 21) (v := ?tkv21_106) rfl (by kernel_rfl) (by kernel_rfl) (by kernel_rfl) (fun _ _ _ h => h) (Or.inl ⟨by rfl, ?tky21_106⟩) (by assumption) ?tkr21_106; case tky21_106 => (intro V hV; (try dsimp only at hV); go_simp; (try with_reducible rfl)); try simp only [Act.put, List.setIfInBounds_toArray, List.set_cons_zero, List.set_cons_succ]) | (refine wpAnyH_take (i := 21) (v := undef) rfl (by kernel_rfl) (by kernel_rfl) (by kernel_rfl) (fun _ _ _ h => h) (Or.inr ⟨by rfl, rfl⟩) (by assumption) ?tkr21_107; try simp only [Act.put, List.setIfInBounds_toArray, List.set_cons_zero, List.set_cons_succ])
    first | (refine wpAnyH_take (i := 22) (v := ?tkv22_108) rfl (by kernel_rfl) (by kernel_rfl) (by kernel_rfl) (fun _ _ _ h => h) (Or.inl ⟨by rfl, ?tky22_108⟩) (by assumption) ?tkr22_108; case tky22_108 => (intro V hV; (try dsimp only at hV); go_simp; (try with_reducible rfl)); try simp only [Act.put, List.setIfInBounds_toArray, List.set_cons_zero, List.set_cons_succ]) | (refine wpAnyH_take (i := 22) (v := undef) rfl (by kernel_rfl) (by kernel_rfl) (by kernel_rfl) (fun _ _ _ h => h) (Or.inr ⟨by rfl, rfl⟩) (by assumption) ?tkr22_109; try simp only [Act.put, List.setIfInBounds_toArray, List.set_cons_zero, List.set_cons_succ])
    first | (refine wpAnyH_take (i := 24) (v := ?tkv24_110) rfl (by kernel_rfl) (by kernel_rfl) (by kernel_rfl) (fun _ _ _ h => h) (Or.inl ⟨by rfl, ?tky24_110⟩) (by assumption) ?tkr24_110; case tky24_110 => (intro V hV; (try dsimp only at hV); go_simp; (try with_reducible rfl)); try simp only [Act.put, List.setIfInBounds_toArray, List.set_cons_zero, List.set_cons_succ]) | (refine wpAnyH_take (i := 24) (v := undef) rfl (by kernel_rfl) (by kernel_rfl) (by kernel_rfl) (fun _ _ _ h => h) (Or.inr ⟨by rfl, rfl⟩) (by assumption) ?tkr24_111; try simp only [Act.put, List.setIfInBounds_toArray, List.set_cons_zero, List.set_cons_succ])
    first | (refine wpAnyH_take (i := 25) (v := ?tkv25_112) rfl (by kernel_rfl) (by kernel_rfl) (by kernel_rfl) (fun _ _ _ h => h) (Or.inl ⟨by rfl, ?tky25_112⟩) (by assumption) ?tkr25_112; case tky25_112 => (intro V hV; (try dsimp only at hV); go_simp; (try with_reducible rfl)); try simp only [Act.put, List.setIfInBounds_toArray, List.set_cons_zero, List.set_cons_succ]) | (refine wpAnyH_take (i := 25) (v := undef) rfl (by kernel_rfl) (by kernel_rfl) (by kernel_rfl) (fun _ _ _ h => h) (Or.inr ⟨by rfl, rfl⟩) (by assumption) ?tkr25_113; try simp only [Act.put, List.setIfInBounds_toArray, List.set_cons_zero, List.set_cons_succ])
    first | (refine wpAnyH_take (i := 28) (v := ?tkv28_114) rfl (by kernel_rfl) (by kernel_rfl) (by kernel_rfl) (fun _ _ _ h => h) (Or.inl ⟨by rfl, ?tky28_114⟩) (by assumption) ?tkr28_114; case tky28_114 => (intro V hV; (try dsimp only at hV); go_simp; (try with_reducible rfl)); try simp only [Act.put, List.setIfInBounds_toArray, List.set_cons_zero, List.set_cons_succ]) | (refine wpAnyH_take (i := 28) (v := undef) rfl (by kernel_rfl) (by kernel_rfl) (by kernel_rfl) (fun _ _ _ h => h) (Or.inr ⟨by rfl, rfl⟩) (by assumption) ?tkr28_115; try simp only [Act.put, List.setIfInBounds_toArray, List.set_cons_zero, List.set_cons_succ])
    first | (refine wpAnyH_take (i := 29) (v := ?tkv29_116) rfl (by kernel_rfl) (by kernel_rfl) (by kernel_rfl) (fun _ _ _ h => h) (Or.inl ⟨by rfl, ?tky29_116⟩) (by assumption) ?tkr29_116; case tky29_116 => (intro V hV; (try dsimp only at hV); go_simp; (try with_reducible rfl)); try simp only [Act.put, List.setIfInBounds_toArray, List.set_cons_zero, List.set_cons_succ]) | (refine wpAnyH_take (i := 29) (v := undef) rfl (by kernel_rfl) (by kernel_rfl) (by kernel_rfl) (fun _ _ _ h => h) (Or.inr ⟨by rfl, rfl⟩) (by assumption) ?tkr29_117; try simp only [Act.put, List.setIfInBounds_toArray, List.set_cons_zero, List.set_cons_succ])
    first | (refine wpAnyH_take (i := 35) (v := ?tkv35_118) rfl (by kernel_rfl) (by kernel_rfl) (by kernel_rfl) (fun _ _ _ h => h) (Or.inl ⟨by rfl, ?tky35_118⟩) (by assumption) ?tkr35_118; case tky35_118 => (intro V hV; (try dsimp only at hV); go_simp; (try with_reducible rfl)); try simp only [Act.put, List.setIfInBounds_toArray, List.set_cons_zero, List.set_cons_succ]) | (refine wpAnyH_take (i := 35) (v := undef) rfl (by kernel_rfl) (by kernel_rfl) (by kernel_rfl) (fun _ _ _ h => h) (Or.inr ⟨by rfl, rfl⟩) (by assumption) ?tkr35_119; try simp only [Act.put, List.setIfInBounds_toArray, List.set_cons_zero, List.set_cons_succ])
    first | (refine wpAnyH_take (i := 36) (v := ?tkv36_120) rfl (by kernel_rfl) (by kernel_rfl) (by kernel_rfl) (fun _ _ _ h => h) (Or.inl ⟨by rfl, ?tky36_120⟩) (by assumption) ?tkr36_120; case tky36_120 => (intro V hV; (try dsimp only at hV); go_simp; (try with_reducible rfl)); try simp only [Act.put, List.setIfInBounds_toArray, List.set_cons_zero, List.set_cons_succ]) | (refine wpAnyH_take (i := 36) (v := undef) rfl (by kernel_rfl) (by kernel_rfl) (by kernel_rfl) (fun _ _ _ h => h) (Or.inr ⟨by rfl, rfl⟩) (by assumption) ?tkr36_121; try simp only [Act.put, List.setIfInBounds_toArray, List.set_cons_zero, List.set_cons_succ])
    first | (refine wpAnyH_take (i := 37) (v := ?tkv37_122) rfl (by kernel_rfl) (by kernel_rfl) (by kernel_rfl) (fun _ _ _ h => h) (Or.inl ⟨by rfl, ?tky37_122⟩) (by assumption) ?tkr37_122; case tky37_122 => (intro V hV; (try dsimp only at hV); go_simp; (try with_reducible rfl)); try simp only [Act.put, List.setIfInBounds_toArray, List.set_cons_zero, List.set_cons_succ]) | (refine wpAnyH_take (i := 37) (v := undef) rfl (by kernel_rfl) (by kernel_rfl) (by kernel_rfl) (fun _ _ _ h => h) (Or.inr ⟨by rfl, rfl⟩) (by assumption) ?tkr37_123; try simp only [Act.put, List.setIfInBounds_toArray, List.set_cons_zero, List.set_cons_succ])
    first | (refine wpAnyH_take (i := 38) (v := ?tkv38_124) rfl (by kernel_rfl) (by kernel_rfl) (by kernel_rfl) (fun _ _ _ h => h) (Or.inl ⟨by rfl, ?tky38_124⟩) (by assumption) ?tkr38_124; case tky38_124 => (intro V hV; (try dsimp only at hV); go_simp; (try with_reducible rfl)); try simp only [Act.put, List.setIfInBounds_toArray, List.set_cons_zero, List.set_cons_succ]) | (refine wpAnyH_take (i := 38) (v := undef) rfl (by kernel_rfl) (by kernel_rfl) (by kernel_rfl) (fun _ _ _ h => h) (Or.inr ⟨by rfl, rfl⟩) (by assumption) ?tkr38_125; try simp only [Act.put, List.setIfInBounds_toArray, List.set_cons_zero, List.set_cons_succ])
    first | (refine wpAnyH_take (i := 42) (v := ?tkv42_126) rfl (by kernel_rfl) (by kernel_rfl) (by kernel_rfl) (fun _ _ _ h => h) (Or.inl ⟨by rfl, ?tky42_126⟩) (by assumption) ?tkr42_126; case tky42_126 => (intro V hV; (try dsimp only at hV); go_simp; (try with_reducible rfl)); try simp only [Act.put, List.setIfInBounds_toArray, List.set_cons_zero, List.set_cons_succ]) | (refine wpAnyH_take (i := 42) (v := undef) rfl (by kernel_rfl) (by kernel_rfl) (by kernel_rfl) (fun _ _ _ h => h) (Or.inr ⟨by rfl, rfl⟩) (by assumption) ?tkr42_127; try simp only [Act.put, List.setIfInBounds_toArray, List.set_cons_zero, List.set_cons_succ])
    first | (refine wpAnyH_take (i := 43) (v := ?tkv43_128) rfl (by kernel_rfl) (by kernel_rfl) (by kernel_rfl) (fun _ _ _ h => h) (Or.inl ⟨by rfl, ?tky43_128⟩) (by assumption) ?tkr43_128; case tky43_128 => (intro V hV; (try dsimp only at hV); go_simp; (try with_reducible rfl)); try simp only [Act.put, List.setIfInBounds_toArray, List.set_cons_zero, List.set_cons_succ]) | (refine wpAnyH_take (i := 43) (v := undef) rfl (by kernel_rfl) (by kernel_rfl) (by kernel_rfl) (fun _ _ _ h => h) (Or.inr ⟨by rfl, rfl⟩) (by assumption) ?tkr43_129; try simp only [Act.put, List.setIfInBounds_toArray, List.set_cons_zero, List.set_cons_succ])
    first | (refine wpAnyH_take (i := 44) (v := ?tkv44_130) rfl (by kernel_rfl) (by kernel_rfl) (by kernel_rfl) (fun _ _ _ h => h) (Or.inl ⟨by rfl, ?tky44_130⟩) (by assumption) ?tkr44_130; case tky44_130 => (intro V hV; (try dsimp only at hV); go_simp; (try with_reducible rfl)); try simp only [Act.put, List.setIfInBounds_toArray, List.set_cons_zero, List.set_cons_succ]) | (refine wpAnyH_take (i := 44) (v := undef) rfl (by kernel_rfl) (by kernel_rfl) (by kernel_rfl) (fun _ _ _ h => h) (Or.inr ⟨by rfl, rfl⟩) (by assumption) ?tkr44_131; try simp only [Act.put, List.setIfInBounds_toArray, List.set_cons_zero, List.set_cons_succ])
    first | (refine wpAnyH_take (i := 45) (v := ?tkv45_132) rfl (by kernel_rfl) (by kernel_rfl) (by kernel_rfl) (fun _ _ _ h => h) (Or.inl ⟨by rfl, ?tky45_132⟩) (by assumption) ?tkr45_132; case tky45_132 => (intro V hV; (try dsimp only at hV); go_simp; (try with_reducible rfl)); try simp only [Act.put, List.setIfInBounds_toArray, List.set_cons_zero, List.set_cons_succ]) | (refine wpAnyH_take (i := 45) (v := undef) rfl (by kernel_rfl) (by kernel_rfl) (by kernel_rfl) (fun _ _ _ h => h) (Or.inr ⟨by rfl, rfl⟩) (by assumption) ?tkr45_133; try simp only [Act.put, List.setIfInBounds_toArray, List.set_cons_zero, List.set_cons_succ])
    first | (refine wpAnyH_take (i := 49) (v := ?tkv49_134) rfl (by kernel_rfl) (by kernel_rfl) (by kernel_rfl) (fun _ _ _ h => h) (Or.inl ⟨by rfl, ?tky49_134⟩) (by assumption) ?tkr49_134; case tky49_134 => (intro V hV; (try dsimp only at hV); go_simp; (try with_reducible rfl)); try simp only [Act.put, List.setIfInBounds_toArray, List.set_cons_zero, List.set_cons_succ]) | (refine wpAnyH_take (i := 49) (v := undef) rfl (by kernel_rfl) (by kernel_rfl) (by kernel_rfl) (fun _ _ _ h => h) (Or.inr ⟨by rfl, rfl⟩) (by assumption) ?tkr49_135; try simp only [Act.put, List.setIfInBounds_toArray, List.set_cons_zero, List.set_cons_succ])
    first | (refine wpAnyH_take (i := 50) (v := ?tkv50_136) rfl (by kernel_rfl) (by kernel_rfl) (by kernel_rfl) (fun _ _ _ h => h) (Or.inl ⟨by rfl, ?tky50_136⟩) (by assumption) ?tkr50_136; case tky50_136 => (intro V hV; (try dsimp only at hV); go_simp; (try with_reducible rfl)); try simp only [Act.put, List.setIfInBounds_toArray, List.set_cons_zero, List.set_cons_succ]) | (refine wpAnyH_take (i := 50) (v := undef) rfl (by kernel_rfl) (by kernel_rfl) (by kernel_rfl) (fun _ _ _ h => h) (Or.inr ⟨by rfl, rfl⟩) (by assumption) ?tkr50_137; try simp only [Act.put, List.setIfInBounds_toArray, List.set_cons_zero, List.set_cons_succ])
    first | (refine wpAnyH_take (i := 53) (v := ?tkv53_138) rfl (by kernel_rfl) (by kernel_rfl) (by kernel_rfl) (fun _ _ _ h => h) (Or.inl ⟨by rfl, ?tky53_138⟩) (by assumption) ?tkr53_138; case tky53_138 => (intro V hV; (try dsimp only at hV); go_simp; (try with_reducible rfl)); try simp only [Act.put, List.setIfInBounds_toArray, List.set_cons_zero, List.set_cons_succ]) | (refine wpAnyH_take (i := 53) (v := undef) rfl (by kernel_rfl) (by kernel_rfl) (by kernel_rfl) (fun _ _ _ h => h) (Or.inr ⟨by rfl, rfl⟩) (by assumption) ?tkr53_139; try simp only [Act.put, List.setIfInBounds_toArray, List.set_cons_zero, List.set_cons_succ])
    (refine wpAnyH_ready (rs := [3]) (by kernel_rfl) (by simp) ?_; refine AllReadyH.cons rfl (fun K hK => ?_) AllReadyH.nil; (try go_simp); (go_at_call 29; (with_reducible refine (not_v _ _ a (HA5.out.below hbd)).mono ?_); rintro e w6 ⟨x3, rfl, hx3, hb⟩); refine hK.out _ _ (by exact ab_keep hHeld hb) (fun hHeld => ?_); clear hK K; try simp only [Act.put, List.setIfInBounds_toArray, List.set_cons_zero, List.set_cons_succ])
    replace hbd := bstep hbd hb
    clear hb
    (refine wpAnyH_ready (rs := [4]) (by kernel_rfl) (by simp) ?_; refine AllReadyH.cons rfl (fun K hK => ?_) AllReadyH.nil; (try go_simp); (go_at_call 29; (with_reducible refine (not_v _ _ _ hx3).mono ?_); rintro e w7 ⟨x4, rfl, hx4, hb⟩); refine hK.out _ _ (by exact ab_keep hHeld hb) (fun hHeld => ?_); clear hK K; try simp only [Act.put, List.setIfInBounds_toArray, List.set_cons_zero, List.set_cons_succ])
    replace hbd := bstep hbd hb
    replace hx3 := hx3.below hb
    clear hb
    obtain ⟨csx4, rfl, c4⟩ := hx4
    have c4S := c4.shape
    obtain ⟨kx4, lx4, ox4, ix4, jx4, tx4, dx4, mx4, px4, rfl⟩ := c4S
    first | (refine wpAnyH_take (i := 6) (v := ?tkv6_140) rfl (by kernel_rfl) (by kernel_rfl) (by kernel_rfl) (fun _ _ _ h => h) (Or.inl ⟨by rfl, ?tky6_140⟩) (by assumption) ?tkr6_140; case tky6_140 => (intro V hV; (try dsimp only at hV); go_simp; (try with_reducible rfl)); try simp only [Act.put, List.setIfInBounds_toArray, List.set_cons_zero, List.set_cons_succ]) | (refine wpAnyH_take (i := 6) (v := undef) rfl (by kernel_rfl) (by kernel_rfl) (by kernel_rfl) (fun _ _ _ h => h) (Or.inr ⟨by rfl, rfl⟩) (by assumption) ?tkr6_141; try simp only [Act.put, List.setIfInBounds_toArray, List.set_cons_zero, List.set_cons_succ])
    (refine wpAnyH_ready (rs := [11]) (by kernel_rfl) (by simp) ?_; refine AllReadyH.cons rfl (fun K hK => ?_) AllReadyH.nil; (try go_simp); (go_at_call 30; (with_reducible refine (and_v _ _ _ a b (HA5.out.below hbd) (HB5.out.below hbd)).mono ?_); rintro e w8 ⟨x11, rfl, hx11, hb⟩); refine hK.out _ _ (by exact ab_keep hHeld hb) (fun hHeld => ?_); clear hK K; try simp only [Act.put, List.setIfInBounds_toArray, List.set_cons_zero, List.set_cons_succ])
    replace hbd := bstep hbd hb
    replace c4 := CnAt.below hb _ _ c4
    clear hb
    (refine wpAnyH_ready (rs := [12]) (by kernel_rfl) (by simp) ?_; refine AllReadyH.cons rfl (fun K hK => ?_) AllReadyH.nil; (try go_simp); (go_at_call 29; (with_reducible refine (not_v _ _ _ hx11).mono ?_); rintro e w9 ⟨x12, rfl, hx12, hb⟩); refine hK.out _ _ (by exact ab_keep hHeld hb) (fun hHeld => ?_); clear hK K; try simp only [Act.put, List.setIfInBounds_toArray, List.set_cons_zero, List.set_cons_succ])
    replace hbd := bstep hbd hb
    replace c4 := CnAt.below hb _ _ c4
    replace hx11 := hx11.below hb
    clear hb
    obtain ⟨csx12, rfl, c12⟩ := hx12
    have c12S := c12.shape
    obtain ⟨kx12, lx12, ox12, ix12, jx12, tx12, dx12, mx12, px12, rfl⟩ := c12S
    first | (refine wpAnyH_take (i := 15) (v := ?tkv15_142) rfl (by kernel_rfl) (by kernel_rfl) (by kernel_rfl) (fun _ _ _ h => h) (Or.inl ⟨by rfl, ?tky15_142⟩) (by assumption) ?tkr15_142; case tky15_142 => (intro V hV; (try dsimp only at hV); go_simp; (try with_reducible rfl)); try simp only [Act.put, List.setIfInBounds_toArray, List.set_cons_zero, List.set_cons_succ]) | (refine wpAnyH_take (i := 15) (v := undef) rfl (by kernel_rfl) (by kernel_rfl) (by kernel_rfl) (fun _ _ _ h => h) (Or.inr ⟨by rfl, rfl⟩) (by assumption) ?tkr15_143; try simp only [Act.put, List.setIfInBounds_toArray, List.set_cons_zero, List.set_cons_succ])
    first | (refine wpAnyH_take (i := 16) (v := ?tkv16_144) rfl (by kernel_rfl) (by kernel_rfl) (by kernel_rfl) (fun _ _ _ h => h) (Or.inl ⟨by rfl, ?tky16_144⟩) (by assumption) ?tkr16_144; case tky16_144 => (intro V hV; (try dsimp only at hV); go_simp; (try with_reducible rfl)); try simp only [Act.put, List.setIfInBounds_toArray, List.set_cons_zero, List.set_cons_succ]) | (refine wpAnyH_take (i := 16) (v := undef) rfl (by kernel_rfl) (by kernel_rfl) (by kernel_rfl) (fun _ _ _ h => h) (Or.inr ⟨by rfl, rfl⟩) (by assumption) ?tkr16_145; try simp only [Act.put, List.setIfInBounds_toArray, List.set_cons_zero, List.set_cons_succ])
    first | (refine wpAnyH_take (i := 17) (v := ?tkv17_146) rfl (by kernel_rfl) (by kernel_rfl) (by kernel_rfl) (fun _ _ _ h => h) (Or.inl ⟨by rfl, ?tky17_146⟩) (by assumption) ?tkr17_146; case tky17_146 => (intro V hV; (try dsimp only at hV); go_simp; (try with_reducible rfl)); try simp only [Act.put, List.setIfInBounds_toArray, List.set_cons_zero, List.set_cons_succ]) | (refine wpAnyH_take (i := 17) (v := undef) rfl (by kernel_rfl) (by kernel_rfl) (by kernel_rfl) (fun _ _ _ h => h) (Or.inr ⟨by rfl, rfl⟩) (by assumption) ?tkr17_147; try simp only [Act.put, List.setIfInBounds_toArray, List.set_cons_zero, List.set_cons_succ])
    first | (refine wpAnyH_take (i := 18) (v := ?tkv18_148) rfl (by kernel_rfl) (by kernel_rfl) (by kernel_rfl) (fun _ _ _ h => h) (Or.inl ⟨by rfl, ?tky18_148⟩) (by assumption) ?tkr18_148; case tky18_148 => (intro V hV; (try dsimp only at hV); go_simp; (try with_reducible rfl)); try simp only [Act.put, List.setIfInBounds_toArray, List.set_cons_zero, List.set_cons_succ]) | (refine wpAnyH_take (i := 18) (v := undef) rfl (by kernel_rfl) (by kernel_rfl) (by kernel_rfl) (fun _ _ _ h => h) (Or.inr ⟨by rfl, rfl⟩) (by assumption) ?tkr18_149; try simp only [Act.put, List.setIfInBounds_toArray, List.set_cons_zero, List.set_cons_succ])
    first | (refine wpAnyH_take (i := 19) (v := ?tkv19_150) rfl (by kernel_rfl) (by kernel_rfl) (by kernel_rfl) (fun _ _ _ h => h) (Or.inl ⟨by rfl, ?tky19_150⟩) (by assumption) ?tkr19_150; case tky19_150 => (intro V hV; (try dsimp only at hV); go_simp; (try with_reducible rfl)); try simp only [Act.put, List.setIfInBounds_toArray, List.set_cons_zero, List.set_cons_succ]) | (refine wpAnyH_take (i := 19) (v := undef) rfl (by kernel_rfl) (by kernel_rfl) (by kernel_rfl) (fun _ _ _ h => h) (Or.inr ⟨by rfl, rfl⟩) (by assumption) ?tkr19_151; try simp only [Act.put, List.setIfInBounds_toArray, List.set_cons_zero, List.set_cons_succ])
    (refine wpAnyH_ready (rs := [23]) (by kernel_rfl) (by simp) ?_; refine AllReadyH.cons rfl (fun K hK => ?_) AllReadyH.nil; (try go_simp); (go_at_call 29; (with_reducible refine (not_v _ _ a (HA5.out.below hbd)).mono ?_); rintro e w10 ⟨x23, rfl, hx23, hb⟩); refine hK.out _ _ (by exact ab_keep hHeld hb) (fun hHeld => ?_); clear hK K; try simp only [Act.put, List.setIfInBounds_toArray, List.set_cons_zero, List.set_cons_succ])
    replace hbd := bstep hbd hb
    replace c4 := CnAt.below hb _ _ c4
    replace c12 := CnAt.below hb _ _ c12
    clear hb
    (refine wpAnyH_ready (rs := [26]) (by kernel_rfl) (by simp) ?_; refine AllReadyH.cons rfl (fun K hK => ?_) AllReadyH.nil; (try go_simp); (go_at_call 29; (with_reducible refine (not_v _ _ b (HB5.out.below hbd)).mono ?_); rintro e w11 ⟨x26, rfl, hx26, hb⟩); refine hK.out _ _ (by exact ab_keep hHeld hb) (fun hHeld => ?_); clear hK K; try simp only [Act.put, List.setIfInBounds_toArray, List.set_cons_zero, List.set_cons_succ])
    replace hbd := bstep hbd hb
    replace c4 := CnAt.below hb _ _ c4
    replace c12 := CnAt.below hb _ _ c12
    replace hx23 := hx23.below hb
    clear hb
    (refine wpAnyH_ready (rs := [27]) (by kernel_rfl) (by simp) ?_; refine AllReadyH.cons rfl (fun K hK => ?_) AllReadyH.nil; (try go_simp); (go_at_call 31; (with_reducible refine (or_v _ _ _ _ _ hx23 hx26).mono ?_); rintro e w12 ⟨x27, rfl, hx27, hb⟩); refine hK.out _ _ (by exact ab_keep hHeld hb) (fun hHeld => ?_); clear hK K; try simp only [Act.put, List.setIfInBounds_toArray, List.set_cons_zero, List.set_cons_succ])
    replace hbd := bstep hbd hb
    replace c4 := CnAt.below hb _ _ c4
    replace c12 := CnAt.below hb _ _ c12
    replace hx23 := hx23.below hb
    replace hx26 := hx26.below hb
    clear hb
    obtain ⟨csx27, rfl, c27⟩ := hx27
    have c27S := c27.shape
    obtain ⟨kx27, lx27, ox27, ix27, jx27, tx27, dx27, mx27, px27, rfl⟩ := c27S
    first | (refine wpAnyH_take (i := 30) (v := ?tkv30_152) rfl (by kernel_rfl) (by kernel_rfl) (by kernel_rfl) (fun _ _ _ h => h) (Or.inl ⟨by rfl, ?tky30_152⟩) (by assumption) ?tkr30_152; case tky30_152 => (intro V hV; (try dsimp only at hV); go_simp; (try with_reducible rfl)); try simp only [Act.put, List.setIfInBounds_toArray, List.set_cons_zero, List.set_cons_succ]) | (refine wpAnyH_take (i := 30) (v := undef) rfl (by kernel_rfl) (by kernel_rfl) (by kernel_rfl) (fun _ _ _ h => h) (Or.inr ⟨by rfl, rfl⟩) (by assumption) ?tkr30_153; try simp only [Act.put, List.setIfInBounds_toArray, List.set_cons_zero, List.set_cons_succ])
    first | (refine wpAnyH_take (i := 31) (v := ?tkv31_154) rfl (by kernel_rfl) (by kernel_rfl) (by kernel_rfl) (fun _ _ _ h => h) (Or.inl ⟨by rfl, ?tky31_154⟩) (by assumption) ?tkr31_154; case tky31_154 => (intro V hV; (try dsimp only at hV); go_simp; (try with_reducible rfl)); try simp only [Act.put, List.setIfInBounds_toArray, List.set_cons_zero, List.set_cons_succ]) | (refine wpAnyH_take (i := 31) (v := undef) rfl (by kernel_rfl) (by kernel_rfl) (by kernel_rfl) (fun _ _ _ h => h) (Or.inr ⟨by rfl, rfl⟩) (by assumption) ?tkr31_155; try simp only [Act.put, List.setIfInBounds_toArray, List.set_cons_zero, List.set_cons_succ])
    first | (refine wpAnyH_take (i := 32) (v := ?tkv32_156) rfl (by kernel_rfl) (by kernel_rfl) (by kernel_rfl) (fun _ _ _ h => h) (Or.inl ⟨by rfl, ?tky32_156⟩) (by assumption) ?tkr32_156; case tky32_156 => (intro V hV; (try dsimp only at hV); go_simp; (try with_reducible rfl)); try simp only [Act.put, List.setIfInBounds_toArray, List.set_cons_zero, List.set_cons_succ]) | (refine wpAnyH_take (i := 32) (v := undef) rfl (by kernel_rfl) (by kernel_rfl) (by kernel_rfl) (fun _ _ _ h => h) (Or.inr ⟨by rfl, rfl⟩) (by assumption) ?tkr32_157; try simp only [Act.put, List.setIfInBounds_toArray, List.set_cons_zero, List.set_cons_succ])
    first | (refine wpAnyH_take (i := 33) (v := ?tkv33_158) rfl (by kernel_rfl) (by kernel_rfl) (by kernel_rfl) (fun _ _ _ h => h) (Or.inl ⟨by rfl, ?tky33_158⟩) (by assumption) ?tkr33_158; case tky33_158 => (intro V hV; (try dsimp only at hV); go_simp; (try with_reducible rfl)); try simp only [Act.put, List.setIfInBounds_toArray, List.set_cons_zero, List.set_cons_succ]) | (refine wpAnyH_take (i := 33) (v := undef) rfl (by kernel_rfl) (by kernel_rfl) (by kernel_rfl) (fun _ _ _ h => h) (Or.inr ⟨by rfl, rfl⟩) (by assumption) ?tkr33_159; try simp only [Act.put, List.setIfInBounds_toArray, List.set_cons_zero, List.set_cons_succ])
    first | (refine wpAnyH_take (i := 34) (v := ?tkv34_160) rfl (by kernel_rfl) (by kernel_rfl) (by kernel_rfl) (fun _ _ _ h => h) (Or.inl ⟨by rfl, ?tky34_160⟩) (by assumption) ?tkr34_160; case tky34_160 => (intro V hV; (try dsimp only at hV); go_simp; (try with_reducible rfl)); try simp only [Act.put, List.setIfInBounds_toArray, List.set_cons_zero, List.set_cons_succ]) | (refine wpAnyH_take (i := 34) (v := undef) rfl (by kernel_rfl) (by kernel_rfl) (by kernel_rfl) (fun _ _ _ h => h) (Or.inr ⟨by rfl, rfl⟩) (by assumption) ?tkr34_161; try simp only [Act.put, List.setIfInBounds_toArray, List.set_cons_zero, List.set_cons_succ])
    (refine wpAnyH_ready (rs := [39]) (by kernel_rfl) (by simp) ?_; refine AllReadyH.cons rfl (fun K hK => ?_) AllReadyH.nil; (try go_simp); (go_at_call 29; (with_reducible refine (not_v _ _ a (HA5.out.below hbd)).mono ?_); rintro e w13 ⟨x39, rfl, hx39, hb⟩); refine hK.out _ _ (by exact ab_keep hHeld hb) (fun hHeld => ?_); clear hK K; try simp only [Act.put, List.setIfInBounds_toArray, List.set_cons_zero, List.set_cons_succ])
    replace hbd := bstep hbd hb
    replace c4 := CnAt.below hb _ _ c4
    replace c12 := CnAt.below hb _ _ c12
    replace c27 := CnAt.below hb _ _ c27
    clear hb
    (refine wpAnyH_ready (rs := [40]) (by kernel_rfl) (by simp) ?_; refine AllReadyH.cons rfl (fun K hK => ?_) AllReadyH.nil; (try go_simp); (go_at_call 31; (with_reducible refine (or_v _ _ _ a _ (HA5.out.below hbd) hx39).mono ?_); rintro e w14 ⟨x40, rfl, hx40, hb⟩); refine hK.out _ _ (by exact ab_keep hHeld hb) (fun hHeld => ?_); clear hK K; try simp only [Act.put, List.setIfInBounds_toArray, List.set_cons_zero, List.set_cons_succ])
    replace hbd := bstep hbd hb
    replace c4 := CnAt.below hb _ _ c4
    replace c12 := CnAt.below hb _ _ c12
    replace c27 := CnAt.below hb _ _ c27
    replace hx39 := hx39.below hb
    clear hb
    obtain ⟨csx40, rfl, c40⟩ := hx40
    have c40S := c40.shape
    obtain ⟨kx40, lx40, ox40, ix40, jx40, tx40, dx40, mx40, px40, rfl⟩ := c40S
    first | (refine wpAnyH_take (i := 41) (v := ?tkv41_162) rfl (by kernel_rfl) (by kernel_rfl) (by kernel_rfl) (fun _ _ _ h => h) (Or.inl ⟨by rfl, ?tky41_162⟩) (by assumption) ?tkr41_162; case tky41_162 => (intro V hV; (try dsimp only at hV); go_simp; (try with_reducible rfl)); try simp only [Act.put, List.setIfInBounds_toArray, List.set_cons_zero, List.set_cons_succ]) | (refine wpAnyH_take (i := 41) (v := undef) rfl (by kernel_rfl) (by kernel_rfl) (by kernel_rfl) (fun _ _ _ h => h) (Or.inr ⟨by rfl, rfl⟩) (by assumption) ?tkr41_163; try simp only [Act.put, List.setIfInBounds_toArray, List.set_cons_zero, List.set_cons_succ])
    (refine wpAnyH_ready (rs := [46]) (by kernel_rfl) (by simp) ?_; refine AllReadyH.cons rfl (fun K hK => ?_) AllReadyH.nil; (try go_simp); (go_at_call 29; (with_reducible refine (not_v _ _ a (HA5.out.below hbd)).mono ?_); rintro e w15 ⟨x46, rfl, hx46, hb⟩); refine hK.out _ _ (by exact ab_keep hHeld hb) (fun hHeld => ?_); clear hK K; try simp only [Act.put, List.setIfInBounds_toArray, List.set_cons_zero, List.set_cons_succ])
    replace hbd := bstep hbd hb
    replace c4 := CnAt.below hb _ _ c4
    replace c12 := CnAt.below hb _ _ c12
    replace c27 := CnAt.below hb _ _ c27
    replace c40 := CnAt.below hb _ _ c40
    clear hb
    (refine wpAnyH_ready (rs := [47]) (by kernel_rfl) (by simp) ?_; refine AllReadyH.cons rfl (fun K hK => ?_) AllReadyH.nil; (try go_simp); (go_at_call 30; (with_reducible refine (and_v _ _ _ a _ (HA5.out.below hbd) hx46).mono ?_); rintro e w16 ⟨x47, rfl, hx47, hb⟩); refine hK.out _ _ (by exact ab_keep hHeld hb) (fun hHeld => ?_); clear hK K; try simp only [Act.put, List.setIfInBounds_toArray, List.set_cons_zero, List.set_cons_succ])
    replace hbd := bstep hbd hb
    replace c4 := CnAt.below hb _ _ c4
    replace c12 := CnAt.below hb _ _ c12
    replace c27 := CnAt.below hb _ _ c27
    replace c40 := CnAt.below hb _ _ c40
    replace hx46 := hx46.below hb
    clear hb
    obtain ⟨csx47, rfl, c47⟩ := hx47
    have c47S := c47.shape
    obtain ⟨kx47, lx47, ox47, ix47, jx47, tx47, dx47, mx47, px47, rfl⟩ := c47S
    first | (refine wpAnyH_take (i := 48) (v := ?tkv48_164) rfl (by kernel_rfl) (by kernel_rfl) (by kernel_rfl) (fun _ _ _ h => h) (Or.inl ⟨by rfl, ?tky48_164⟩) (by assumption) ?tkr48_164; case tky48_164 => (intro V hV; (try dsimp only at hV); go_simp; (try with_reducible rfl)); try simp only [Act.put, List.setIfInBounds_toArray, List.set_cons_zero, List.set_cons_succ]) | (refine wpAnyH_take (i := 48) (v := undef) rfl (by kernel_rfl) (by kernel_rfl) (by kernel_rfl) (fun _ _ _ h => h) (Or.inr ⟨by rfl, rfl⟩) (by assumption) ?tkr48_165; try simp only [Act.put, List.setIfInBounds_toArray, List.set_cons_zero, List.set_cons_succ])
    (refine wpAnyH_ready (rs := [51]) (by kernel_rfl) (by simp) ?_; refine AllReadyH.cons rfl (fun K hK => ?_) AllReadyH.nil; (try go_simp); refine hK.out _ _ (by exact ab_keep hHeld ((Below.refl _ _).alloc (Nat.le_refl _) _)) (fun hHeld => ?_); clear hK K; try simp only [Act.put, List.setIfInBounds_toArray, List.set_cons_zero, List.set_cons_succ])
    (refine wpAnyH_take (i := 52) (v := ?tkv52_166) rfl (by kernel_rfl) (by kernel_rfl) (by kernel_rfl) (fun _ _ _ h => h) (Or.inl ⟨by rfl, ?tky52_166⟩) (by assumption) ?tkr52_166; case tky52_166 => (intro V hV; (try dsimp only at hV); go_simp; (try with_reducible rfl)); try simp only [Act.put, List.setIfInBounds_toArray, List.set_cons_zero, List.set_cons_succ])
    simp only [List.getElem_toArray, List.getElem_cons_succ, List.getElem_cons_zero, Act.put, List.setIfInBounds_toArray, List.set_cons_zero, List.set_cons_succ]
    refine wpAnyH_done (by kernel_rfl) ?_ _
    clear hHeld
    obtain ⟨W, hW⟩ : ∃ W, w16.alloc (Obj.cells #[.int .i64 kx4, .string lx4, .string ox4, .int .i64 ix4, .int .i64 jx4, .string tx4, .slice dx4 mx4 px4, .bool true, .int .i64 kx12, .string lx12, .string ox12, .int .i64 ix12, .int .i64 jx12, .string tx12, .slice dx12 mx12 px12, .bool (!y), .int .i64 kx27, .string lx27, .string ox27, .int .i64 ix27, .int .i64 jx27, .string tx27, .slice dx27 mx27 px27, .bool (!y), .int .i64 kx40, .string lx40, .string ox40, .int .i64 ix40, .int .i64 jx40, .string tx40, .slice dx40 mx40 px40, .bool true, .int .i64 kx47, .string lx47, .string ox47, .int .i64 ix47, .int .i64 jx47, .string tx47, .slice dx47 mx47 px47, .bool false, .int .i64 3, .string ⟨#[]⟩, .string ⟨#[]⟩, .int .i64 0, .int .i64 0, .string ⟨#[]⟩, .slice none 0 0, .bool true] 60) = W := ⟨_, rfl⟩
    have h48 : ∀ i u, #[.int .i64 kx4, .string lx4, .string ox4, .int .i64 ix4, .int .i64 jx4, .string tx4, .slice dx4 mx4 px4, .bool true, .int .i64 kx12, .string lx12, .string ox12, .int .i64 ix12, .int .i64 jx12, .string tx12, .slice dx12 mx12 px12, .bool (!y), .int .i64 kx27, .string lx27, .string ox27, .int .i64 ix27, .int .i64 jx27, .string tx27, .slice dx27 mx27 px27, .bool (!y), .int .i64 kx40, .string lx40, .string ox40, .int .i64 ix40, .int .i64 jx40, .string tx40, .slice dx40 mx40 px40, .bool true, .int .i64 kx47, .string lx47, .string ox47, .int .i64 ix47, .int .i64 jx47, .string tx47, .slice dx47 mx47 px47, .bool false, .int .i64 3, .string ⟨#[]⟩, .string ⟨#[]⟩, .int .i64 0, .int .i64 0, .string ⟨#[]⟩, .slice none 0 0, .bool true][i]? = some u → W.cell? ⟨w16.heap.size, i, none⟩ = some u := fun i u hu => by rw [← hW]; exact box_cell (box_new _ _ _) i u hu
    have hb : Below w16.heap.size w16 W := by rw [← hW]; exact (Below.refl _ _).alloc (Nat.le_refl _) _
    rw [hW]
    clear hW
    replace c4 := CnAt.below hb _ _ c4
    replace c12 := CnAt.below hb _ _ c12
    replace c27 := CnAt.below hb _ _ c27
    replace c40 := CnAt.below hb _ _ c40
    replace c47 := CnAt.below hb _ _ c47
    have cw : CnAt W [.int .i64 3, .string ⟨#[]⟩, .string ⟨#[]⟩, .int .i64 0, .int .i64 0, .string ⟨#[]⟩, .slice none 0 0] alwC := by unfold alwC; rw [CnAt]; exact ⟨.slice none 0 0, rfl, [], Sl.mk0 _ _ _ _, by rw [RowsAt]; trivial⟩
    have hLW := bstep HL5.out (bstep hbd hb)
    generalize w16.heap.size = H at h48 ⊢
    have HE := Lib.hid (show ∀ (j : Nat) (p : CN × Bool), (six a b true y)[j]? = some p → Ent W H j p.1 p.2 from fun j p hp => by
      match j, hp with
      | 0, hp => cases hp; exact ⟨_, _, _, _, _, _, _, _, _, h48 (0 * 8) _ rfl, h48 (0 * 8 + 1) _ rfl, h48 (0 * 8 + 2) _ rfl, h48 (0 * 8 + 3) _ rfl, h48 (0 * 8 + 4) _ rfl, h48 (0 * 8 + 5) _ rfl, h48 (0 * 8 + 6) _ rfl, h48 (0 * 8 + 7) _ rfl, c4⟩
      | 1, hp => cases hp; exact ⟨_, _, _, _, _, _, _, _, _, h48 (1 * 8) _ rfl, h48 (1 * 8 + 1) _ rfl, h48 (1 * 8 + 2) _ rfl, h48 (1 * 8 + 3) _ rfl, h48 (1 * 8 + 4) _ rfl, h48 (1 * 8 + 5) _ rfl, h48 (1 * 8 + 6) _ rfl, h48 (1 * 8 + 7) _ rfl, c12⟩
      | 2, hp => cases hp; exact ⟨_, _, _, _, _, _, _, _, _, h48 (2 * 8) _ rfl, h48 (2 * 8 + 1) _ rfl, h48 (2 * 8 + 2) _ rfl, h48 (2 * 8 + 3) _ rfl, h48 (2 * 8 + 4) _ rfl, h48 (2 * 8 + 5) _ rfl, h48 (2 * 8 + 6) _ rfl, h48 (2 * 8 + 7) _ rfl, c27⟩
      | 3, hp => cases hp; exact ⟨_, _, _, _, _, _, _, _, _, h48 (3 * 8) _ rfl, h48 (3 * 8 + 1) _ rfl, h48 (3 * 8 + 2) _ rfl, h48 (3 * 8 + 3) _ rfl, h48 (3 * 8 + 4) _ rfl, h48 (3 * 8 + 5) _ rfl, h48 (3 * 8 + 6) _ rfl, h48 (3 * 8 + 7) _ rfl, c40⟩
      | 4, hp => cases hp; exact ⟨_, _, _, _, _, _, _, _, _, h48 (4 * 8) _ rfl, h48 (4 * 8 + 1) _ rfl, h48 (4 * 8 + 2) _ rfl, h48 (4 * 8 + 3) _ rfl, h48 (4 * 8 + 4) _ rfl, h48 (4 * 8 + 5) _ rfl, h48 (4 * 8 + 6) _ rfl, h48 (4 * 8 + 7) _ rfl, c47⟩
      | 5, hp => cases hp; exact ⟨_, _, _, _, _, _, _, _, _, h48 (5 * 8) _ rfl, h48 (5 * 8 + 1) _ rfl, h48 (5 * 8 + 2) _ rfl, h48 (5 * 8 + 3) _ rfl, h48 (5 * 8 + 4) _ rfl, h48 (5 * 8 + 5) _ rfl, h48 (5 * 8 + 6) _ rfl, h48 (5 * 8 + 7) _ rfl, cw⟩
      | n + 6, hp => cases hp)
    clear h48 hb hbd c4 c12 c27 c40 c47 cw HA5 HB5
    have HLW := Lib.hid hLW
    clear hLW
    go_wp2
    go_loopw [133] (fun i wr => ∃ j : Nat, j ≤ 6 ∧ i = .int .i64 j ∧ Below W.heap.size W wr) (fun i _ => 6 - (intOf i).toNat)
    case atStart => exact ⟨0, by omega, rfl, Below.refl _ _⟩
    case round =>
      obtain ⟨j, hj, rfl, hL⟩ := hrel
      by_cases hlt : j < 6
      · obtain ⟨⟨c, wb⟩, hp⟩ : ∃ p, (six a b true y)[j]? = some p := ⟨_, List.getElem?_eq_getElem (by simp [six]; omega)⟩
        obtain ⟨k9, l9, o9, i9, j9, t9, d9, m9, p9, f0, f1, f2, f3, f4, f5, f6, f7, hc9⟩ := HE.out j _ hp
        have HR := HP2.out _ (List.mem_of_getElem? hp)
        have HH := fun (V : World) (h : Below W.heap.size W V) => holds_any c _ ns vs _ _ V (CnAt.below h _ _ hc9) (HNV.out.1.below (bstep HLW.out h)) (HNV.out.2.below (bstep HLW.out h))
        replace f0 := Go.Proofs.YtgfppajbegcaeaaDoor.Sl.cell_kept f0 hL
        replace f1 := Go.Proofs.YtgfppajbegcaeaaDoor.Sl.cell_kept f1 hL
        replace f2 := Go.Proofs.YtgfppajbegcaeaaDoor.Sl.cell_kept f2 hL
        replace f3 := Go.Proofs.YtgfppajbegcaeaaDoor.Sl.cell_kept f3 hL
        replace f4 := Go.Proofs.YtgfppajbegcaeaaDoor.Sl.cell_kept f4 hL
        replace f5 := Go.Proofs.YtgfppajbegcaeaaDoor.Sl.cell_kept f5 hL
        replace f6 := Go.Proofs.YtgfppajbegcaeaaDoor.Sl.cell_kept f6 hL
        replace f7 := Go.Proofs.YtgfppajbegcaeaaDoor.Sl.cell_kept f7 hL
        have j0 : (0 : Int) ≤ (j : Int) := by omega
        have j1 : (j : Int) < 6 := by omega
        clear hp hc9
        rcases HR with HR | HR
        · obtain ⟨⟨o, z⟩, hR⟩ : ∃ R, holdsC c ns vs = R := ⟨_, rfl⟩
          rw [hR] at HR HH
          obtain rfl : z = 1 := HR
          clear hR
          go_wp2_with (go_at_call 25; (with_reducible refine (HH _ (bstep hL (by go_grown))).mono ?_); rintro e w20 ⟨rfl, hb⟩; have hw7 := box_at hb 7 rfl; have hL3 := bstep hL (bstep (by go_grown) hb); clear hb)
          go_roundw
          case rel => exact ⟨j + 1, by omega, by go_num, hL3⟩
          case measure => simp [intOf]; omega
        · rw [HR] at HH
          clear HR
          cases wb
          · go_wp2_with (go_at_call 25; (with_reducible refine (HH _ (bstep hL (by go_grown))).mono ?_); rintro e w20 ⟨rfl, hb⟩; have hw7 := box_at hb 7 rfl; have hL3 := bstep hL (bstep (by go_grown) hb); clear hb)
            go_roundw
            case rel => exact ⟨j + 1, by omega, by go_num, hL3⟩
            case measure => simp [intOf]; omega
          · go_wp2_with (go_at_call 25; (with_reducible refine (HH _ (bstep hL (by go_grown))).mono ?_); rintro e w20 ⟨rfl, hb⟩; have hw7 := box_at hb 7 rfl; have hL3 := bstep hL (bstep (by go_grown) hb); clear hb)
            go_roundw
            case rel => exact ⟨j + 1, by omega, by go_num, hL3⟩
            case measure => simp [intOf]; omega
      · go_wp2
        go_ret
        exact ⟨rfl, bstep HLW.out hL⟩
end Go.Proofs.YtgfppajbegcaeaaDoor.Va
