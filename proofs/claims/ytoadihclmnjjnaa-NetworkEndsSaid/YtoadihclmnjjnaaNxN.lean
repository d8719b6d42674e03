/-
  Networks: Holds, the program's and the reference's; the law's matrix (layer 46).
-/
import Derived.Test.YtoadihclmnjjnaaNxM
set_option linter.unusedSimpArgs false
set_option linter.unusedVariables false
set_option maxRecDepth 100000
namespace Go.Proofs.Ytoadihclmnjjnaa.Nw
open Go Go.RowKit Go.ChangeShapes Go.WideShapes Go.Proofs.Ytoadihclmnjjnaa.Sl Go.Proofs.Ytoadihclmnjjnaa.Al Go.Lib
open Go.Proofs.Ytoadihclmnjjnaa.Iv (validB ofZ)

def atG (a : List (Int × Int)) (i : Int) : Int × Int := a.getD i.toNat (0, 0)
/-- A constraint that these intervals do not satisfy. -/
def badH (a : List (Int × Int)) (r : Rl) : Bool := decide (r.i < 0) || decide ((a.length : Int) ≤ r.i) || decide (r.j < 0) || decide ((a.length : Int) ≤ r.j) || !holdsB r.s (atG a r.i).1 (atG a r.i).2 (atG a r.j).1 (atG a r.j).2
def badP (p : Int × Int) : Bool := !validB p.1 p.2
def holdsN (l : List Rl) (a : List (Int × Int)) : Bool := !a.any badP && !l.any (badH a)
theorem atG_get {a : List (Int × Int)} {i : Int} (h0 : 0 ≤ i) (h1 : i < (a.length : Int)) : a[i.toNat]? = some (atG a i) := by
  unfold atG
  rw [List.getD_eq_getElem?_getD, List.getElem?_eq_getElem (by omega)]
  rfl
theorem enter_h1 (args : Array Value) (w : World) : (callFunc 70 args).run Try.prog w = .ok (.enter 70 args) w := by simp [go_sem, Try.func70]
theorem enter_h2 (args : Array Value) (w : World) : (callFunc 71 args).run Try.prog w = .ok (.enter 71 args) w := by simp [go_sem, Try.func71]
theorem holds1_any (p : Int × Int) (w : World) : Calls Try.prog 70 #[.agg #[.int .i64 p.1, .int .i64 p.2]] w fun e w' => e = .returned (.bool (badP p)) ∧ Below w.heap.size w w' := by
  obtain ⟨a, b⟩ := p
  unfold badP
  dsimp only
  go_enter Try.func70, Try.ntmps70
  go_wp2_with (go_at_call 67; (with_reducible refine (Iv.valid_any a b _).mono ?_); rintro e w1 ⟨rfl, hb⟩; have hL : Below w.heap.size w w1 := bstep (by go_grown) hb)
  go_ret
  exact ⟨rfl, hL⟩
theorem new3 (w : World) (x y z : Value) (t : TypeId) : ∀ W, W = w.alloc (.cells #[x, y, z] t) → Below w.heap.size w W ∧ W.cell? ⟨w.heap.size, 0, none⟩ = some x ∧ W.cell? ⟨w.heap.size, 1, none⟩ = some y ∧ W.cell? ⟨w.heap.size, 2, none⟩ = some z := by
  rintro W rfl
  refine ⟨(Below.refl _ _).alloc (Nat.le_refl _) _, ?_, ?_, ?_⟩
  · rw [cell_of_row _ _ 0 _ _ _ (heap_alloc_new w _)]; rfl
  · rw [cell_of_row _ _ 1 _ _ _ (heap_alloc_new w _)]; rfl
  · rw [cell_of_row _ _ 2 _ _ _ (heap_alloc_new w _)]; rfl
set_option maxHeartbeats 8000000 in
theorem holds2_any (a : List (Int × Int)) (s : Value) (BN BA : Nat) (r : Rl) (w : World) (ha : Ps w s a) (c1 : w.cell? ⟨BN, 0, none⟩ = some (.int .i64 (a.length : Int))) (c2 : w.cell? ⟨BA, 0, none⟩ = some s) :
    Calls Try.prog 71 #[.agg #[.int .i64 r.i, .int .i64 r.j, .int .i64 r.s], .pointer (some ⟨BN, 0, none⟩), .pointer (some ⟨BA, 0, none⟩)] w fun e w' => e = .returned (.bool (badH a r)) ∧ Below w.heap.size w w' := by
  obtain ⟨i, j, t⟩ := r
  obtain ⟨ad, c, rfl⟩ := ha.form
  obtain ⟨m, hm⟩ : ∃ m, m = a.length := ⟨_, rfl⟩
  have HH := fun x0 x1 y0 y1 W => holds_any t x0 x1 y0 y1 W
  unfold badH
  dsimp only
  rw [← hm] at c1 c2 ⊢
  by_cases h1 : i < 0
  · have g1 : decide (i < 0) = true := by simpa using h1
    rw [g1]
    clear ha hm h1
    go_enter Try.func71, Try.ntmps71
    go_upto_region 1 with fail
    obtain ⟨W, hW⟩ : ∃ W, W = w.alloc (.cells #[.int .i64 i, .int .i64 j, .int .i64 t] 30) := ⟨_, rfl⟩
    obtain ⟨hbW, d0, d1, d2⟩ := new3 w _ _ _ _ W hW
    have z0 := cell_regrown d0
    have z1 := cell_regrown d1
    have z2 := cell_regrown d2
    rw [← hW]
    clear hW c1 c2 d0 d1 d2
    refine wp_region_quiet_below (by kernel_rfl) (by kernel_rfl) ?_
    repeat (go_big_quiet_step (fail))
    refine wpQuiet_nil ?_
    rintro w9 ⟨⟨dq, osq⟩, hw9⟩
    have hb9 : Below W.heap.size W w9 := by rw [hw9]; exact below_regrown _ dq osq
    clear z0 z1 z2 hw9
    go_wp2
    go_ret
    exact ⟨rfl, bstep hbW hb9⟩
  have g1 : decide (i < 0) = false := by simpa using h1
  by_cases h2 : (m : Int) ≤ i
  · have g2 : decide ((m : Int) ≤ i) = true := by simpa using h2
    rw [g1, g2]
    clear ha hm h1 h2
    go_enter Try.func71, Try.ntmps71
    go_upto_region 1 with fail
    obtain ⟨W, hW⟩ : ∃ W, W = w.alloc (.cells #[.int .i64 i, .int .i64 j, .int .i64 t] 30) := ⟨_, rfl⟩
    obtain ⟨hbW, d0, d1, d2⟩ := new3 w _ _ _ _ W hW
    have z0 := cell_regrown d0
    have z1 := cell_regrown d1
    have z2 := cell_regrown d2
    have z3 := cell_regrown (Go.Proofs.Ytoadihclmnjjnaa.Sl.cell_kept c1 hbW)
    rw [← hW]
    clear hW c1 c2 d0 d1 d2
    refine wp_region_quiet_below (by kernel_rfl) (by kernel_rfl) ?_
    repeat (go_big_quiet_step (fail))
    refine wpQuiet_nil ?_
    rintro w9 ⟨⟨dq, osq⟩, hw9⟩
    have hb9 : Below W.heap.size W w9 := by rw [hw9]; exact below_regrown _ dq osq
    clear z0 z1 z2 z3 hw9
    go_wp2
    go_ret
    exact ⟨rfl, bstep hbW hb9⟩
  have g2 : decide ((m : Int) ≤ i) = false := by simpa using h2
  by_cases h3 : j < 0
  · have g3 : decide (j < 0) = true := by simpa using h3
    rw [g1, g2, g3]
    clear ha hm h1 h2 h3
    go_enter Try.func71, Try.ntmps71
    go_upto_region 1 with fail
    obtain ⟨W, hW⟩ : ∃ W, W = w.alloc (.cells #[.int .i64 i, .int .i64 j, .int .i64 t] 30) := ⟨_, rfl⟩
    obtain ⟨hbW, d0, d1, d2⟩ := new3 w _ _ _ _ W hW
    have z0 := cell_regrown d0
    have z1 := cell_regrown d1
    have z2 := cell_regrown d2
    have z3 := cell_regrown (Go.Proofs.Ytoadihclmnjjnaa.Sl.cell_kept c1 hbW)
    rw [← hW]
    clear hW c1 c2 d0 d1 d2
    refine wp_region_quiet_below (by kernel_rfl) (by kernel_rfl) ?_
    repeat (go_big_quiet_step (fail))
    refine wpQuiet_nil ?_
    rintro w9 ⟨⟨dq, osq⟩, hw9⟩
    have hb9 : Below W.heap.size W w9 := by rw [hw9]; exact below_regrown _ dq osq
    clear z0 z1 z2 z3 hw9
    go_wp2
    go_ret
    exact ⟨rfl, bstep hbW hb9⟩
  have g3 : decide (j < 0) = false := by simpa using h3
  by_cases h4 : (m : Int) ≤ j
  · have g4 : decide ((m : Int) ≤ j) = true := by simpa using h4
    rw [g1, g2, g3, g4]
    clear ha hm h1 h2 h3 h4
    go_enter Try.func71, Try.ntmps71
    go_upto_region 1 with fail
    obtain ⟨W, hW⟩ : ∃ W, W = w.alloc (.cells #[.int .i64 i, .int .i64 j, .int .i64 t] 30) := ⟨_, rfl⟩
    obtain ⟨hbW, d0, d1, d2⟩ := new3 w _ _ _ _ W hW
    have z0 := cell_regrown d0
    have z1 := cell_regrown d1
    have z2 := cell_regrown d2
    have z3 := cell_regrown (Go.Proofs.Ytoadihclmnjjnaa.Sl.cell_kept c1 hbW)
    rw [← hW]
    clear hW c1 c2 d0 d1 d2
    refine wp_region_quiet_below (by kernel_rfl) (by kernel_rfl) ?_
    repeat (go_big_quiet_step (fail))
    refine wpQuiet_nil ?_
    rintro w9 ⟨⟨dq, osq⟩, hw9⟩
    have hb9 : Below W.heap.size W w9 := by rw [hw9]; exact below_regrown _ dq osq
    clear z0 z1 z2 z3 hw9
    go_wp2
    go_ret
    exact ⟨rfl, bstep hbW hb9⟩
  have g4 : decide ((m : Int) ≤ j) = false := by simpa using h4
  obtain ⟨p, rfl⟩ := Int.eq_ofNat_of_zero_le (show 0 ≤ i by omega)
  obtain ⟨q, rfl⟩ := Int.eq_ofNat_of_zero_le (show 0 ≤ j by omega)
  have hp := atG_get (a := a) (i := (p : Int)) (by omega) (by omega)
  have hq := atG_get (a := a) (i := (q : Int)) (by omega) (by omega)
  rw [Int.toNat_natCast] at hp hq
  generalize atG a (p : Int) = P at hp ⊢
  generalize atG a (q : Int) = Q at hq ⊢
  obtain ⟨p0, p1⟩ := P
  obtain ⟨q0, q1⟩ := Q
  obtain ⟨g, off, c', e1, hcl⟩ := ha.get (by omega)
  rw [← hm] at e1
  cases e1
  obtain ⟨x0, x1⟩ := hcl _ _ hp
  obtain ⟨y0, y1⟩ := hcl _ _ hq
  have i0 : (0 : Int) ≤ (p : Int) := by omega
  have j0 : (0 : Int) ≤ (q : Int) := by omega
  have i1 : (p : Int) < (m : Int) := by omega
  have j1 : (q : Int) < (m : Int) := by omega
  have g2b : decide (m ≤ p) = false := by simp; omega
  have g2c : ¬ m ≤ p := by omega
  have g4b : decide (m ≤ q) = false := by simp; omega
  have g4c : ¬ m ≤ q := by omega
  rw [g1, g2, g3, g4]
  dsimp only
  replace HH := HH p0 p1 q0 q1
  generalize holdsB t p0 p1 q0 q1 = b at *
  clear ha hm h1 h2 h3 h4 hp hq hcl
  go_enter Try.func71, Try.ntmps71
  go_upto_region 1 with fail
  obtain ⟨W, hW⟩ : ∃ W, W = w.alloc (.cells #[.int .i64 (p : Int), .int .i64 (q : Int), .int .i64 t] 30) := ⟨_, rfl⟩
  obtain ⟨hbW, d0, d1, d2⟩ := new3 w _ _ _ _ W hW
  have z0 := cell_regrown d0
  have z1 := cell_regrown d1
  have z2 := cell_regrown d2
  have z3 := cell_regrown (Go.Proofs.Ytoadihclmnjjnaa.Sl.cell_kept c1 hbW)
  have z4 := cell_regrown (Go.Proofs.Ytoadihclmnjjnaa.Sl.cell_kept c2 hbW)
  have z5 := cell_regrown (Go.Proofs.Ytoadihclmnjjnaa.Sl.cell_kept x0 hbW)
  have z6 := cell_regrown (Go.Proofs.Ytoadihclmnjjnaa.Sl.cell_kept x1 hbW)
  have z7 := cell_regrown (Go.Proofs.Ytoadihclmnjjnaa.Sl.cell_kept y0 hbW)
  have z8 := cell_regrown (Go.Proofs.Ytoadihclmnjjnaa.Sl.cell_kept y1 hbW)
  rw [← hW]
  clear hW c1 c2 d0 d1 d2 x0 x1 y0 y1
  refine wp_region_quiet_below (by kernel_rfl) (by kernel_rfl) ?_
  repeat (go_big_quiet_step (first | (go_at_call 72; with_reducible exact Calls.regrown_of (HH _))))
  refine wpQuiet_nil ?_
  rintro w9 ⟨⟨dq, osq⟩, hw9⟩
  have hb9 : Below W.heap.size W w9 := by rw [hw9]; exact below_regrown _ dq osq
  clear z0 z1 z2 z3 z4 z5 z6 z7 z8 hw9
  go_wp2
  go_ret
  exact ⟨by cases b <;> rfl, bstep hbW hb9⟩
set_option maxHeartbeats 4000000 in
theorem nholds_any (l : List Rl) (a : List (Int × Int)) (s v : Value) (w : World) (hs : Rs w s l) (ha : Ps w v a) : Calls Try.prog 33 #[s, v] w fun e w' => e = .returned (.bool (holdsN l a)) ∧ Below w.heap.size w w' := by
  have HX := fun (W : World) (h : Below w.heap.size w W) => contains_spn 70 enter_h1 #[] badP (fun _ => True) (fun _ _ _ _ => trivial) a (fun W p _ _ => holds1_any p W) v W (ha.below h) trivial
  have HY := fun (BN BA : Nat) (W : World) (h : Below w.heap.size w W) (c1 : W.cell? ⟨BN, 0, none⟩ = some (.int .i64 (a.length : Int))) (c2 : W.cell? ⟨BA, 0, none⟩ = some v) => contains_rel 71 enter_h2 #[.pointer (some ⟨BN, 0, none⟩), .pointer (some ⟨BA, 0, none⟩)] (badH a) (fun W => Below w.heap.size w W ∧ W.cell? ⟨BN, 0, none⟩ = some (.int .i64 (a.length : Int)) ∧ W.cell? ⟨BA, 0, none⟩ = some v)
    (fun W W' h hb => ⟨bstep h.1 hb, Go.Proofs.Ytoadihclmnjjnaa.Sl.cell_kept h.2.1 hb, Go.Proofs.Ytoadihclmnjjnaa.Sl.cell_kept h.2.2 hb⟩) l (fun W r _ hw => holds2_any a v BN BA r W (ha.below hw.1) hw.2.1 hw.2.2) s W (hs.below h) ⟨h, c1, c2⟩
  obtain ⟨ad, c, rfl⟩ := ha.form
  obtain ⟨ad2, c2, rfl⟩ := hs.form
  unfold holdsN
  generalize a.any badP = x at *
  generalize l.any (badH a) = y at *
  generalize l.length = ql at *
  generalize a.length = qa at *
  clear hs ha
  cases x
  · go_enter Try.func33, Try.ntmps33
    go_upto_region 3 with (go_at_call 44; ((with_reducible refine (HX _ (by go_grown)).mono ?_); rintro e w1 ⟨rfl, hb⟩; (first | (replace hL := bstep hL hb) | (have hL := hb)); clear hb; replace hc := bcell hL))
    have cA : w1.cell? ⟨w.heap.size, 0, none⟩ = some (.slice ad qa c) := by rw [hc.1 _ _ (by simp)]; simp
    have hL1 : Below w.heap.size w w1 := bstep (by go_grown) hL
    clear hL hc
    have cA2 := Go.Proofs.Ytoadihclmnjjnaa.Sl.cell_kept (w1 := w1.alloc (.cells #[.int .i64 (qa : Int)] 3)) cA ((Below.refl _ _).alloc (Nat.le_refl _) _)
    have hL2 := hL1.alloc hL1.size (.cells #[.int .i64 (qa : Int)] 3)
    have hN : (w1.alloc (.cells #[.int .i64 (qa : Int)] 3)).cell? ⟨w1.heap.size, 0, none⟩ = some (.int .i64 (qa : Int)) := by rw [cell_of_row _ _ 0 _ _ _ (heap_alloc_new w1 _)]; rfl
    have HZ := HY w1.heap.size w.heap.size _ hL2 hN cA2
    clear cA2 hN HY
    go_wp2_with (go_at_call 59; (with_reducible refine HZ.mono ?_); rintro e w3 ⟨rfl, hb3⟩)
    go_ret
    exact ⟨rfl, bstep hL2 hb3⟩
  · go_enter Try.func33, Try.ntmps33
    go_wp2_with (go_at_call 44; ((with_reducible refine (HX _ (by go_grown)).mono ?_); rintro e w1 ⟨rfl, hb⟩; (first | (replace hL := bstep hL hb) | (have hL := hb)); clear hb; replace hc := bcell hL))
    go_ret
    exact ⟨rfl, (by have hB := bstep (w := w) (by go_grown) hL; have hs := hB.size; go_grown)⟩
end Go.Proofs.Ytoadihclmnjjnaa.Nw
