/-
  Networks: the closures of the law NetworkEnds (layer 46).
-/
import Derived.Test.YtoadihclmnjjnaaNyP
import Derived.Test.YtoadihclmnjjnaaIvB
import Derived.BigQuiet
set_option linter.unusedSimpArgs false
set_option linter.unusedVariables false
set_option maxRecDepth 100000
namespace Go.Proofs.Ytoadihclmnjjnaa.Nw
open Go Go.RowKit Go.ChangeShapes Go.WideShapes Go.Proofs.Ytoadihclmnjjnaa.Sl Go.Proofs.Ytoadihclmnjjnaa.Al Go.Lib
open Go.Proofs.Ytoadihclmnjjnaa.Iv (validB ofZ sgn)

/-- The ends: 2 i is From of the interval i, 2 i + 1 its To. -/
def endN (a : List (Int × Int)) (k : Nat) : Int := if k % 2 = 0 then (a.getD (k / 2) (0, 0)).1 else (a.getD (k / 2) (0, 0)).2
def badE (p : Int × Int) : Bool := decide (p.1 < -100) || decide (100 < p.2) || decide (p.2 ≤ p.1)
def hasP (d : Int) (s : Int × Int) : Bool := validB s.1 s.2 && decide (s.1 ≤ d) && decide (d < s.2)
theorem badE_of {a : List (Int × Int)} (h : a.any badE = false) {k : Nat} (hk : k < a.length) : -100 ≤ (a.getD k (0, 0)).1 ∧ (a.getD k (0, 0)).1 < (a.getD k (0, 0)).2 ∧ (a.getD k (0, 0)).2 ≤ 100 := by
  have h2 := (List.any_eq_false.1 h) (a.getD k (0, 0)) (by rw [List.getD_eq_getElem?_getD, List.getElem?_eq_getElem hk]; exact List.getElem_mem hk)
  unfold badE at h2
  simp only [Bool.or_eq_true, decide_eq_true_eq, not_or] at h2
  omega
theorem endN_bd {a : List (Int × Int)} (h : a.any badE = false) {k : Nat} (hk : k < 2 * a.length) : -100 ≤ endN a k ∧ endN a k ≤ 100 := by
  have := badE_of h (show k / 2 < a.length by omega)
  unfold endN
  split <;> omega
theorem enter_e1 (args : Array Value) (w : World) : (callFunc 45 args).run Try.prog w = .ok (.enter 45 args) w := by simp [go_sem, Try.func45]
theorem enter_e3 (args : Array Value) (w : World) : (callFunc 47 args).run Try.prog w = .ok (.enter 47 args) w := by simp [go_sem, Try.func47]
theorem ends1_any (p : Int × Int) (w : World) : Calls Try.prog 45 #[.agg #[.int .i64 p.1, .int .i64 p.2]] w fun e w' => e = .returned (.bool (badE p)) ∧ Below w.heap.size w w' := by
  obtain ⟨a, b⟩ := p
  unfold badE
  dsimp only
  by_cases h1 : a < -100
  · go_enter Try.func45, Try.ntmps45
    go_wp2
    go_ret
    exact ⟨by simp [h1], by go_grown⟩
  · by_cases h2 : 100 < b
    · go_enter Try.func45, Try.ntmps45
      go_wp2
      go_ret
      exact ⟨by simp [h2], by go_grown⟩
    · by_cases h3 : b ≤ a
      · go_enter Try.func45, Try.ntmps45
        go_wp2
        go_ret
        exact ⟨by simp [h3], by go_grown⟩
      · go_enter Try.func45, Try.ntmps45
        go_wp2
        go_ret
        exact ⟨by simp [h1, h2, h3], by go_grown⟩
/-- What the closures read. -/
def EnvE (w : World) (BN BA BE : Nat) (a : List (Int × Int)) (v : Value) : Prop := Ps w v a ∧ w.cell? ⟨BN, 0, none⟩ = some (.int .i64 (a.length : Int)) ∧ w.cell? ⟨BA, 0, none⟩ = some v ∧
  w.cell? ⟨BE, 0, none⟩ = some (.func (.func 46) #[] #[.pointer (some ⟨BN, 0, none⟩), .pointer (some ⟨BA, 0, none⟩)])
theorem EnvE.below {w w' : World} {BN BA BE : Nat} {a : List (Int × Int)} {v : Value} (h : EnvE w BN BA BE a v) (hb : Below w.heap.size w w') : EnvE w' BN BA BE a v :=
  ⟨h.1.below hb, Go.Proofs.Ytoadihclmnjjnaa.Sl.cell_kept h.2.1 hb, Go.Proofs.Ytoadihclmnjjnaa.Sl.cell_kept h.2.2.1 hb, Go.Proofs.Ytoadihclmnjjnaa.Sl.cell_kept h.2.2.2 hb⟩
set_option maxHeartbeats 8000000 in
theorem end_any {w : World} {BN BA BE : Nat} {a : List (Int × Int)} {v : Value} (h : EnvE w BN BA BE a v) (h5 : a.length ≤ 5) {k : Nat} (hk : k < 2 * a.length) :
    Calls Try.prog 46 #[.int .i64 (k : Int), .pointer (some ⟨BN, 0, none⟩), .pointer (some ⟨BA, 0, none⟩)] w fun e w' => e = .returned (.int .i64 (endN a k)) ∧ Below w.heap.size w w' := by
  obtain ⟨ha, cN, cA, _⟩ := h
  obtain ⟨g, off, cap, rfl, hc⟩ := ha.get (by omega)
  obtain ⟨x, hx⟩ : ∃ x, a[k / 2]? = some x := ⟨_, List.getElem?_eq_getElem (by omega)⟩
  obtain ⟨c0, c1⟩ := hc _ _ hx
  obtain ⟨x0, x1⟩ := x
  have he : endN a k = if k % 2 = 0 then x0 else x1 := by unfold endN; rw [List.getD_eq_getElem?_getD, hx]; rfl
  obtain ⟨n, hn⟩ : ∃ n, n = a.length := ⟨_, rfl⟩
  rw [← hn] at cN cA hk h5
  rw [he]
  dsimp only at c0 c1
  clear ha hc hx he hn
  have t1 : IntKind.i64.wrap ((k : Int).tdiv 2) = ((k / 2 : Nat) : Int) := by rw [Int.tdiv_eq_ediv_of_nonneg (by omega), IntKind.wrap_i64]; omega
  have t2 : IntKind.i64.wrap (2 * (n : Int)) = 2 * (n : Int) := IntWalk.i64_in _ (by omega)
  have p0 : (0 : Int) ≤ ((k / 2 : Nat) : Int) := by omega
  have p1 : ((k / 2 : Nat) : Int) < (n : Int) := by omega
  have k0 : (0 : Int) ≤ (k : Int) := by omega
  have k1 : (k : Int) < 2 * (n : Int) := by omega
  by_cases hr : k % 2 = 0
  · have r1 : (k : Int) % 2 = 0 := by omega
    rw [if_pos hr]
    go_enter Try.func46, Try.ntmps46
    go_wp2
    go_ret
    exact ⟨rfl, Below.refl _ _⟩
  · have r1 : (k : Int) % 2 = 1 := by omega
    rw [if_neg hr]
    go_enter Try.func46, Try.ntmps46
    go_wp2
    go_ret
    exact ⟨rfl, Below.refl _ _⟩
theorem new2 (w : World) (x y : Value) (t : TypeId) : ∀ W, W = w.alloc (.cells #[x, y] t) → Below w.heap.size w W ∧ W.cell? ⟨w.heap.size, 0, none⟩ = some x ∧ W.cell? ⟨w.heap.size, 1, none⟩ = some y := by
  rintro W rfl
  refine ⟨(Below.refl _ _).alloc (Nat.le_refl _) _, ?_, ?_⟩
  · rw [cell_of_row _ _ 0 _ _ _ (heap_alloc_new w _)]; rfl
  · rw [cell_of_row _ _ 1 _ _ _ (heap_alloc_new w _)]; rfl
set_option maxHeartbeats 8000000 in
theorem ends3_any {w : World} {BN BA BE BC : Nat} {a : List (Int × Int)} {v : Value} (h : EnvE w BN BA BE a v) (h5 : a.length ≤ 5) (hb : a.any badE = false) {p q : Nat} (hp : p < 2 * a.length) (hq : q < 2 * a.length)
    (c0 : w.cell? ⟨BC, 0, none⟩ = some (.int .i64 (p : Int))) (c1 : w.cell? ⟨BC, 1, none⟩ = some (.int .i64 (q : Int))) (s : Int × Int) :
    Calls Try.prog 47 #[.agg #[.int .i64 s.1, .int .i64 s.2], .pointer (some ⟨BE, 0, none⟩), .pointer (some ⟨BC, 0, none⟩)] w fun e w' => e = .returned (.bool (hasP (endN a q - endN a p) s)) ∧ Below w.heap.size w w' := by
  have HP := fun W (hW : Below w.heap.size w W) => end_any (h.below hW) h5 hp
  have HQ := fun W (hW : Below w.heap.size w W) => end_any (h.below hW) h5 hq
  have cE := h.2.2.2
  have b1 := endN_bd hb hp
  have b2 := endN_bd hb hq
  generalize endN a p = x at *
  generalize endN a q = y at *
  obtain ⟨z, hz⟩ : ∃ z, z = y - x := ⟨_, rfl⟩
  have t1 : IntKind.i64.wrap (y - x) = z := by rw [hz]; exact IntWalk.i64_in _ (by omega)
  rw [← hz]
  have HH := fun W => Iv.has_any s.1 s.2 z W
  obtain ⟨s0, s1⟩ := s
  unfold hasP
  dsimp only at HH ⊢
  clear h b1 b2 hp hq hb h5 hz
  generalize (validB s0 s1 && decide (s0 ≤ z) && decide (z < s1)) = r at *
  go_enter Try.func47, Try.ntmps47
  go_upto_region 1 with fail
  obtain ⟨W, hW⟩ : ∃ W, W = w.alloc (.cells #[.int .i64 s0, .int .i64 s1] 48) := ⟨_, rfl⟩
  obtain ⟨hbW, d0, d1⟩ := new2 w _ _ _ W hW
  rw [← hW]
  replace HP := fun V (hV : Below W.heap.size W V) => HP V (bstep hbW hV)
  replace HQ := fun V (hV : Below W.heap.size W V) => HQ V (bstep hbW hV)
  have z0 := cell_regrown d0
  have z1 := cell_regrown d1
  have z2 := cell_regrown (Go.Proofs.Ytoadihclmnjjnaa.Sl.cell_kept c0 hbW)
  have z3 := cell_regrown (Go.Proofs.Ytoadihclmnjjnaa.Sl.cell_kept c1 hbW)
  have z4 := cell_regrown (Go.Proofs.Ytoadihclmnjjnaa.Sl.cell_kept cE hbW)
  clear hW d0 d1 c0 c1 cE
  refine wp_region_quiet_below (by kernel_rfl) (by kernel_rfl) ?_
  repeat (go_big_quiet_step (first | (go_at_call 46; with_reducible exact Calls.regrown_of (HP _ (below_regrown _ _ _))) | (go_at_call 46; with_reducible exact Calls.regrown_of (HQ _ (below_regrown _ _ _))) | (go_at_call 48; with_reducible exact Calls.regrown_of (HH _))))
  refine wpQuiet_nil ?_
  rintro w9 ⟨⟨dq, osq⟩, hw9⟩
  have hL9 : Below w.heap.size w w9 := bstep hbW (by rw [hw9]; exact below_regrown _ dq osq)
  clear hw9 z0 z1 z2 z3 z4
  go_wp2
  go_ret
  exact ⟨rfl, hL9⟩
end Go.Proofs.Ytoadihclmnjjnaa.Nw
