/-
  The walks of the reference of layer 11: IsSet, valid, has, place, Places, Of.
-/
import Derived.Test.YtoadihclmnjjnaaAwk
set_option linter.unusedSimpArgs false
set_option linter.unusedVariables false
namespace Go.Proofs.Ytoadihclmnjjnaa.Al
open Go Go.RowKit Go.Proofs.Ytoadihclmnjjnaa.Bt Go.Proofs.Ytoadihclmnjjnaa.Sl
open Go.Proofs.Ytoadihclmnjjnaa.Iv (of_any ofZ validB lineB sgn_bd sgn_cases tab sgn)

theorem rIsSet_any (s : Int) (w : World) : Calls Try.prog 56 #[.int .i64 s] w fun e w' => e = .returned (.bool (isSetB s)) ∧ w = w' := by
  have d : isSetB s = (decide (0 ≤ s) && decide (s ≤ 8191)) := rfl
  rw [d]; clear d
  by_cases h : 0 ≤ s
  · go_enter Try.func56, Try.ntmps56
    go_wp2
    go_ret
    exact ⟨by simp [h], rfl⟩
  · go_enter Try.func56, Try.ntmps56
    go_wp2
    go_ret
    exact ⟨by simp [Int.not_le.2 h], rfl⟩
theorem valid_iff (a b : Int) : validB a b = (decide (-4398046511104 ≤ a) && decide (b ≤ 4398046511104) && decide (a < b)) := by
  unfold validB lineB
  rw [Bool.eq_iff_iff]
  simp only [Bool.and_eq_true, decide_eq_true_eq]
  omega
theorem rhas_any (m r : Nat) (hm : m < 8192) (hr : r < 64) (w : World) : Calls Try.prog 90 #[.int .i64 (m : Int), .int .i64 (r : Int)] w fun e w' => e = .returned (.bool (m.testBit r)) ∧ w = w' := by
  have hbt := bit_test m r (by omega)
  go_enter Try.func90, Try.ntmps90
  go_wp2
  go_ret
  exact ⟨rfl, rfl⟩
def rpl (x b0 b1 : Int) : Nat := if x < b0 then 1 else if x = b0 then 2 else if x < b1 then 3 else if x = b1 then 4 else 5
theorem rplace_any (x b0 b1 : Int) (w : World) : Calls Try.prog 105 #[.int .i64 x, .agg #[.int .i64 b0, .int .i64 b1]] w fun e w' => e = .returned (.int .i64 ((rpl x b0 b1 : Nat) : Int)) ∧ Below w.heap.size w w' := by
  unfold rpl
  by_cases h1 : x < b0
  · rw [if_pos h1]
    go_enter Try.func105, Try.ntmps105
    go_wp2
    go_ret
    exact ⟨rfl, by go_grown⟩
  rw [if_neg h1]
  by_cases h2 : x = b0
  · subst h2
    rw [if_pos rfl]
    go_enter Try.func105, Try.ntmps105
    go_wp2
    go_ret
    exact ⟨rfl, by go_grown⟩
  rw [if_neg h2]
  by_cases h3 : x < b1
  · rw [if_pos h3]
    go_enter Try.func105, Try.ntmps105
    go_wp2
    go_ret
    exact ⟨rfl, by go_grown⟩
  rw [if_neg h3]
  by_cases h4 : x = b1
  · subst h4
    rw [if_pos rfl]
    go_enter Try.func105, Try.ntmps105
    go_wp2
    go_ret
    exact ⟨rfl, by go_grown⟩
  rw [if_neg h4]
  go_enter Try.func105, Try.ntmps105
  go_wp2
  go_ret
  exact ⟨rfl, by go_grown⟩

set_option maxHeartbeats 1000000 in
theorem rplaces_any (r : Nat) (hr : r < 13) (w : World) : Calls Try.prog 106 #[.int .i64 (r : Int)] w fun e w' => e = .returned (.tuple #[.int .i64 ((en r 0 : Nat) : Int), .int .i64 ((en r 1 : Nat) : Int)]) ∧ Below w.heap.size w w' := by
  have h1 : (0 : Int) ≤ (r : Int) := by omega
  have h2 : (r : Int) < 13 := by omega
  go_enter Try.func106, Try.ntmps106
  go_upto_region 3 with fail
  have r1 : Rowed (w.alloc (Obj.cells #[.int .i64 1, .int .i64 1, .int .i64 1, .int .i64 2, .int .i64 3, .int .i64 3, .int .i64 2, .int .i64 1, .int .i64 1, .int .i64 2, .int .i64 3, .int .i64 4, .int .i64 5] 3)) w.heap.size 3 [1, 1, 1, 2, 3, 3, 2, 1, 1, 2, 3, 4, 5] := heap_alloc_new w _
  have r2 : Rowed ((w.alloc (Obj.cells #[.int .i64 1, .int .i64 1, .int .i64 1, .int .i64 2, .int .i64 3, .int .i64 3, .int .i64 2, .int .i64 1, .int .i64 1, .int .i64 2, .int .i64 3, .int .i64 4, .int .i64 5] 3)).alloc (Obj.cells #[.int .i64 1, .int .i64 2, .int .i64 3, .int .i64 3, .int .i64 3, .int .i64 4, .int .i64 4, .int .i64 4, .int .i64 5, .int .i64 5, .int .i64 5, .int .i64 5, .int .i64 5] 3)) (w.heap.size + 1) 3 [1, 2, 3, 3, 3, 4, 4, 4, 5, 5, 5, 5, 5] := by
    have := heap_alloc_new (w.alloc (Obj.cells #[.int .i64 1, .int .i64 1, .int .i64 1, .int .i64 2, .int .i64 3, .int .i64 3, .int .i64 2, .int .i64 1, .int .i64 1, .int .i64 2, .int .i64 3, .int .i64 4, .int .i64 5] 3)) (Obj.cells #[.int .i64 1, .int .i64 2, .int .i64 3, .int .i64 3, .int .i64 3, .int .i64 4, .int .i64 4, .int .i64 4, .int .i64 5, .int .i64 5, .int .i64 5, .int .i64 5, .int .i64 5] 3)
    rw [World.size_alloc] at this
    exact this
  replace r1 := r1.step ((Below.refl _ _).alloc (Nat.le_refl _) (Obj.cells #[.int .i64 1, .int .i64 2, .int .i64 3, .int .i64 3, .int .i64 3, .int .i64 4, .int .i64 4, .int .i64 4, .int .i64 5, .int .i64 5, .int .i64 5, .int .i64 5, .int .i64 5] 3))
  have hB : Below w.heap.size w ((w.alloc (Obj.cells #[.int .i64 1, .int .i64 1, .int .i64 1, .int .i64 2, .int .i64 3, .int .i64 3, .int .i64 2, .int .i64 1, .int .i64 1, .int .i64 2, .int .i64 3, .int .i64 4, .int .i64 5] 3)).alloc (Obj.cells #[.int .i64 1, .int .i64 2, .int .i64 3, .int .i64 3, .int .i64 3, .int .i64 4, .int .i64 4, .int .i64 4, .int .i64 5, .int .i64 5, .int .i64 5, .int .i64 5, .int .i64 5] 3)) := by go_grown
  generalize (w.alloc (Obj.cells #[.int .i64 1, .int .i64 1, .int .i64 1, .int .i64 2, .int .i64 3, .int .i64 3, .int .i64 2, .int .i64 1, .int .i64 1, .int .i64 2, .int .i64 3, .int .i64 4, .int .i64 5] 3)).alloc (Obj.cells #[.int .i64 1, .int .i64 2, .int .i64 3, .int .i64 3, .int .i64 3, .int .i64 4, .int .i64 4, .int .i64 4, .int .i64 5, .int .i64 5, .int .i64 5, .int .i64 5, .int .i64 5] 3) = W at *
  have c1 := r1.cell r (by simpa using hr)
  have c2 := r2.cell r (by simpa using hr)
  have e1 : ∀ r < 13, [1, 1, 1, 2, 3, 3, 2, 1, 1, 2, 3, 4, 5].getD r 0 = en r 0 := by decide
  have e2 : ∀ r < 13, [1, 2, 3, 3, 3, 4, 4, 4, 5, 5, 5, 5, 5].getD r 0 = en r 1 := by decide
  rw [e1 r hr] at c1
  rw [e2 r hr] at c2
  clear e1 e2 r1 r2
  go_quiet (fail)
  go_wp2
  go_ret2
  exact ⟨rfl, bdrewN hB _⟩

theorem sgn_lt {a b : Int} (h : a < b) : sgn a b = -1 := by unfold sgn; rw [if_pos h]
theorem sgn_self (a : Int) : sgn a a = 0 := by unfold sgn; rw [if_neg (by omega), if_neg (by omega)]
theorem sgn_gt {a b : Int} (h : b < a) : sgn a b = 1 := by unfold sgn; rw [if_neg (by omega), if_pos h]
/-- The relation's places are those of the ends. -/
theorem of_places (a0 a1 b0 b1 : Int) (h1 : validB a0 a1 = true) (h2 : validB b0 b1 = true) : en (ofZ a0 a1 b0 b1).toNat 0 = rpl a0 b0 b1 ∧ en (ofZ a0 a1 b0 b1).toNat 1 = rpl a1 b0 b1 := by
  have v1 : a0 < a1 := by rw [valid_iff] at h1; simp at h1; omega
  have v2 : b0 < b1 := by rw [valid_iff] at h2; simp at h2; omega
  unfold ofZ
  rw [if_neg (by simp [h1, h2])]
  clear h1 h2
  unfold rpl
  rcases Int.lt_trichotomy a1 b0 with c | c | c
  · rw [sgn_lt c, if_pos (by omega), if_pos (by omega : a0 < b0), if_pos c]; decide
  · subst c; rw [sgn_self, if_pos (by omega), if_pos (by omega : a0 < a1), if_neg (by omega), if_pos rfl]; decide
  rw [sgn_gt c, if_neg (by omega)]
  rcases Int.lt_trichotomy a0 b1 with d | d | d
  · rw [sgn_lt d, if_neg (by omega)]
    rcases Int.lt_trichotomy a0 b0 with e | e | e
    · rw [sgn_lt e, if_pos e, if_neg (by omega : ¬ a1 < b0), if_neg (by omega : ¬ a1 = b0)]
      rcases Int.lt_trichotomy a1 b1 with f | f | f
      · rw [sgn_lt f, if_pos f]; decide
      · subst f; rw [sgn_self, if_neg (by omega), if_pos rfl]; decide
      · rw [sgn_gt f, if_neg (by omega), if_neg (by omega)]; decide
    · subst e; rw [sgn_self, if_neg (by omega : ¬ a0 < a0), if_pos rfl, if_neg (by omega : ¬ a1 < a0), if_neg (by omega : ¬ a1 = a0)]
      rcases Int.lt_trichotomy a1 b1 with f | f | f
      · rw [sgn_lt f, if_pos f]; decide
      · subst f; rw [sgn_self, if_neg (by omega), if_pos rfl]; decide
      · rw [sgn_gt f, if_neg (by omega), if_neg (by omega)]; decide
    · rw [sgn_gt e, if_neg (by omega : ¬ a0 < b0), if_neg (by omega : ¬ a0 = b0), if_pos d, if_neg (by omega : ¬ a1 < b0), if_neg (by omega : ¬ a1 = b0)]
      rcases Int.lt_trichotomy a1 b1 with f | f | f
      · rw [sgn_lt f, if_pos f]; decide
      · subst f; rw [sgn_self, if_neg (by omega), if_pos rfl]; decide
      · rw [sgn_gt f, if_neg (by omega), if_neg (by omega)]; decide
  · subst d; rw [sgn_self, if_pos (by omega), if_neg (by omega : ¬ a0 < b0), if_neg (by omega : ¬ a0 = b0), if_neg (by omega : ¬ a0 < a0), if_pos rfl, if_neg (by omega : ¬ a1 < b0), if_neg (by omega : ¬ a1 = b0), if_neg (by omega : ¬ a1 < a0), if_neg (by omega : ¬ a1 = a0)]; decide
  · rw [sgn_gt d, if_pos (by omega), if_neg (by omega : ¬ a0 < b0), if_neg (by omega : ¬ a0 = b0), if_neg (by omega : ¬ a0 < b1), if_neg (by omega : ¬ a0 = b1), if_neg (by omega : ¬ a1 < b0), if_neg (by omega : ¬ a1 = b0), if_neg (by omega : ¬ a1 < b1), if_neg (by omega : ¬ a1 = b1)]; decide
theorem en_inj : ∀ r < 13, ∀ q < 13, en r 0 = en q 0 → en r 1 = en q 1 → r = q := by decide

set_option maxHeartbeats 2000000 in
theorem rof_any (a0 a1 b0 b1 : Int) (h1 : validB a0 a1 = true) (h2 : validB b0 b1 = true) (w : World) : Calls Try.prog 101 #[.agg #[.int .i64 a0, .int .i64 a1], .agg #[.int .i64 b0, .int .i64 b1]] w fun e w' => e = .returned (.int .i64 (ofZ a0 a1 b0 b1)) ∧ Below w.heap.size w w' := by
  obtain ⟨p0, p1⟩ := of_places a0 a1 b0 b1 h1 h2
  obtain ⟨o0, o1⟩ := ofZ_bd a0 a1 b0 b1 h1 h2
  have hp0 := rplace_any a0 b0 b1
  have hp1 := rplace_any a1 b0 b1
  rw [← p0] at hp0
  rw [← p1] at hp1
  obtain ⟨r0, hr⟩ : ∃ r : Nat, ofZ a0 a1 b0 b1 = r := ⟨(ofZ a0 a1 b0 b1).toNat, by omega⟩
  rw [hr] at o0 o1 hp0 hp1
  rw [hr]
  simp only [Int.toNat_natCast] at hp0 hp1
  clear hr p0 p1
  go_enter Try.func101, Try.ntmps101
  go_upto_region 1 with fail
  obtain ⟨W, hW⟩ : ∃ W, W = (w.alloc (Obj.cells #[.int .i64 a0, .int .i64 a1] 48)).alloc (Obj.cells #[.int .i64 b0, .int .i64 b1] 48) := ⟨_, rfl⟩
  have hB : Below w.heap.size w W := by rw [hW]; go_grown
  have c0 : W.cell? ⟨w.heap.size, 0, none⟩ = some (.int .i64 a0) := by rw [hW]; simp
  have c1 : W.cell? ⟨w.heap.size, 1, none⟩ = some (.int .i64 a1) := by rw [hW]; simp
  have d0 : W.cell? ⟨w.heap.size + 1, 0, none⟩ = some (.int .i64 b0) := by rw [hW]; simp
  have d1 : W.cell? ⟨w.heap.size + 1, 1, none⟩ = some (.int .i64 b1) := by rw [hW]; simp
  rw [← hW]
  clear hW
  have k0 := cell_regrown c0
  have k1 := cell_regrown c1
  have k2 := cell_regrown d0
  have k3 := cell_regrown d1
  refine wp_region_quiet_below (by kernel_rfl) (by kernel_rfl) ?_
  repeat (go_big_quiet_step (first | (go_at_call 105; with_reducible exact Calls.regrown_of (hp0 _)) | (go_at_call 105; with_reducible exact Calls.regrown_of (hp1 _))))
  refine wpQuiet_nil ?_
  intro _ hw9
  obtain ⟨⟨dq, osq⟩, hw9⟩ := hw9
  subst hw9
  have hB2 := bstep hB (below_regrown W dq osq)
  clear k0 k1 k2 k3 c0 c1 d0 d1 hB hp0 hp1
  generalize Go.Sort.grow (redrawn W dq) osq = W2 at *
  go_wp2
  go_loopw [7] (fun i wr => ∃ r : Nat, r ≤ r0 ∧ i = .int .i64 r ∧ Below w.heap.size w wr) (fun i _ => 13 - (intOf i).toNat)
  case atStart => exact ⟨0, by omega, rfl, hB2⟩
  case round =>
    obtain ⟨wo, rfl⟩ : ∃ wo : World, wo = wr := ⟨_, rfl⟩
    obtain ⟨r, hr, rfl, hL⟩ := hrel
    have g1 : decide ((r : Int) ≤ 12) = true := by simp; omega
    by_cases he : r = r0
    · subst he
      go_wp2_with (go_at_call 106; (with_reducible refine (rplaces_any r (by omega) _).mono ?_); rintro e w1 ⟨rfl, hb⟩)
      go_ret
      exact ⟨rfl, bstep hL hb⟩
    · have hne : ¬ (en r 0 = en r0 0 ∧ en r 1 = en r0 1) := fun h => he (en_inj r (by omega) r0 (by omega) h.1 h.2)
      by_cases e0 : en r 0 = en r0 0
      · have e0' : (((en r 0 : Nat) : Int) == ((en r0 0 : Nat) : Int)) = true := by simp [e0]
        have e1' : (((en r 1 : Nat) : Int) == ((en r0 1 : Nat) : Int)) = false := by simp; omega
        go_wp2_with (go_at_call 106; (with_reducible refine (rplaces_any r (by omega) _).mono ?_); rintro e w1 ⟨rfl, hb⟩)
        go_roundw
        case rel => exact ⟨r + 1, by omega, by go_num, bstep hL hb⟩
        case measure => simp [intOf]; omega
      · have e0' : (((en r 0 : Nat) : Int) == ((en r0 0 : Nat) : Int)) = false := by simp; omega
        go_wp2_with (go_at_call 106; (with_reducible refine (rplaces_any r (by omega) _).mono ?_); rintro e w1 ⟨rfl, hb⟩)
        go_roundw
        case rel => exact ⟨r + 1, by omega, by go_num, bstep hL hb⟩
        case measure => simp [intOf]; omega
end Go.Proofs.Ytoadihclmnjjnaa.Al
