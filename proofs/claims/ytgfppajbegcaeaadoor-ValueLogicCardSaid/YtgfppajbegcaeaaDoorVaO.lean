/-
  The walks of layer 33's order of values, of the program civiltime.
-/
import Derived.Test.YtgfppajbegcaeaaDoorVa
import Derived.StillTailTactics
set_option linter.unusedSimpArgs false
set_option linter.unusedVariables false
namespace Go.Proofs.YtgfppajbegcaeaaDoor.Va
open Go.RowKit Go.ChangeShapes Go.WideShapes Go.Proofs.YtgfppajbegcaeaaDoor.Sl

theorem bytesLess_cmp : ∀ x y : List UInt8, Op.bytesLess x y = decide (cmpL x y < 0)
  | [], [] => rfl
  | [], _ :: _ => rfl
  | _ :: _, [] => rfl
  | a :: x, b :: y => by
    have ih := bytesLess_cmp x y
    show (decide (a < b) || (a == b && Op.bytesLess x y)) = decide (lexL cmpB (a :: x) (b :: y) < 0)
    rw [ih, lexL]
    by_cases h : a = b
    · subst h
      have e : cmpB a a = 0 := (cmpB_cmp.eq a a).2 rfl
      have hl : decide (a < a) = false := by simp
      rw [if_pos e, hl]
      simp [cmpL]
      rfl
    · have e : ¬ cmpB a b = 0 := fun e => h ((cmpB_cmp.eq a b).1 e)
      have hb : (a == b) = false := by simpa using h
      rw [if_neg e, hb, Bool.false_and, Bool.or_false]
      have : (a < b) ↔ cmpB a b < 0 := by
        rw [UInt8.lt_iff_toNat_lt]
        unfold cmpB cmpI
        split
        · omega
        · split
          · omega
          · omega
      by_cases h2 : a < b
      · simp [h2, this.1 h2]
      · have h3 : ¬ cmpB a b < 0 := fun h3 => h2 (this.2 h3)
        simp [h2, h3]
theorem nanS_any (a : ByteArray) (w : World) : Calls Tryd.prog 81 #[.string a] w fun e w' => e = .returned (.bool false) ∧ w = w' := by
  go_enter Tryd.func81, Tryd.ntmps81
  go_wp2
  go_ret
  exact ⟨rfl, rfl⟩
theorem cmpS_any (a b : ByteArray) (w : World) : Calls Tryd.prog 66 #[.string a, .string b] w fun e w' => e = .returned (.int .i64 (cmpL a.data.toList b.data.toList)) ∧ w' = w := by
  have e1 : Op.bytesLess a.toList b.toList = decide (cmpL a.data.toList b.data.toList < 0) := by rw [bytesLess_cmp, ByteArray.toList_eq, ByteArray.toList_eq]
  have e2 : Op.bytesLess b.toList a.toList = decide (0 < cmpL a.data.toList b.data.toList) := by
    rw [bytesLess_cmp, ByteArray.toList_eq, ByteArray.toList_eq, cmpL_cmp.anti a.data.toList b.data.toList]
    congr 1
    exact propext ⟨fun h => by omega, fun h => by omega⟩
  have e3 : (a.toList == b.toList) = decide (cmpL a.data.toList b.data.toList = 0) := by
    rw [ByteArray.toList_eq, ByteArray.toList_eq, Bool.eq_iff_iff, beq_iff_eq, decide_eq_true_eq, cmpL_cmp.eq]
  have h3 := cmpL_cmp.rng a.data.toList b.data.toList
  generalize cmpL a.data.toList b.data.toList = c at e1 e2 e3 h3
  rcases h3 with rfl | rfl | rfl
  all_goals
    have e1' := of_eq_true (show (Op.bytesLess a.toList b.toList = _) = True from eq_true e1)
    have e2' := of_eq_true (show (Op.bytesLess b.toList a.toList = _) = True from eq_true e2)
    have e3' := of_eq_true (show ((a.toList == b.toList) = _) = True from eq_true e3)
    simp only [Int.reduceNeg, Int.reduceLT, Int.reduceEq, decide_true, decide_false] at e1' e2' e3'
    clear e1 e2 e3
    go_enter Tryd.func66, Tryd.ntmps66
    go_wp2_with (go_at_call 81; ((with_reducible refine (nanS_any _ _).mono ?_); rintro e w1 ⟨rfl, rfl⟩))
    go_ret
    exact ⟨rfl, rfl⟩
theorem cmpI_any (a b : Int) (w : World) : Calls Tryd.prog 65 #[.int .i64 a, .int .i64 b] w fun e w' => e = .returned (.int .i64 (cmpI a b)) ∧ w' = w :=
  Tryd.cmp_Compare_int a b w
theorem or_any (g : Nat) (x y z : Int) (w : World) (h0 : w.cell? ⟨g, 0, none⟩ = some (.int .i64 x)) (h1 : w.cell? ⟨g, 1, none⟩ = some (.int .i64 y)) (h2 : w.cell? ⟨g, 2, none⟩ = some (.int .i64 z)) :
    Calls Tryd.prog 64 #[.slice (some ⟨g, 0, none⟩) 3 3] w fun e w' => e = .returned (.int .i64 (or3 x y z)) ∧ w = w' := by
  unfold or3
  by_cases hx : x = 0
  · subst hx
    by_cases hy : y = 0
    · subst hy
      by_cases hz : z = 0
      · subst hz
        go_enter Tryd.func64, Tryd.ntmps64
        go_wp2
        refine wp_loop_rounds 4 ?_
        rw [rounds_succ]
        go_wp2
        rw [rounds_succ]
        go_wp2
        rw [rounds_succ]
        go_wp2
        rw [rounds_succ]
        go_wp2
        go_ret
        exact ⟨rfl, rfl⟩
      · go_enter Tryd.func64, Tryd.ntmps64
        go_wp2
        refine wp_loop_rounds 4 ?_
        rw [rounds_succ]
        go_wp2
        rw [rounds_succ]
        go_wp2
        rw [rounds_succ]
        go_wp2
        go_ret
        exact ⟨rfl, rfl⟩
    · go_enter Tryd.func64, Tryd.ntmps64
      go_wp2
      refine wp_loop_rounds 4 ?_
      rw [rounds_succ]
      go_wp2
      rw [rounds_succ]
      go_wp2
      go_ret
      exact ⟨by simp [hy], rfl⟩
  · go_enter Tryd.func64, Tryd.ntmps64
    go_wp2
    refine wp_loop_rounds 4 ?_
    rw [rounds_succ]
    go_wp2
    go_ret
    exact ⟨by simp [hx], rfl⟩
theorem new_at (W : World) (cs : List Value) (t : TypeId) (B j : Nat) (u : Value) (hB : B = W.heap.size) (h : cs[j]? = some u) : (W.alloc (.cells cs.toArray t)).cell? ⟨B, j, none⟩ = some u := by
  subst hB
  have := cells_new W cs t j u h
  have hadd : (⟨W.heap.size, 0, none⟩ : Addr).add j = ⟨W.heap.size, j, none⟩ := by unfold Addr.add; split <;> simp_all
  rw [hadd] at this
  exact this
set_option maxRecDepth 20000 in
theorem order_any (a b : V3) (w : World) : Calls Tryd.prog 46 #[agV a.1 a.2.1 a.2.2, agV b.1 b.2.1 b.2.2] w fun e w' => e = .returned (.int .i64 (ordV a b)) ∧ Below w.heap.size w w' := by
  obtain ⟨k, n, s⟩ := a
  obtain ⟨k2, n2, s2⟩ := b
  show Calls Tryd.prog 46 #[agV k n s, agV k2 n2 s2] w fun e w' => e = .returned (.int .i64 (or3 (cmpI k k2) (cmpI n n2) (cmpL s.data.toList s2.data.toList))) ∧ Below w.heap.size w w'
  go_enter Tryd.func46, Tryd.ntmps46
  go_wp2
  refine wp_region_still_tail 15 (by kernel_rfl) (by kernel_rfl) ?_
  simp only [List.take_succ_cons, List.take_zero, List.drop_succ_cons, List.drop_zero]
  change wpStill _ _ (World.drew _) _ _ _
  repeat still_step
  repeat (first | (still_call (cmpI_any _ _ _); repeat still_step) | (still_call (cmpS_any _ _ _); repeat still_step))
  refine wpStill_nil ?_
  change wpList _ _ _ _ _ (World.drew _)
  go_wp2_with (fail)
  refine (or_any _ (cmpI k k2) (cmpI n n2) (cmpL s.data.toList s2.data.toList) _ ?_ ?_ ?_).mono ?_
  · exact new_at _ [.int .i64 (cmpI k k2), .int .i64 (cmpI n n2), .int .i64 (cmpL s.data.toList s2.data.toList)] _ _ 0 _ (by simp) rfl
  · exact new_at _ [.int .i64 (cmpI k k2), .int .i64 (cmpI n n2), .int .i64 (cmpL s.data.toList s2.data.toList)] _ _ 1 _ (by simp) rfl
  · exact new_at _ [.int .i64 (cmpI k k2), .int .i64 (cmpI n n2), .int .i64 (cmpL s.data.toList s2.data.toList)] _ _ 2 _ (by simp) rfl
  rintro e w1 ⟨rfl, rfl⟩
  go_wp2
  go_ret
  exact ⟨rfl, by go_grown⟩
end Go.Proofs.YtgfppajbegcaeaaDoor.Va
