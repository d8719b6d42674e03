/-
  The walk of allen's Compose: a loop over a set in a loop over a set.
-/
import Derived.Test.YtoadihclmnjjnaaPl2
import Derived.Test.YtoadihclmnjjnaaSnd
set_option linter.unusedSimpArgs false
set_option linter.unusedVariables false
set_option maxRecDepth 100000
namespace Go.Proofs.Ytoadihclmnjjnaa.Al
open Go Go.RowKit Go.Shelf Go.Proofs.Ytoadihclmnjjnaa.Bt Go.Proofs.Ytoadihclmnjjnaa.Sl Go.Proofs.Ytoadihclmnjjnaa.Lst
attribute [local go_sem] Oper.semAt_some

theorem compose_none (a b : Int) (w : World) (h : isSetB a = false ∨ (isSetB a = true ∧ isSetB b = false)) : Calls Try.prog 99 #[.int .i64 a, .int .i64 b] w fun e w' => e = .returned (.int .i64 (-1)) ∧ Below w.heap.size w w' := by
  rcases h with h | ⟨h1, h2⟩
  all_goals
    go_enter Try.func99, Try.ntmps99
    go_wp2_with (first | (go_at_call 78; ((with_reducible refine (isSet_any a _).mono ?_); rintro e w1 ⟨rfl, rfl⟩)) | (go_at_call 78; ((with_reducible refine (isSet_any b _).mono ?_); rintro e w1 ⟨rfl, rfl⟩)))
    go_ret
    exact ⟨rfl, by go_grown⟩

/-- A block holds the table. -/
def Tabled (W : World) (B : Nat) : Prop := W.heap[B]? = some (.cells (tabC (TS 3375)) 123 (0, 0))
theorem tabled_own {β : Type} (B : Nat) : Own (fun (_ : β) W => Tabled W B) := fun s X Y row hs hg hrow => by
  have hlt : B < X.heap.size := (Array.getElem?_eq_some_iff.1 hs).1
  exact (hg.block B hlt (fun e' => by obtain ⟨o, ho, hc⟩ := hrow B e'.symm; rw [show X.heap[B]? = _ from hs] at ho; cases ho; cases hc)).trans hs
theorem Tabled.cell {W : World} {B : Nat} (h : Tabled W B) (r s : Nat) (hr : r < 13) (hs : s < 13) : W.cell? ⟨B, r * 13 + s, none⟩ = some (.int .i64 ((bas r s : Nat) : Int)) := by
  rw [cell_of_row _ _ _ _ _ _ h]; exact tabC_get _ _ (by omega)
theorem Tabled.other {W : World} {B B' p : Nat} {u : Value} (h : Tabled W B) (hb : B ≠ B') : Tabled (W.setCell ⟨B', p, none⟩ u) B := by
  unfold Tabled at *
  rw [heap_setCell_other _ _ _ _ hb]; exact h
theorem Tabled.step {W W' : World} {B : Nat} (h : Tabled W B) (hb : Below W.heap.size W W') : Tabled W' B := by
  have hlt : B < W.heap.size := (Array.getElem?_eq_some_iff.1 h).1
  unfold Tabled at *
  rw [hb.block _ hlt]; exact h

theorem kb_own {β : Type} (B Bn : Nat) (t : TypeId) (W : World) : OwnFrom B (fun (_ : β) W' => Kb Bn t W W') := fun s X Y row hs hg hr v hv =>
  boxed_own Bn t (fun (_ : β) => v) s X Y row (hs v hv) hg (fun r e => (hr r e).2)

set_option maxRecDepth 100000 in
set_option maxHeartbeats 2000000 in
theorem compose_in (a b : Nat) (ha : a < 8192) (hb : b < 8192) (w : World) : CallsIn Fence.wide 20 Try.prog 99 #[.int .i64 (a : Int), .int .i64 (b : Int)] w fun e w' => e = .returned (.int .i64 ((cmp a b : Nat) : Int)) ∧ Below w.heap.size w w' := by
  have hwf : ∀ f, Fence.wide.fn f := fun _ => trivial
  have s1 : isSetB (a : Int) = true := by simp [isSetB]; omega
  have s2 : isSetB (b : Int) = true := by simp [isSetB]; omega
  obtain ⟨z47, s47⟩ := zero_of_info info_tab
  refine callsIn_of_wp_marks Try.func99 rfl trivial ?_ rfl
  simp only [Try.ntmps99, List.size_toArray, List.length_cons, List.length_nil, Nat.reduceAdd, Nat.reduceSub, Array.replicate_succ, Array.replicate_zero, List.push_toArray, List.append_toArray, List.nil_append, List.cons_append]
  refine wpIn_wide.2 ?_
  go_upto_region 3 with (first | (go_at_call 78; ((with_reducible refine (isSet_any (a : Int) _).mono ?_); rintro e w1 ⟨rfl, rfl⟩)) | (go_at_call 78; ((with_reducible refine (isSet_any (b : Int) _).mono ?_); rintro e w1 ⟨rfl, rfl⟩)))
  refine wp_region_lit ?_
  refine wpList_step fun K1 hK1 => ?_
  rw [if_pos (by rfl)]
  go_simp
  refine (table_any _).mono ?_
  rintro e w1 ⟨rfl, hb1⟩
  refine hK1 _ _ ?_
  refine wpList_step fun K2 hK2 => ?_
  rw [if_pos (by rfl)]
  go_simp
  refine hK2 _ _ ?_
  refine wpList_step fun K3 hK3 => ?_
  rw [if_pos (by rfl)]
  refine wp_store_row 123 (.tmp 5) (.tmp 17) rfl w1.heap.size (tabC (TS 3375)) rfl rfl (tabC 0) 123 (heap_alloc_new w1 _) (by rw [tabC_size]; exact s47) (by rw [tabC_size, tabC_size]) (tabC_one _) ?_
  intro wz hz hbz
  refine hK3 _ _ ?_
  refine wpList_nil ?_
  have hN : w.heap.size + 1 ≤ w1.heap.size := by have := hb1.size; simpa using this
  have bB0 : Boxed w1 w.heap.size 3 (.int .i64 (b : Int)) := (hb1.block _ (by simp)).trans (heap_alloc_new w _)
  have hB0 : Below w.heap.size w wz := Below.trans (b := w1.alloc _) ((Sl.bstep (by go_grown) hb1).alloc (show w.heap.size ≤ w1.heap.size by omega) _) (hbz.mono (by omega))
  have hsz : w1.heap.size + 1 ≤ wz.heap.size := by have := hbz.size; simpa using this
  have bB1 : Boxed wz w.heap.size 3 (.int .i64 (b : Int)) := (hbz.block _ (by omega)).trans (bB0.alloc _)
  clear hbz hb1 bB0
  generalize w1.heap.size = N at *
  clear hK1 hK2 hK3 K1 K2 K3
  go_wp2_with (go_at_call 79; refine (each_any _ _).mono ?_; rintro e w' ⟨rfl, rfl⟩)
  have hT : Tabled wz N := hz
  have bS := (Boxed.new wz 3 (.int .i64 0)).alloc (.cells #[.int .i64 (a : Int)] 3)
  have bA := Boxed.new (wz.alloc (.cells #[.int .i64 0] 3)) 3 (.int .i64 (a : Int))
  simp only [World.size_alloc] at bA
  have bB := (bB1.alloc (.cells #[.int .i64 0] 3)).alloc (.cells #[.int .i64 (a : Int)] 3)
  have hT0 : Tabled ((wz.alloc (.cells #[.int .i64 0] 3)).alloc (.cells #[.int .i64 (a : Int)] 3)) N := hT.step (((Below.refl _ _).alloc (Nat.le_refl _) _).alloc (by simp) _)
  have hB2 : Below w.heap.size w ((wz.alloc (.cells #[.int .i64 0] 3)).alloc (.cells #[.int .i64 (a : Int)] 3)) := (hB0.alloc (by omega) _).alloc (by simp; omega) _
  have hsz2 : ((wz.alloc (.cells #[.int .i64 0] 3)).alloc (.cells #[.int .i64 (a : Int)] 3)).heap.size = wz.heap.size + 2 := by simp
  obtain ⟨W0, hW0⟩ : ∃ W0, (wz.alloc (.cells #[.int .i64 0] 3)).alloc (.cells #[.int .i64 (a : Int)] 3) = W0 := ⟨_, rfl⟩
  rw [hW0] at bS bA bB hT0 hB2 hsz2 ⊢
  clear hW0 hz hT
  refine (wpIn_wide (n := 20)).1 ?_
  refine wpIn_rangeFunc_ownH rfl (by omega) (gf := 96) (lb := #[.pointer (some ⟨wz.heap.size + 1, 0, none⟩)]) rfl trivial (enters_of Try.func96 (by kernel_rfl) rfl)
    (each_stops (20 - 1) (by omega) (wz.heap.size + 1) a ha W0 bA) kb_t kb_b (Below.refl _ _) (fun _ => rfl)
    (fun pre W => (Boxed W wz.heap.size 3 (.int .i64 ((cA pre b : Nat) : Int)) ∧ Boxed W w.heap.size 3 (.int .i64 (b : Int)) ∧ Tabled W N) ∧ Below w.heap.size w W ∧ wz.heap.size + 2 ≤ W.heap.size)
    (fun _ _ _ => False)
    (OwnFrom.and (OwnFrom.and (Own.from (boxed_own _ _ _) _) (OwnFrom.and (Own.from (boxed_own _ _ _) _) (Own.from (tabled_own _) _))) (OwnFrom.and (ownFrom_below (Nat.le_refl _) (by omega)) (fun _ W W' row hs hg hr => Nat.le_trans hs hg.size)))
    (fun _ _ _ _ _ hs _ _ => hs)
    ⟨⟨bS, bB, hT0⟩, hB2, by omega⟩
    (fun x a' W => ∃ Bx, wz.heap.size + 1 < Bx ∧ Boxed W Bx 3 (.int .i64 (x.val : Int)) ∧ a' = { tmps := #[.int .i64 (a : Int), .int .i64 (b : Int), undef, .pointer (some ⟨w.heap.size, 0, none⟩), .int .i64 0, .pointer (some ⟨N, 0, none⟩), .pointer (some ⟨wz.heap.size, 0, none⟩), .pointer (some ⟨Bx, 0, none⟩), undef, .int .i64 (a : Int), .bool true, .bool false, .bool false, .int .i64 (b : Int), .bool true, .bool false, .bool false, .agg (tabC (TS 3375)), .int .i64 (a : Int), .func (.func 96) #[] #[.pointer (some ⟨wz.heap.size + 1, 0, none⟩)], .int .i64 (x.val : Int), undef, undef, undef, undef, undef, undef, undef, undef, undef, undef, undef], defers := [] })
    (fun x a' _ X Y row hs hg hr => by obtain ⟨Bx, h1, h2, h3⟩ := hs; exact ⟨Bx, h1, boxed_own Bx 3 (fun (_ : Unit) => Value.int .i64 (x.val : Int)) () X Y row h2 hg (fun r e => (hr r e).2), h3⟩)
    ?assign ?body ?done ?stop
  case assign =>
    rintro l pre x W K ⟨⟨bS1, bB1, hT1⟩, hB1, hs1⟩ hK
    gi_wp2
    have hbw : Below W.heap.size W (W.alloc (.cells #[.int .i64 (x.val : Int)] 3)) := (Below.refl _ _).alloc (Nat.le_refl _) _
    exact hK _ _ ((KeepsOthers.alloc _ _).from _) (fun v hv => hv.alloc _) ⟨⟨bS1.alloc _, bB1.alloc _, hT1.step hbw⟩, hB1.alloc hB1.size _, by simp; omega⟩ ⟨W.heap.size, (by omega), Boxed.new W 3 _, rfl⟩
  case body =>
    rintro l pre x a' W hl ⟨r, hr⟩ ⟨⟨bS1, bB1, hT1⟩, hB1, hs1⟩ ⟨Bx, hBx, bX, rfl⟩ hlt
    have cB := bB1.cell
    have h1' : 1 ≤ 20 - 1 - 1 := by omega
    gi_wp2_with (gi_at_call 79; refine (CallsIn.inRound l (callsIn_wide.2 (each_any _ _))).mono ?_; rintro e w' ⟨rfl, rfl⟩)
    have hsW := hB1.size
    have bN := Boxed.new W 3 (.int .i64 (b : Int))
    have hr' : (W.alloc (.cells #[.int .i64 (b : Int)] 3)).heap[l]? = some (.loop r) := (Below.heap_alloc W _ l (Array.getElem?_eq_some_iff.1 hr).1).trans hr
    refine wpIn_rangeFunc_ownN (l₀ := l) (r₀ := r) rfl hr' h1' (gf := 96) (lb := #[.pointer (some ⟨W.heap.size, 0, none⟩)]) rfl trivial (enters_of Try.func96 (by kernel_rfl) rfl)
      ((each_stops (20 - 1 - 1 - 1) (by omega) W.heap.size b hb _ bN).inRound l) kb_t kb_b (Below.refl _ _) (fun _ => rfl)
      (fun pre' W' => (Boxed W' wz.heap.size 3 (.int .i64 ((cI (cA pre b) x pre' : Nat) : Int)) ∧ Boxed W' Bx 3 (.int .i64 (x.val : Int)) ∧ Boxed W' w.heap.size 3 (.int .i64 (b : Int)) ∧ Tabled W' N) ∧ (Below w.heap.size W W' ∧ KeepsFrom W0.heap.size W W' ∧ Kb (wz.heap.size + 1) 3 W W'))
      (fun _ _ _ => False)
      (OwnFrom.and (OwnFrom.and (Own.from (boxed_own _ _ _) _) (OwnFrom.and (Own.from (boxed_own _ _ _) _) (OwnFrom.and (Own.from (boxed_own _ _ _) _) (Own.from (tabled_own _) _)))) (OwnFrom.and (ownFrom_below hsW (by simp; omega)) (OwnFrom.and (ownFrom_keepsFrom (by simp)) (kb_own _ _ _ _))))
      (fun _ _ _ _ _ hs _ _ => hs)
      ⟨⟨bS1.alloc _, bX.alloc _, bB1.alloc _, hT1.step ((Below.refl _ _).alloc (Nat.le_refl _) _)⟩, (Below.refl _ W).alloc hsW _, (KeepsOthers.alloc _ _).from _, fun v hv => hv.alloc _⟩
      (fun y a'' _ => a'' = { tmps := #[.int .i64 (a : Int), .int .i64 (b : Int), undef, .pointer (some ⟨w.heap.size, 0, none⟩), .int .i64 0, .pointer (some ⟨N, 0, none⟩), .pointer (some ⟨wz.heap.size, 0, none⟩), .pointer (some ⟨Bx, 0, none⟩), .int .i64 (y.val : Int), .int .i64 (a : Int), .bool true, .bool false, .bool false, .int .i64 (b : Int), .bool true, .bool false, .bool false, .agg (tabC (TS 3375)), .int .i64 (a : Int), .func (.func 96) #[] #[.pointer (some ⟨wz.heap.size + 1, 0, none⟩)], .int .i64 (x.val : Int), .int .i64 (b : Int), .func (.func 96) #[] #[.pointer (some ⟨W.heap.size, 0, none⟩)], .int .i64 (y.val : Int), undef, undef, undef, undef, undef, undef, undef, undef], defers := [] })
      (fun _ _ _ _ _ _ hs _ _ => hs)
      ?assign2 ?body2 ?done2 ?stop2
    case assign2 =>
      rintro l2 pre' y W' K hi hK
      gi_wp2
      exact hK _ _ (KeepsFrom.refl _ _) (fun v hv => hv) hi rfl
    case body2 =>
      rintro l2 pre' y a'' W' _ _ ⟨⟨bS2, bX2, bB2, hT2⟩, hBW, hKF, hKb⟩ rfl _
      have hx0 : (0 : Int) ≤ (x.val : Int) := by omega
      have hx1 : (x.val : Int) < 13 := by have := x.isLt; omega
      have hy0 : (0 : Int) ≤ (y.val : Int) := by omega
      have hy1 : (y.val : Int) < 13 := by have := y.isLt; omega
      have hor : bits .or .i64 ((cI (cA pre b) x pre' : Nat) : Int) ((bas x.val y.val : Nat) : Int) = ((cI (cA pre b) x (pre' ++ [y]) : Nat) : Int) := by
        rw [bits_or _ _ (by have := cI_lt x pre' _ (cA_lt b pre); omega) (by have := bas_lt x.val y.val; omega), cI_snoc]
      gi_wp2
      refine wpIn_region_round (by kernel_rfl) (by kernel_rfl) ?_
      refine wpAny_held_last (fun V => V.cell? ⟨wz.heap.size, 0, none⟩ = some (.int .i64 ((cI (cA pre b) x pre' : Nat) : Int)) ∧ V.cell? ⟨Bx, 0, none⟩ = some (.int .i64 (x.val : Int)) ∧ V.cell? ⟨N, x.val * 13 + y.val, none⟩ = some (.int .i64 ((bas x.val y.val : Nat) : Int))) _ (List.take_append_drop 7 _).symm (by kernel_rfl) ?_
      have hS : ({ W' with drawn := W'.drawn + 1 } : World).cell? ⟨wz.heap.size, 0, none⟩ = some (.int .i64 ((cI (cA pre b) x pre' : Nat) : Int)) ∧ ({ W' with drawn := W'.drawn + 1 } : World).cell? ⟨Bx, 0, none⟩ = some (.int .i64 (x.val : Int)) ∧ ({ W' with drawn := W'.drawn + 1 } : World).cell? ⟨N, x.val * 13 + y.val, none⟩ = some (.int .i64 ((bas x.val y.val : Nat) : Int)) := ⟨bS2.cell, bX2.cell, hT2.cell x.val y.val x.isLt y.isLt⟩
      simp only [List.take_succ_cons, List.take_zero]
      refine wpAnyH_take (i := 0) (v := ?tkv0) rfl (by kernel_rfl) (by kernel_rfl) (by kernel_rfl) (fun _ _ _ h => (by cases h.1)) (Or.inl ⟨by rfl, ?tky0⟩) hS ?tkr0
      case tky0 => intro V hV; obtain ⟨t1, t2, t3⟩ := hV; go_simp; with_reducible rfl
      simp only [Act.put, List.setIfInBounds_toArray, List.set_cons_zero, List.set_cons_succ]
      refine wpAnyH_take (i := 1) (v := ?tkv1) rfl (by kernel_rfl) (by kernel_rfl) (by kernel_rfl) (fun _ _ _ h => (by cases h.1)) (Or.inl ⟨by rfl, ?tky1⟩) hS ?tkr1
      case tky1 => intro V hV; obtain ⟨t1, t2, t3⟩ := hV; go_simp; with_reducible rfl
      simp only [Act.put, List.setIfInBounds_toArray, List.set_cons_zero, List.set_cons_succ]
      refine wpAnyH_take (i := 2) (v := ?tkv2) rfl (by kernel_rfl) (by kernel_rfl) (by kernel_rfl) (fun _ _ _ h => (by cases h.1)) (Or.inl ⟨by rfl, ?tky2⟩) hS ?tkr2
      case tky2 => intro V hV; obtain ⟨t1, t2, t3⟩ := hV; go_simp; with_reducible rfl
      simp only [Act.put, List.setIfInBounds_toArray, List.set_cons_zero, List.set_cons_succ]
      refine wpAnyH_take (i := 3) (v := ?tkv3) rfl (by kernel_rfl) (by kernel_rfl) (by kernel_rfl) (fun _ _ _ h => (by cases h.1)) (Or.inl ⟨by rfl, ?tky3⟩) hS ?tkr3
      case tky3 => intro V hV; obtain ⟨t1, t2, t3⟩ := hV; go_simp; with_reducible rfl
      simp only [Act.put, List.setIfInBounds_toArray, List.set_cons_zero, List.set_cons_succ]
      refine wpAnyH_take (i := 4) (v := ?tkv4) rfl (by kernel_rfl) (by kernel_rfl) (by kernel_rfl) (fun _ _ _ h => (by cases h.1)) (Or.inl ⟨by rfl, ?tky4⟩) hS ?tkr4
      case tky4 => intro V hV; obtain ⟨t1, t2, t3⟩ := hV; go_simp; with_reducible rfl
      simp only [Act.put, List.setIfInBounds_toArray, List.set_cons_zero, List.set_cons_succ]
      refine wpAnyH_take (i := 5) (v := ?tkv5) rfl (by kernel_rfl) (by kernel_rfl) (by kernel_rfl) (fun _ _ _ h => (by cases h.1)) (Or.inl ⟨by rfl, ?tky5⟩) hS ?tkr5
      case tky5 => intro V hV; obtain ⟨t1, t2, t3⟩ := hV; go_simp; with_reducible rfl
      simp only [Act.put, List.setIfInBounds_toArray, List.set_cons_zero, List.set_cons_succ]
      refine wpAnyH_take (i := 6) (v := ?tkv6) rfl (by kernel_rfl) (by kernel_rfl) (by kernel_rfl) (fun _ _ _ h => (by cases h.1)) (Or.inl ⟨by rfl, ?tky6⟩) hS ?tkr6
      case tky6 => intro V hV; obtain ⟨t1, t2, t3⟩ := hV; go_simp; with_reducible rfl
      simp only [Act.put, List.setIfInBounds_toArray, List.set_cons_zero, List.set_cons_succ]
      refine wpAnyH_done (by kernel_rfl) ?_ _
      refine thenLast_of (by rfl) ?_
      have cS := bS2.cell
      have fS := bS2.frozen
      go_simp
      refine ⟨rfl, ?_⟩
      have r1 : KeepsOthers W' (W'.setCell ⟨wz.heap.size, 0, none⟩ (.int .i64 ((cI (cA pre b) x (pre' ++ [y]) : Nat) : Int))) := KeepsOthers.setCell _ _ _
      have r2 := hBW.setCell (p := (⟨wz.heap.size, 0, none⟩ : Addr)) (show w.heap.size ≤ wz.heap.size by omega) (.int .i64 ((cI (cA pre b) x (pre' ++ [y]) : Nat) : Int))
      have r3 := hKF.trans (r1.from W0.heap.size)
      exact ⟨⟨r1.size, fun k o _ hk ho => r1.same k o hk ho⟩, fun v hv => Boxed.other hv (by omega) _, ⟨bS2.set _, bX2.other (by omega) _, bB2.other (by omega) _, hT2.other (by omega)⟩, r2.drew, ⟨r3.size, r3.same⟩, fun v hv => (hKb v hv).other (by omega) _⟩
    case done2 =>
      rintro ys' W' rfl ⟨⟨bS2, bX2, bB2, hT2⟩, hBW, hKF, hKb⟩
      gi_wp2
      exact ⟨hKF, hKb, ⟨by rw [cA_snoc]; exact bS2, bB2, hT2⟩, hB1.trans hBW, Nat.le_trans hs1 hBW.size⟩
    case stop2 =>
      rintro c pre' W' _ h
      exact h.elim
  case done =>
    rintro D zs W hD rfl ⟨⟨bS1, bB1, hT1⟩, hB1, hs1⟩ hK
    have cS := bS1.cell
    have HK := Lib.hid hK
    rw [cA_all] at cS
    go_wp2
    refine ⟨by simp, .inl ⟨_, _, rfl, run_takeDeferred HK.out, ?_⟩⟩
    exact ⟨_, results_tmp rfl _ _ _, rfl, hB1.trans (belowK_b (w := w) (Nat.le_refl _) W D _ _ (by omega) HK.out rfl rfl)⟩
  case stop =>
    rintro D c pre W _ _ h _
    exact h.elim
theorem compose_set (a b : Nat) (ha : a < 8192) (hb : b < 8192) (w : World) : Calls Try.prog 99 #[.int .i64 (a : Int), .int .i64 (b : Int)] w fun e w' => e = .returned (.int .i64 ((cmp a b : Nat) : Int)) ∧ Below w.heap.size w w' := callsIn_wide.1 (compose_in a b ha hb w)
theorem compose_any (a b : Int) (w : World) : Calls Try.prog 99 #[.int .i64 a, .int .i64 b] w fun e w' => e = .returned (.int .i64 (cmpB a b)) ∧ Below w.heap.size w w' := by
  unfold cmpB
  cases h1 : isSetB a
  · exact compose_none a b w (.inl h1)
  cases h2 : isSetB b
  · exact compose_none a b w (.inr ⟨h1, h2⟩)
  obtain ⟨x, rfl⟩ : ∃ x : Nat, a = x := ⟨a.toNat, by simp [isSetB] at h1; omega⟩
  obtain ⟨y, rfl⟩ : ∃ y : Nat, b = y := ⟨b.toNat, by simp [isSetB] at h2; omega⟩
  exact compose_set x y (by simp [isSetB] at h1; omega) (by simp [isSetB] at h2; omega) w
def invB (a : Int) : Int := if isSetB a then ((invN a.toNat : Nat) : Int) else -1
theorem invs_any (a : Int) (w : World) : Calls Try.prog 86 #[.int .i64 a] w fun e w' => e = .returned (.int .i64 (invB a)) ∧ Below w.heap.size w w' := by
  unfold invB
  cases h1 : isSetB a
  · exact inverse_none a w h1
  obtain ⟨x, rfl⟩ : ∃ x : Nat, a = x := ⟨a.toNat, by simp [isSetB] at h1; omega⟩
  exact inverse_any x (by simp [isSetB] at h1; omega) w
end Go.Proofs.Ytoadihclmnjjnaa.Al
