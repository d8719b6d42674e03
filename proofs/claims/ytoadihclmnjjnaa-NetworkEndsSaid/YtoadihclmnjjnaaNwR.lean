/-
  Networks: slices.Repeat of one number (layer 46).
-/
import Derived.Test.YtoadihclmnjjnaaNwX
import Derived.Laws.CopyOwn
import Derived.Deep.RegionLaw
import Derived.Deep.RegionHeldLaw
set_option linter.unusedSimpArgs false
set_option linter.unusedVariables false
set_option maxRecDepth 100000
namespace Go.Proofs.Ytoadihclmnjjnaa.Nw
open Go Go.RowKit Go.ChangeShapes Go.WideShapes Go.Proofs.Ytoadihclmnjjnaa.Sl Go.Proofs.Ytoadihclmnjjnaa.Al Go.Lib

/-- A row of which the first k places are filled. -/
def fillC (u : Int) (k n : Nat) : List Value := List.replicate k (.int .i64 u) ++ List.replicate (n - k) (.int .i64 0)
theorem fillC_len (u : Int) (k n : Nat) (h : k ≤ n) : (fillC u k n).length = n := by simp [fillC]; omega
theorem fillC_splice (u : Int) (k m n : Nat) (h : k + m ≤ n) : splice (fillC u k n) k (List.replicate m (.int .i64 u)) = fillC u (k + m) n := by
  unfold splice fillC
  apply List.ext_getElem?
  intro i
  simp only [List.getElem?_append, List.getElem?_take, List.getElem?_drop, List.getElem?_replicate, List.length_append, List.length_take, List.length_replicate, List.length_drop]
  repeat' split
  all_goals first | rfl | omega | simp_all | (exfalso; omega)
theorem fillC_full (u : Int) (n : Nat) : fillC u n n = List.replicate n (.int .i64 u) := by simp [fillC]
theorem fillC_start (u : Int) (n : Nat) : (fillC u 0 n).toArray = Array.replicate n (.int .i64 0) := by simp [fillC]
theorem infoI1 : (Try.prog.info? 3).map (·.size) = some 1 := by kernel_rfl
set_option maxHeartbeats 4000000 in
theorem repeat_any (gx cx n : Nat) (u : Nat) (w : World) (hn : 0 < n) (hn2 : n ≤ 1000000) (hx : w.cell? ⟨gx, 0, none⟩ = some (.int .i64 ((u : Nat) : Int))) :
    Calls Try.prog 84 #[.slice (some ⟨gx, 0, none⟩) 1 cx, .int .i64 (n : Int)] w fun e w' => e = .returned (.slice (some ⟨w.heap.size, 0, none⟩) n n) ∧ Rw w' w.heap.size n (fun _ => u) ∧ Below w.heap.size w w' := by
  have HX := Lib.hid hx
  have HMK := fun W => mk_ints n hn2 W
  have hmul : ∀ W, Calls Try.prog 98 #[.int .u64 1, .int .u64 (n : Int)] W fun e w' => e = .returned (.tuple #[.int .u64 0, .int .u64 (n : Int)]) ∧ W = w' := fun W => by
    have := Try.bits_Mul 1 n (by omega) (by omega) W
    rw [Nat.one_mul, show n / 18446744073709551616 = 0 from Nat.div_eq_of_lt (by omega), show n % 18446744073709551616 = n from Nat.mod_eq_of_lt (by omega)] at this
    exact this.mono fun _ _ h => ⟨h.1, h.2.symm⟩
  have n0 : (0 : Int) ≤ (n : Int) := by omega
  have n1 : (n : Int) ≤ 1000000 := by omega
  go_enter Try.func84, Try.ntmps84
  go_upto_region 7 with (go_at_call 98; (with_reducible refine (hmul _).mono ?_); rintro e w1 ⟨rfl, rfl⟩)
  obtain ⟨W1, hW1⟩ : ∃ W1, w.alloc (.cells (Array.replicate n (.int .i64 0)) 3) = W1 := ⟨_, rfl⟩
  have hg1 : W1.heap[w.heap.size]? = some (.cells (fillC u 0 n).toArray 3 (0, 0)) := by rw [fillC_start, ← hW1]; exact heap_alloc_new w _
  have hb1 : Below w.heap.size w W1 := by rw [← hW1]; exact (Below.refl _ _).alloc (Nat.le_refl _) _
  have hx1 := Go.Proofs.Ytoadihclmnjjnaa.Sl.cell_kept HX.out hb1
  rw [hW1]
  clear hW1
  have hsrc : ∀ j v, [Value.int .i64 (u : Int)][j]? = some v → W1.cell? ((⟨gx, 0, none⟩ : Addr).add j) = some v := fun j v hv => by
    cases j with
    | zero => simp at hv; subst hv; simpa [Addr.add] using hx1
    | succ j => simp at hv
  refine wp_region_lit ?_
  refine wpList_step fun K1 hK1 => ?_
  rw [if_pos (by rfl)]
  go_simp
  refine hK1 _ _ ?_
  refine wpList_step fun K2 hK2 => ?_
  rw [if_pos (by rfl)]
  go_simp
  refine hK2 _ _ ?_
  clear hK1 hK2 K1 K2
  refine wpList_copy_splice rfl (.tmp 31) (.tmp 32) 25 25 rfl 3 Try.underlying25 infoI1 (some ⟨w.heap.size, 0, none⟩) (some ⟨gx, 0, none⟩) n n 1 cx rfl rfl w.heap.size 0 (fillC u 0 n) 3 hg1 [.int .i64 u] (Nat.min_eq_left hn).symm (fun _ => ⟨rfl, _, rfl, hsrc⟩) (by rw [fillC_len _ _ _ (Nat.zero_le _)]; simp; omega) (by intro v hv; simp at hv; subst hv; rfl) w.heap.size w hb1 (Nat.le_refl _) ?_
  intro W2 hg2 hb2
  go_wp2
  have hg3 : W2.heap[w.heap.size]? = some (.cells (fillC u 1 n).toArray 3 (0, 0)) := by
    have := hg2.out
    rw [show [Value.int .i64 (u : Int)] = List.replicate 1 (.int .i64 (u : Int)) from rfl, fillC_splice u 0 1 n (by omega), Nat.zero_add] at this
    exact this
  have HG3 := Lib.hid hg3
  clear hg3 hg2 hg1 hx1 hb1
  go_loopw [8] (fun v wr => ∃ k : Nat, 1 ≤ k ∧ k ≤ n ∧ v = .int .i64 (k : Int) ∧ Hid (wr.heap[w.heap.size]? = some (.cells (fillC u k n).toArray 3 (0, 0))) ∧ Below w.heap.size w wr) (fun v _ => n - (RowKit.intOf v).toNat)
  case atStart => exact ⟨1, Nat.le_refl _, by omega, rfl, Lib.hid HG3.out, hb2⟩
  case round =>
    obtain ⟨k, hk1, hk, rfl, hg, hb⟩ := hrel
    have k0 : (0 : Int) ≤ (k : Int) := by omega
    by_cases hkn : k < n
    · have k1 : (k : Int) < (n : Int) := by omega
      have k2 : (k : Int) ≤ (n : Int) := by omega
      have k3 : ¬ n = k := by omega
      obtain ⟨m, hm⟩ : ∃ m, m = Nat.min k (n - k) := ⟨_, rfl⟩
      have hm1 : m ≤ k := by rw [hm]; exact Nat.min_le_left _ _
      have hm2 : m ≤ n - k := by rw [hm]; exact Nat.min_le_right _ _
      have hm3 : 1 ≤ m := by rw [hm]; exact Nat.le_min.2 ⟨hk1, by omega⟩
      have hsrc2 : ∀ j v, (List.replicate m (Value.int .i64 (u : Int)))[j]? = some v → wr.drew.cell? ((⟨w.heap.size, 0, none⟩ : Addr).add j) = some v := fun j v hv => by
        have hj : j < m := by have := (List.getElem?_eq_some_iff.1 hv).1; simpa using this
        rw [List.getElem?_replicate, if_pos hj] at hv
        have hadd : (⟨w.heap.size, 0, none⟩ : Addr).add j = ⟨w.heap.size, j, none⟩ := by unfold Addr.add; split <;> simp_all
        rw [hadd, ← hv]
        show wr.cell? ⟨w.heap.size, j, none⟩ = _
        rw [cell_of_row _ _ j _ _ _ hg.out]
        simp [fillC, List.getElem?_append, show j < k by omega]
      have HS2 := Lib.hid hsrc2
      have HM := Lib.hid hm
      clear hsrc2 hm
      have hsub : IntKind.i64.wrap ((n : Int) - (k : Int)) = ((n - k : Nat) : Int) := by rw [IntKind.wrap_i64]; omega
      go_wp2
      refine wp_region_held_drew (S := fun _ => True) (by kernel_rfl) trivial (fun hHeld => ?_)
      (refine wpAnyH_take (i := 0) (v := ?tkv0_1) rfl (by kernel_rfl) (by kernel_rfl) (by kernel_rfl) (fun _ _ _ h => h) (Or.inl ⟨by rfl, ?tky0_1⟩) (by assumption) ?tkr0_1; case tky0_1 => (intro V hV; (try dsimp only at hV); go_simp; (try with_reducible rfl)); try simp only [Act.put, List.setIfInBounds_toArray, List.set_cons_zero, List.set_cons_succ])
      (refine wpAnyH_take (i := 1) (v := ?tkv1_2) rfl (by kernel_rfl) (by kernel_rfl) (by kernel_rfl) (fun _ _ _ h => h) (Or.inl ⟨by rfl, ?tky1_2⟩) (by assumption) ?tkr1_2; case tky1_2 => (intro V hV; (try dsimp only at hV); go_simp; (try with_reducible rfl)); try simp only [Act.put, List.setIfInBounds_toArray, List.set_cons_zero, List.set_cons_succ])
      (refine wpAnyH_take (i := 2) (v := ?tkv2_3) rfl (by kernel_rfl) (by kernel_rfl) (by kernel_rfl) (fun _ _ _ h => h) (Or.inl ⟨by rfl, ?tky2_3⟩) (by assumption) ?tkr2_3; case tky2_3 => (intro V hV; (try dsimp only at hV); go_simp; (try with_reducible rfl)); try simp only [Act.put, List.setIfInBounds_toArray, List.set_cons_zero, List.set_cons_succ])
      (refine wpAnyH_take (i := 3) (v := ?tkv3_4) rfl (by kernel_rfl) (by kernel_rfl) (by kernel_rfl) (fun _ _ _ h => h) (Or.inl ⟨by rfl, ?tky3_4⟩) (by assumption) ?tkr3_4; case tky3_4 => (intro V hV; (try dsimp only at hV); go_simp; (try with_reducible rfl)); try simp only [Act.put, List.setIfInBounds_toArray, List.set_cons_zero, List.set_cons_succ])
      (refine wpAnyH_take (i := 4) (v := ?tkv4_5) rfl (by kernel_rfl) (by kernel_rfl) (by kernel_rfl) (fun _ _ _ h => h) (Or.inl ⟨by rfl, ?tky4_5⟩) (by assumption) ?tkr4_5; case tky4_5 => (intro V hV; (try dsimp only at hV); go_simp; (try with_reducible rfl)); try simp only [Act.put, List.setIfInBounds_toArray, List.set_cons_zero, List.set_cons_succ])
      (refine wpAnyH_take (i := 5) (v := ?tkv5_6) rfl (by kernel_rfl) (by kernel_rfl) (by kernel_rfl) (fun _ _ _ h => h) (Or.inl ⟨by rfl, ?tky5_6⟩) (by assumption) ?tkr5_6; case tky5_6 => (intro V hV; (try dsimp only at hV); go_simp; (try with_reducible rfl)); try simp only [Act.put, List.setIfInBounds_toArray, List.set_cons_zero, List.set_cons_succ])
      (refine wpAnyH_take (i := 6) (v := ?tkv6_7) rfl (by kernel_rfl) (by kernel_rfl) (by kernel_rfl) (fun _ _ _ h => h) (Or.inl ⟨by rfl, ?tky6_7⟩) (by assumption) ?tkr6_7; case tky6_7 => (intro V hV; (try dsimp only at hV); go_simp; (try with_reducible rfl)); try simp only [Act.put, List.setIfInBounds_toArray, List.set_cons_zero, List.set_cons_succ])
      refine wpAnyH_ready (rs := [7]) (by kernel_rfl) (by simp) ?_
      refine AllReadyH.cons rfl (fun K hK => ?_) AllReadyH.nil
      refine step_copy_splice rfl (.tmp 41) (.tmp 44) 25 25 rfl 3 Try.underlying25 infoI1 (some ⟨w.heap.size, k, none⟩) (some ⟨w.heap.size, 0, none⟩) (n - k) (n - k) k n ?ha ?hb w.heap.size k (fillC u k n) 3 hg.out (List.replicate m (.int .i64 u)) (by rw [List.length_replicate]; exact HM.out) (fun _ => ⟨rfl, _, rfl, HS2.out⟩) (by rw [fillC_len _ _ _ hk, List.length_replicate]; omega) (by intro v hv; rw [List.eq_of_mem_replicate hv]; rfl) w.heap.size w hb.drew (Nat.le_refl _) ?_
      case ha => simp [Act.eval, Act.put]
      case hb => simp [Act.eval, Act.put]
      intro W4 hg4 hb4
      rw [fillC_splice u k m n (by omega)] at hg4
      rw [List.length_replicate]
      refine hK.out _ _ (by trivial) (fun hHeld => ?_)
      clear hK K
      try simp only [Act.put, List.setIfInBounds_toArray, List.set_cons_zero, List.set_cons_succ]
      have HG4 := Lib.hid hg4
      have hadd : IntKind.i64.wrap ((k : Int) + (m : Int)) = ((k + m : Nat) : Int) := by rw [IntKind.wrap_i64]; omega
      clear hg4
      (refine wpAnyH_ready (rs := [8]) (by kernel_rfl) (by simp) ?_; refine AllReadyH.cons rfl (fun K hK => ?_) AllReadyH.nil; (try go_simp); refine hK.out _ _ (by trivial) (fun hHeld => ?_); clear hK K; try simp only [Act.put, List.setIfInBounds_toArray, List.set_cons_zero, List.set_cons_succ])
      (refine wpAnyH_ready (rs := [9]) (by kernel_rfl) (by simp) ?_; refine AllReadyH.cons rfl (fun K hK => ?_) AllReadyH.nil; (try go_simp); refine hK.out _ _ (by trivial) (fun hHeld => ?_); clear hK K; try simp only [Act.put, List.setIfInBounds_toArray, List.set_cons_zero, List.set_cons_succ])
      refine wpAnyH_done (by kernel_rfl) ?_ _
      go_wp2
      go_roundw
      case rel => exact ⟨k + m, by omega, by omega, by go_num, HG4.out, hb4⟩
      case measure => simp [RowKit.intOf]; omega
    · obtain rfl : k = n := by omega
      have HG := Lib.hid hg.out
      clear hg
      go_wp2
      go_ret
      refine ⟨rfl, ⟨_, _, HG.out, fun j hj => ?_⟩, hb⟩
      rw [fillC_full]
      simp [hj]
end Go.Proofs.Ytoadihclmnjjnaa.Nw
