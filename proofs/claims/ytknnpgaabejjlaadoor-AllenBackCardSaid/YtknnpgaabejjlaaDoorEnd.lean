/-
  The walk of allen's place and ends: the places of the thirteen relations.
-/
import Derived.Test.YtknnpgaabejjlaaDoorTab
set_option linter.unusedSimpArgs false
set_option linter.unusedVariables false
namespace Go.Proofs.YtknnpgaabejjlaaDoor.Al
open Go Go.RowKit Go.Proofs.YtknnpgaabejjlaaDoor.Bt Go.Proofs.YtknnpgaabejjlaaDoor.Sl Go.Proofs.YtknnpgaabejjlaaDoor.Iv

def pl (x : Nat) : Nat := if x < 2 then 1 else if x = 2 then 2 else if x < 6 then 3 else if x = 6 then 4 else 5
theorem place_any (x : Nat) (hx : x < 100) (w : World) : Calls Tryd.prog 35 #[.int .i64 (x : Int)] w fun e w' => e = .returned (.int .i64 ((pl x : Nat) : Int)) ∧ w = w' := by
  unfold pl
  by_cases h1 : x < 2
  · have g1 : decide ((x : Int) < 2) = true := by simp; omega
    rw [if_pos h1]
    go_enter Tryd.func35, Tryd.ntmps35
    go_wp2
    go_ret
    exact ⟨rfl, rfl⟩
  rw [if_neg h1]
  have g1 : decide ((x : Int) < 2) = false := by simp; omega
  by_cases h2 : x = 2
  · subst h2
    go_enter Tryd.func35, Tryd.ntmps35
    go_wp2
    go_ret
    exact ⟨rfl, rfl⟩
  rw [if_neg h2]
  have g2 : ¬ (x : Int) = 2 := by omega
  by_cases h3 : x < 6
  · have g3 : decide ((x : Int) < 6) = true := by simp; omega
    rw [if_pos h3]
    go_enter Tryd.func35, Tryd.ntmps35
    go_wp2
    go_ret
    exact ⟨rfl, rfl⟩
  rw [if_neg h3]
  have g3 : decide ((x : Int) < 6) = false := by simp; omega
  by_cases h4 : x = 6
  · subst h4
    go_enter Tryd.func35, Tryd.ntmps35
    go_wp2
    go_ret
    exact ⟨rfl, rfl⟩
  rw [if_neg h4]
  have g4 : ¬ (x : Int) = 6 := by omega
  go_enter Tryd.func35, Tryd.ntmps35
  go_wp2
  go_ret
  exact ⟨rfl, rfl⟩

/-- The relation to the interval from 2 to 6. -/
def er (a b : Nat) : Nat := (ofZ (a : Int) (b : Int) 2 6).toNat
theorem er_all : ∀ a : Nat, a < 9 → ∀ b : Nat, b < 10 → a < b → ofZ (a : Int) (b : Int) 2 6 = ((er a b : Nat) : Int) ∧ er a b < 13 := of_decide_eq_true (by kernel_rfl)
theorem of_er (a b : Nat) (ha : a < 9) (hb : b < 10) (h : a < b) (w : World) : Calls Tryd.prog 34 #[.agg #[.int .i64 (a : Int), .int .i64 (b : Int)], .agg #[.int .i64 2, .int .i64 6]] w fun e w' => e = .returned (.int .i64 ((er a b : Nat) : Int)) ∧ Below w.heap.size w w' := by
  rw [← (er_all a ha b hb h).1]; exact of_any _ _ _ _ w
/-- The pairs that are laid ahead of a round. -/
def enL (k j : Nat) : List (Nat × Nat) := (List.range 9).flatMap fun a => (List.range 10).filterMap fun b => if a < b ∧ (a < k ∨ (a = k ∧ b < j)) then some (a, b) else none
theorem enL_step : ∀ k < 9, ∀ j < 10, k < j → enL k (j + 1) = enL k j ++ [(k, j)] := of_decide_eq_true (by kernel_rfl)
theorem enL_next : ∀ k < 9, enL k 10 = enL (k + 1) (k + 1 + 1) := of_decide_eq_true (by kernel_rfl)
theorem enL_zero : enL 0 1 = [] := by decide
def laid (l : List Nat) (p : Nat × Nat) : List Nat := (l.set (er p.1 p.2 * 2) (pl p.1)).set (er p.1 p.2 * 2 + 1) (pl p.2)
def enN (k j : Nat) : List Nat := (enL k j).foldl laid (List.replicate 26 0)
theorem enN_step (k j : Nat) (hk : k < 9) (hj : j < 10) (h : k < j) : enN k (j + 1) = laid (enN k j) (k, j) := by
  unfold enN; rw [enL_step k hk j hj h, List.foldl_append]; rfl
theorem enN_next (k : Nat) (hk : k < 9) : enN k 10 = enN (k + 1) (k + 1 + 1) := by unfold enN; rw [enL_next k hk]
/-- The places of the relations. -/
def endL : List Nat := [1, 1, 1, 2, 1, 3, 2, 3, 3, 3, 3, 4, 2, 4, 1, 4, 1, 5, 2, 5, 3, 5, 4, 5, 5, 5]
theorem enN_end : enN 9 10 = endL := by kernel_rfl
theorem laid_len (l : List Nat) (p : Nat × Nat) : (laid l p).length = l.length := by simp [laid]
theorem enN_len (k j : Nat) : (enN k j).length = 26 := by
  unfold enN
  suffices h : ∀ (q : List (Nat × Nat)) (l : List Nat), (q.foldl laid l).length = l.length by rw [h]; rfl
  intro q
  induction q with
  | nil => intro l; rfl
  | cons p q ih => intro l; rw [List.foldl_cons, ih, laid_len]
def nums (l : List Nat) : Array Value := (l.map fun x => Value.int .i64 ((x : Nat) : Int)).toArray
theorem nums_size (l : List Nat) : (nums l).size = l.length := by simp [nums]
theorem nums_set (l : List Nat) (i x : Nat) : (nums l).setIfInBounds i (.int .i64 ((x : Nat) : Int)) = nums (l.set i x) := by simp [nums]
theorem nums_one (l : List Nat) : (nums l).all (·.oneCell') = true := by
  rw [Array.all_eq_true_iff_forall_mem]
  intro x hx
  simp [nums] at hx
  obtain ⟨p, _, rfl⟩ := hx
  rfl
theorem nums_get (l : List Nat) (i : Nat) (h : i < l.length) : (nums l)[i]? = some (.int .i64 ((l.getD i 0 : Nat) : Int)) := by simp [nums, h]

/-- What stands while the loops run. -/
def EI (w : World) (l : List Nat) (W : World) : Prop :=
  W.heap[w.heap.size]? = some (.cells (nums (List.replicate 26 0)) 49 (0, 0)) ∧ W.heap[w.heap.size + 1]? = some (.cells (nums l) 49 (0, 0)) ∧
  W.cell? ⟨w.heap.size + 2, 0, none⟩ = some (.int .i64 2) ∧ W.cell? ⟨w.heap.size + 2, 1, none⟩ = some (.int .i64 6) ∧ Below w.heap.size w W ∧ w.heap.size + 3 ≤ W.heap.size
theorem EI.step {w W W' : World} {l : List Nat} (h : EI w l W) (hb : Below W.heap.size W W') : EI w l W' := by
  obtain ⟨h1, h2, h3, h4, h5, h6⟩ := h
  refine ⟨?_, ?_, Sl.cell_kept h3 hb, Sl.cell_kept h4 hb, Sl.bstep h5 hb, Nat.le_trans h6 hb.size⟩
  · rw [hb.block _ (by omega)]; exact h1
  · rw [hb.block _ (by omega)]; exact h2
theorem EI.store {w W : World} {l : List Nat} (h : EI w l W) (i x : Nat) : EI w (l.set i x) (W.setCell ⟨w.heap.size + 1, i, none⟩ (.int .i64 ((x : Nat) : Int))) := by
  obtain ⟨h1, h2, h3, h4, h5, h6⟩ := h
  refine ⟨?_, ?_, ?_, ?_, h5.setCell (by simp) _, by simpa using h6⟩
  · rw [heap_setCell_other _ _ _ _ (by simp)]; exact h1
  · rw [heap_setCell_same _ _ _ _ _ _ h2, nums_set]
  · rw [World.cell?_setCell_other (h := by intro e; injection e; omega)]; exact h3
  · rw [World.cell?_setCell_other (h := by intro e; injection e; omega)]; exact h4
theorem EI.cell {w W : World} {l : List Nat} (h : EI w l W) (p : Nat) (hp : p < l.length) : W.cell? ⟨w.heap.size + 1, p, none⟩ = some (.int .i64 ((l.getD p 0 : Nat) : Int)) := by
  rw [cell_of_row _ _ _ _ _ _ h.2.1]; exact nums_get _ _ hp
theorem EI.frozen {w W : World} {l : List Nat} (h : EI w l W) (p : Nat) : W.frozen? ⟨w.heap.size + 1, p, none⟩ = false := by
  simp [World.frozen?, h.2.1]

theorem EI.start (w : World) (z : Array Value) (hz : z = nums (List.replicate 26 0)) : EI w (enN 0 1) (((w.alloc (.cells z 49)).alloc (.cells z 49)).alloc (.cells #[.int .i64 2, .int .i64 6] 65)) := by
  subst hz
  have h1 := (Below.refl _ (w.alloc (.cells (nums (List.replicate 26 0)) 49))).alloc (Nat.le_refl _) (.cells (nums (List.replicate 26 0)) 49)
  have h2 := heap_alloc_new w (.cells (nums (List.replicate 26 0)) 49)
  have h3 := heap_alloc_new (w.alloc (.cells (nums (List.replicate 26 0)) 49)) (.cells (nums (List.replicate 26 0)) 49)
  have h4 : Below w.heap.size w ((w.alloc (.cells (nums (List.replicate 26 0)) 49)).alloc (.cells (nums (List.replicate 26 0)) 49)) := by go_grown
  have h5 : ((w.alloc (.cells (nums (List.replicate 26 0)) 49)).alloc (.cells (nums (List.replicate 26 0)) 49)).heap.size = w.heap.size + 2 := by simp
  have h6 := h1.block w.heap.size (by simp)
  generalize (w.alloc (.cells (nums (List.replicate 26 0)) 49)).alloc (.cells (nums (List.replicate 26 0)) 49) = W at *
  have h7 := (Below.refl _ W).alloc (Nat.le_refl _) (.cells #[.int .i64 2, .int .i64 6] 65)
  refine ⟨?_, ?_, ?_, ?_, Sl.bstep h4 h7, by simp; omega⟩
  · rw [h7.block _ (by omega), h6]; exact h2
  · rw [h7.block _ (by omega)]
    rw [World.size_alloc] at h3
    exact h3
  · rw [← h5]; simp
  · rw [← h5]; simp
theorem info_end : (Tryd.prog.info? 49).map (·.size) = some 26 := by kernel_rfl

set_option maxHeartbeats 800000 in
theorem ends_any (w : World) : Calls Tryd.prog 26 #[] w fun e w' => e = .returned (.agg (nums endL)) ∧ Below w.heap.size w w' := by
  go_enter Tryd.func26, Tryd.ntmps26
  go_wp2
  go_loopw [6] (fun i wr => ∃ k : Nat, k ≤ 9 ∧ i = .int .i64 k ∧ EI w (enN k (k + 1)) wr) (fun i _ => 9 - (intOf i).toNat)
  case atStart => exact ⟨0, by omega, rfl, EI.start w _ rfl⟩
  case round =>
    obtain ⟨wo, rfl⟩ : ∃ wo : World, wo = wr := ⟨_, rfl⟩
    obtain ⟨k, hk, rfl, hE⟩ := hrel
    by_cases hlt : k < 9
    · have h9 : decide ((k : Int) < 9) = true := by simp; omega
      go_wp2
      go_loopw [4] (fun i wr => ∃ j : Nat, k < j ∧ j ≤ 10 ∧ i = .int .i64 j ∧ EI w (enN k j) wr) (fun i _ => 10 - (intOf i).toNat)
      case atStart => exact ⟨k + 1, by omega, by omega, by go_num, hE⟩
      case round =>
        obtain ⟨wp, rfl⟩ : ∃ wp : World, wp = wr := ⟨_, rfl⟩
        obtain ⟨j, hj, hj10, rfl, hE2⟩ := hrel
        by_cases hlj : j < 10
        · have j9 : decide ((j : Int) ≤ 9) = true := by simp; omega
          have c2 := hE2.2.2.1
          have c3 := hE2.2.2.2.1
          have hB := hE2.2.2.2.2.2
          have e1 := (er_all k hlt j hlj hj).2
          have i1 : (0 : Int) ≤ ((er k j : Nat) : Int) := by omega
          have i2 : ((er k j : Nat) : Int) < 13 := by omega
          have HE := Lib.hid hE2
          clear hE2 hE
          go_wp2_with (first | (go_at_call 34; (with_reducible refine (of_er k j hlt hlj hj _).mono ?_); rintro e w2 ⟨rfl, hq⟩; have HE3 := HE.out.step hq; have c0 := HE3.cell (er k j * 2) (by rw [enN_len]; omega); have f0 := HE3.frozen (er k j * 2); have hS := HE3.store (er k j * 2) (pl k); have c1 := hS.cell (er k j * 2 + 1) (by rw [List.length_set, enN_len]; omega); have f1 := hS.frozen (er k j * 2 + 1); have HS := Lib.hid (hS.store (er k j * 2 + 1) (pl j)); clear hS HE3) | (go_at_call 35; first | ((with_reducible refine (place_any k (by omega) _).mono ?_); rintro e w3 ⟨rfl, rfl⟩) | ((with_reducible refine (place_any j (by omega) _).mono ?_); rintro e w3 ⟨rfl, rfl⟩)))
          have hs := enN_step k j hlt hlj hj
          go_roundw
          case rel => exact ⟨j + 1, by omega, by omega, by go_num, by rw [hs]; exact HS.out⟩
          case measure => simp [intOf]; omega
        · obtain rfl : j = 10 := by omega
          have HE := Lib.hid hE2
          clear hE2 hE
          have hs := enN_next k hlt
          go_wp2
          go_roundw
          case rel => exact ⟨k + 1, by omega, by go_num, by rw [← hs]; exact HE.out⟩
          case measure => simp [intOf]; omega
    · obtain rfl : k = 9 := by omega
      have HE := Lib.hid hE
      clear hE
      go_upto_region 11 with fail
      obtain ⟨h1, h2, h3, h4, h6, h7⟩ := HE.out
      rw [enN_end] at h2
      refine wp_region_lit ?_
      refine wpList_step fun K1 hK1 => ?_
      rw [if_pos (by rfl)]
      refine wp_load_row 49 (.tmp 1) rfl (w.heap.size + 1) rfl (nums endL) _ _ _ h2 Tryd.underlying49 rfl (by rw [nums_size]; exact info_end) ?_
      refine hK1 _ _ ?_
      refine wpList_step fun K2 hK2 => ?_
      rw [if_pos (by rfl)]
      refine wp_store_row 49 (.tmp 0) (.tmp 27) rfl w.heap.size (nums endL) rfl rfl (nums (List.replicate 26 0)) _ h1 (by rw [nums_size]; exact info_end) (by rw [nums_size, nums_size]; rfl) (nums_one _) ?_
      intro wz hz hbz
      refine hK2 _ _ ?_
      refine wpList_nil ?_
      have hld := run_loadVar_row wz w.heap.size 49 49 (nums endL) (0, 0) _ hz Tryd.underlying49 rfl (by rw [nums_size]; exact info_end)
      have hbw : Below w.heap.size w wz := h6.trans hbz
      go_wp2
      exact bodyPost_ret (results_cell1 Tryd.results26 rfl hld) rfl ⟨rfl, hbw⟩
end Go.Proofs.YtknnpgaabejjlaaDoor.Al
