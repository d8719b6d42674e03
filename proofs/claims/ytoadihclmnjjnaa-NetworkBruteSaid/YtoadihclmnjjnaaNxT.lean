/-
  The walk of the law NetworkBrute (layer 46). Written by gen_nxt.py.
-/
import Derived.Test.YtoadihclmnjjnaaNxS
import Derived.Test.YtoadihclmnjjnaaNwZ
import Derived.Laws.EntriesVeiled
set_option linter.unusedSimpArgs false
set_option linter.unusedVariables false
set_option maxRecDepth 100000
namespace Go.Proofs.Ytoadihclmnjjnaa.Nw
open Go Go.RowKit Go.ChangeShapes Go.WideShapes Go.Shelf Go.Proofs.Ytoadihclmnjjnaa.Sl Go.Proofs.Ytoadihclmnjjnaa.Al Go.Lib
open Go.Proofs.Ytoadihclmnjjnaa.Iv (validB ofZ)

theorem mk_spans (n : Nat) (h0 : 0 < n) (hn : n ≤ 3) (w : World) : (Instr.makeSlice 46 (.int .i64 (n : Int)) (.int .i64 (n : Int))).run Try.prog w = .ok (.slice (some ⟨w.heap.size, 0, none⟩) n n) (w.alloc (.cells (cellsP (List.replicate n (0, 0))).toArray 48)) := by
  obtain ⟨i0, hi, hz0, hz1, hz2⟩ := info_parts info_span
  have h := run_make (P := Try.prog) w 46 48 i0 (.agg #[.int .i64 0, .int .i64 0]) Try.underlying46 hi hz0 .i64 .i64 n n (by omega) (Int.le_refl _) (by rw [hz2]; omega) (by omega)
  rw [Int.toNat_natCast, hz1] at h
  rw [h]
  congr 2
  rcases (show n = 1 ∨ n = 2 ∨ n = 3 by omega) with rfl | rfl | rfl <;> kernel_rfl
theorem box_step {w W : World} {v : Value} {t : TypeId} (h : w.alloc (.cells #[v] t) = W) : Below w.heap.size w W ∧ Boxed W w.heap.size t v ∧ W.heap.size = w.heap.size + 1 := by
  subst h
  exact ⟨(Below.refl _ _).alloc (Nat.le_refl _) _, Boxed.new w t v, by simp⟩
theorem four (w : World) (a b c d : Value) (ta tb tc td : TypeId) : ∀ W, W = (((w.alloc (.cells #[a] ta)).alloc (.cells #[b] tb)).alloc (.cells #[c] tc)).alloc (.cells #[d] td) →
    Below w.heap.size w W ∧ W.cell? ⟨w.heap.size, 0, none⟩ = some a ∧ W.cell? ⟨w.heap.size + 1, 0, none⟩ = some b ∧ W.cell? ⟨w.heap.size + 1 + 1, 0, none⟩ = some c ∧ W.cell? ⟨w.heap.size + 1 + 1 + 1, 0, none⟩ = some d := by
  rintro W rfl
  refine ⟨((((Below.refl _ _).alloc (Nat.le_refl _) _).alloc (by simp) _).alloc (by simp; omega) _).alloc (by simp; omega) _, ?_, ?_, ?_, ?_⟩
  · exact (((Boxed.new w ta a).alloc _).alloc _).alloc _ |>.cell
  · have := (((Boxed.new (w.alloc (.cells #[a] ta)) tb b).alloc (.cells #[c] tc)).alloc (.cells #[d] td)).cell
    simpa using this
  · have := ((Boxed.new ((w.alloc (.cells #[a] ta)).alloc (.cells #[b] tb)) tc c).alloc (.cells #[d] td)).cell
    simpa using this
  · have := (Boxed.new (((w.alloc (.cells #[a] ta)).alloc (.cells #[b] tb)).alloc (.cells #[c] tc)) td d).cell
    simpa using this
set_option maxHeartbeats 8000000 in
theorem networkBrute_walk (n : Int) (v : Value) (l : List Rl) (i j : Int) (w : World) (hn : (Lit.int .i64 n).wf = true) (hs : Rs w v l) (hg : ∀ r ∈ l, FitR r) (hwi : (Lit.int .i64 i).wf = true) (hwj : (Lit.int .i64 j).wf = true) :
    Calls Try.prog 6 #[.int .i64 n, v, .int .i64 i, .int .i64 j] w fun e w' => e = .returned (.bool true) ∧ Below w.heap.size w w' := by
  obtain ⟨ad, c, rfl⟩ := hs.form
  obtain ⟨q, hq⟩ : ∃ q, q = l.length := ⟨_, rfl⟩
  have HQ := Lib.hid hq
  rw [← hq] at hs ⊢
  have HG := fun W => great_any n ad q c W
  have HNV := fun W (h : Below w.heap.size w W) => nvalid_any n l _ W (hs.below h)
  have HS := Lib.hid hs
  clear hs hg hq hn hwi hwj
  go_enter Try.func6, Try.ntmps6
  go_upto_region 1 with fail
  obtain ⟨W0, hW0⟩ : ∃ W0, W0 = (((w.alloc (.cells #[.int .i64 n] 3)).alloc (.cells #[.slice ad q c] 22)).alloc (.cells #[.int .i64 i] 3)).alloc (.cells #[.int .i64 j] 3) := ⟨_, rfl⟩
  obtain ⟨hL, c0, c1, c2, c3⟩ := four w _ _ _ _ _ _ _ _ W0 hW0
  rw [← hW0]
  obtain ⟨BN, hBN⟩ : ∃ b, b = w.heap.size := ⟨_, rfl⟩
  obtain ⟨BL, hBL⟩ : ∃ b, b = w.heap.size + 1 := ⟨_, rfl⟩
  obtain ⟨Bi, hBi⟩ : ∃ b, b = w.heap.size + 1 + 1 := ⟨_, rfl⟩
  obtain ⟨Bj, hBj⟩ : ∃ b, b = w.heap.size + 1 + 1 + 1 := ⟨_, rfl⟩
  rw [← hBj] at c3 ⊢
  rw [← hBi] at c2 ⊢
  rw [← hBL] at c1 ⊢
  rw [← hBN] at c0 ⊢
  clear hW0 hBL hBi hBj hBN
  by_cases h1 : n < 1
  · have g1 : decide (n < 1) = true := by simpa using h1
    go_wp2_with (first | (go_at_call 12; (with_reducible refine (awake_any _).mono ?_); rintro e w1 ⟨rfl, hb⟩; replace c0 := Go.Proofs.Ytoadihclmnjjnaa.Sl.cell_kept c0 hb; replace c1 := Go.Proofs.Ytoadihclmnjjnaa.Sl.cell_kept c1 hb; replace c2 := Go.Proofs.Ytoadihclmnjjnaa.Sl.cell_kept c2 hb; replace c3 := Go.Proofs.Ytoadihclmnjjnaa.Sl.cell_kept c3 hb; replace hL := bstep hL hb; clear hb) | (go_at_call 13; (with_reducible refine (HG _).mono ?_); rintro e w2 ⟨rfl, rfl⟩) | (go_at_call 19; (with_reducible refine (HNV _ hL).mono ?_); rintro e w3 ⟨rfl, hb⟩; replace c0 := Go.Proofs.Ytoadihclmnjjnaa.Sl.cell_kept c0 hb; replace c1 := Go.Proofs.Ytoadihclmnjjnaa.Sl.cell_kept c1 hb; replace c2 := Go.Proofs.Ytoadihclmnjjnaa.Sl.cell_kept c2 hb; replace c3 := Go.Proofs.Ytoadihclmnjjnaa.Sl.cell_kept c3 hb; replace hL := bstep hL hb; clear hb))
    go_ret
    exact ⟨rfl, hL⟩
  have g1 : decide (n < 1) = false := by simpa using h1
  by_cases h3 : 3 < n
  · have g3 : decide (3 < n) = true := by simpa using h3
    go_wp2_with (first | (go_at_call 12; (with_reducible refine (awake_any _).mono ?_); rintro e w1 ⟨rfl, hb⟩; replace c0 := Go.Proofs.Ytoadihclmnjjnaa.Sl.cell_kept c0 hb; replace c1 := Go.Proofs.Ytoadihclmnjjnaa.Sl.cell_kept c1 hb; replace c2 := Go.Proofs.Ytoadihclmnjjnaa.Sl.cell_kept c2 hb; replace c3 := Go.Proofs.Ytoadihclmnjjnaa.Sl.cell_kept c3 hb; replace hL := bstep hL hb; clear hb) | (go_at_call 13; (with_reducible refine (HG _).mono ?_); rintro e w2 ⟨rfl, rfl⟩) | (go_at_call 19; (with_reducible refine (HNV _ hL).mono ?_); rintro e w3 ⟨rfl, hb⟩; replace c0 := Go.Proofs.Ytoadihclmnjjnaa.Sl.cell_kept c0 hb; replace c1 := Go.Proofs.Ytoadihclmnjjnaa.Sl.cell_kept c1 hb; replace c2 := Go.Proofs.Ytoadihclmnjjnaa.Sl.cell_kept c2 hb; replace c3 := Go.Proofs.Ytoadihclmnjjnaa.Sl.cell_kept c3 hb; replace hL := bstep hL hb; clear hb))
    go_ret
    exact ⟨rfl, hL⟩
  have g3 : decide (3 < n) = false := by simpa using h3
  cases hgl : grN n q
  case true =>
    rw [hgl] at HG
    clear hgl
    go_wp2_with (first | (go_at_call 12; (with_reducible refine (awake_any _).mono ?_); rintro e w1 ⟨rfl, hb⟩; replace c0 := Go.Proofs.Ytoadihclmnjjnaa.Sl.cell_kept c0 hb; replace c1 := Go.Proofs.Ytoadihclmnjjnaa.Sl.cell_kept c1 hb; replace c2 := Go.Proofs.Ytoadihclmnjjnaa.Sl.cell_kept c2 hb; replace c3 := Go.Proofs.Ytoadihclmnjjnaa.Sl.cell_kept c3 hb; replace hL := bstep hL hb; clear hb) | (go_at_call 13; (with_reducible refine (HG _).mono ?_); rintro e w2 ⟨rfl, rfl⟩) | (go_at_call 19; (with_reducible refine (HNV _ hL).mono ?_); rintro e w3 ⟨rfl, hb⟩; replace c0 := Go.Proofs.Ytoadihclmnjjnaa.Sl.cell_kept c0 hb; replace c1 := Go.Proofs.Ytoadihclmnjjnaa.Sl.cell_kept c1 hb; replace c2 := Go.Proofs.Ytoadihclmnjjnaa.Sl.cell_kept c2 hb; replace c3 := Go.Proofs.Ytoadihclmnjjnaa.Sl.cell_kept c3 hb; replace hL := bstep hL hb; clear hb))
    go_ret
    exact ⟨rfl, hL⟩
  rw [hgl] at HG
  cases hv : vldN n l
  case false =>
    rw [hv] at HNV
    clear hv hgl
    go_wp2_with (first | (go_at_call 12; (with_reducible refine (awake_any _).mono ?_); rintro e w1 ⟨rfl, hb⟩; replace c0 := Go.Proofs.Ytoadihclmnjjnaa.Sl.cell_kept c0 hb; replace c1 := Go.Proofs.Ytoadihclmnjjnaa.Sl.cell_kept c1 hb; replace c2 := Go.Proofs.Ytoadihclmnjjnaa.Sl.cell_kept c2 hb; replace c3 := Go.Proofs.Ytoadihclmnjjnaa.Sl.cell_kept c3 hb; replace hL := bstep hL hb; clear hb) | (go_at_call 13; (with_reducible refine (HG _).mono ?_); rintro e w2 ⟨rfl, rfl⟩) | (go_at_call 19; (with_reducible refine (HNV _ hL).mono ?_); rintro e w3 ⟨rfl, hb⟩; replace c0 := Go.Proofs.Ytoadihclmnjjnaa.Sl.cell_kept c0 hb; replace c1 := Go.Proofs.Ytoadihclmnjjnaa.Sl.cell_kept c1 hb; replace c2 := Go.Proofs.Ytoadihclmnjjnaa.Sl.cell_kept c2 hb; replace c3 := Go.Proofs.Ytoadihclmnjjnaa.Sl.cell_kept c3 hb; replace hL := bstep hL hb; clear hb))
    go_ret
    exact ⟨rfl, hL⟩
  rw [hv] at HNV
  by_cases h4 : i < 0
  · have g4 : decide (i < 0) = true := by simpa using h4
    clear hv hgl
    go_wp2_with (first | (go_at_call 12; (with_reducible refine (awake_any _).mono ?_); rintro e w1 ⟨rfl, hb⟩; replace c0 := Go.Proofs.Ytoadihclmnjjnaa.Sl.cell_kept c0 hb; replace c1 := Go.Proofs.Ytoadihclmnjjnaa.Sl.cell_kept c1 hb; replace c2 := Go.Proofs.Ytoadihclmnjjnaa.Sl.cell_kept c2 hb; replace c3 := Go.Proofs.Ytoadihclmnjjnaa.Sl.cell_kept c3 hb; replace hL := bstep hL hb; clear hb) | (go_at_call 13; (with_reducible refine (HG _).mono ?_); rintro e w2 ⟨rfl, rfl⟩) | (go_at_call 19; (with_reducible refine (HNV _ hL).mono ?_); rintro e w3 ⟨rfl, hb⟩; replace c0 := Go.Proofs.Ytoadihclmnjjnaa.Sl.cell_kept c0 hb; replace c1 := Go.Proofs.Ytoadihclmnjjnaa.Sl.cell_kept c1 hb; replace c2 := Go.Proofs.Ytoadihclmnjjnaa.Sl.cell_kept c2 hb; replace c3 := Go.Proofs.Ytoadihclmnjjnaa.Sl.cell_kept c3 hb; replace hL := bstep hL hb; clear hb))
    go_ret
    exact ⟨rfl, hL⟩
  have g4 : decide (i < 0) = false := by simpa using h4
  by_cases h5 : n ≤ i
  · have g5 : decide (n ≤ i) = true := by simpa using h5
    clear hv hgl
    go_wp2_with (first | (go_at_call 12; (with_reducible refine (awake_any _).mono ?_); rintro e w1 ⟨rfl, hb⟩; replace c0 := Go.Proofs.Ytoadihclmnjjnaa.Sl.cell_kept c0 hb; replace c1 := Go.Proofs.Ytoadihclmnjjnaa.Sl.cell_kept c1 hb; replace c2 := Go.Proofs.Ytoadihclmnjjnaa.Sl.cell_kept c2 hb; replace c3 := Go.Proofs.Ytoadihclmnjjnaa.Sl.cell_kept c3 hb; replace hL := bstep hL hb; clear hb) | (go_at_call 13; (with_reducible refine (HG _).mono ?_); rintro e w2 ⟨rfl, rfl⟩) | (go_at_call 19; (with_reducible refine (HNV _ hL).mono ?_); rintro e w3 ⟨rfl, hb⟩; replace c0 := Go.Proofs.Ytoadihclmnjjnaa.Sl.cell_kept c0 hb; replace c1 := Go.Proofs.Ytoadihclmnjjnaa.Sl.cell_kept c1 hb; replace c2 := Go.Proofs.Ytoadihclmnjjnaa.Sl.cell_kept c2 hb; replace c3 := Go.Proofs.Ytoadihclmnjjnaa.Sl.cell_kept c3 hb; replace hL := bstep hL hb; clear hb))
    go_ret
    exact ⟨rfl, hL⟩
  have g5 : decide (n ≤ i) = false := by simpa using h5
  by_cases h6 : j < 0
  · have g6 : decide (j < 0) = true := by simpa using h6
    clear hv hgl
    go_wp2_with (first | (go_at_call 12; (with_reducible refine (awake_any _).mono ?_); rintro e w1 ⟨rfl, hb⟩; replace c0 := Go.Proofs.Ytoadihclmnjjnaa.Sl.cell_kept c0 hb; replace c1 := Go.Proofs.Ytoadihclmnjjnaa.Sl.cell_kept c1 hb; replace c2 := Go.Proofs.Ytoadihclmnjjnaa.Sl.cell_kept c2 hb; replace c3 := Go.Proofs.Ytoadihclmnjjnaa.Sl.cell_kept c3 hb; replace hL := bstep hL hb; clear hb) | (go_at_call 13; (with_reducible refine (HG _).mono ?_); rintro e w2 ⟨rfl, rfl⟩) | (go_at_call 19; (with_reducible refine (HNV _ hL).mono ?_); rintro e w3 ⟨rfl, hb⟩; replace c0 := Go.Proofs.Ytoadihclmnjjnaa.Sl.cell_kept c0 hb; replace c1 := Go.Proofs.Ytoadihclmnjjnaa.Sl.cell_kept c1 hb; replace c2 := Go.Proofs.Ytoadihclmnjjnaa.Sl.cell_kept c2 hb; replace c3 := Go.Proofs.Ytoadihclmnjjnaa.Sl.cell_kept c3 hb; replace hL := bstep hL hb; clear hb))
    go_ret
    exact ⟨rfl, hL⟩
  have g6 : decide (j < 0) = false := by simpa using h6
  by_cases h7 : n ≤ j
  · have g7 : decide (n ≤ j) = true := by simpa using h7
    clear hv hgl
    go_wp2_with (first | (go_at_call 12; (with_reducible refine (awake_any _).mono ?_); rintro e w1 ⟨rfl, hb⟩; replace c0 := Go.Proofs.Ytoadihclmnjjnaa.Sl.cell_kept c0 hb; replace c1 := Go.Proofs.Ytoadihclmnjjnaa.Sl.cell_kept c1 hb; replace c2 := Go.Proofs.Ytoadihclmnjjnaa.Sl.cell_kept c2 hb; replace c3 := Go.Proofs.Ytoadihclmnjjnaa.Sl.cell_kept c3 hb; replace hL := bstep hL hb; clear hb) | (go_at_call 13; (with_reducible refine (HG _).mono ?_); rintro e w2 ⟨rfl, rfl⟩) | (go_at_call 19; (with_reducible refine (HNV _ hL).mono ?_); rintro e w3 ⟨rfl, hb⟩; replace c0 := Go.Proofs.Ytoadihclmnjjnaa.Sl.cell_kept c0 hb; replace c1 := Go.Proofs.Ytoadihclmnjjnaa.Sl.cell_kept c1 hb; replace c2 := Go.Proofs.Ytoadihclmnjjnaa.Sl.cell_kept c2 hb; replace c3 := Go.Proofs.Ytoadihclmnjjnaa.Sl.cell_kept c3 hb; replace hL := bstep hL hb; clear hb))
    go_ret
    exact ⟨rfl, hL⟩
  have g7 : decide (n ≤ j) = false := by simpa using h7
  obtain ⟨m, rfl, m0, m8, l200, hok⟩ := vld_ok hv
  obtain ⟨p, rfl⟩ := Int.eq_ofNat_of_zero_le (show 0 ≤ i by omega)
  obtain ⟨r, rfl⟩ := Int.eq_ofNat_of_zero_le (show 0 ≤ j by omega)
  have hp : p < m := by omega
  have hr : r < m := by omega
  have m3 : m ≤ 3 := by omega
  have k1 : decide (m < 1) = false := by simp; omega
  have k2 : decide (3 < m) = false := by simp; omega
  have k3 : decide (m ≤ p) = false := by simp; omega
  have k3b : ¬ m ≤ p := by omega
  have k4 : decide (m ≤ r) = false := by simp; omega
  have k4b : ¬ m ≤ r := by omega
  have k5 : ¬ m < 1 := by omega
  have k6 : ¬ 3 < m := by omega
  have HIMO := Lib.hid (brute_law m0 m3 hok hp hr)
  have HCO := fun W (h : Below w.heap.size w W) => consistent_ok m l _ W (HS.out.below h) hv
  have HIM := fun W (h : Below w.heap.size w W) => implied_ok m l p r _ W hp hr (HS.out.below h) hv
  have HSI := Lib.hid (sat_iff hok)
  clear hok hv hgl h1 h3 h4 h5 h6 h7
  go_upto_region 6 with (first | (go_at_call 12; (with_reducible refine (awake_any _).mono ?_); rintro e w1 ⟨rfl, hb⟩; replace c0 := Go.Proofs.Ytoadihclmnjjnaa.Sl.cell_kept c0 hb; replace c1 := Go.Proofs.Ytoadihclmnjjnaa.Sl.cell_kept c1 hb; replace c2 := Go.Proofs.Ytoadihclmnjjnaa.Sl.cell_kept c2 hb; replace c3 := Go.Proofs.Ytoadihclmnjjnaa.Sl.cell_kept c3 hb; replace hL := bstep hL hb; clear hb) | (go_at_call 13; (with_reducible refine (HG _).mono ?_); rintro e w2 ⟨rfl, rfl⟩) | (go_at_call 19; (with_reducible refine (HNV _ hL).mono ?_); rintro e w3 ⟨rfl, hb⟩; replace c0 := Go.Proofs.Ytoadihclmnjjnaa.Sl.cell_kept c0 hb; replace c1 := Go.Proofs.Ytoadihclmnjjnaa.Sl.cell_kept c1 hb; replace c2 := Go.Proofs.Ytoadihclmnjjnaa.Sl.cell_kept c2 hb; replace c3 := Go.Proofs.Ytoadihclmnjjnaa.Sl.cell_kept c3 hb; replace hL := bstep hL hb; clear hb))
  clear g1 g3 g4 g5 g6 g7 k1 k2 k3 k3b k4 k4b k5 k6 HG HNV
  obtain ⟨W1, hW1⟩ : ∃ W1, w3.alloc (.cells #[.slice none 0 0] 46) = W1 := ⟨_, rfl⟩
  obtain ⟨hb1, hBA, hz1⟩ := box_step hW1
  rw [hW1]
  clear hW1
  generalize hBAe : w3.heap.size = BA at *
  obtain ⟨i0, hi, hz0, hz1', hz2⟩ := info_parts info_span
  have HC := Lib.hid (show w3.cell? ⟨BN, 0, none⟩ = some (.int .i64 (m : Int)) ∧ w3.cell? ⟨BL, 0, none⟩ = some (.slice ad q c) ∧ w3.cell? ⟨Bi, 0, none⟩ = some (.int .i64 (p : Int)) ∧ w3.cell? ⟨Bj, 0, none⟩ = some (.int .i64 (r : Int)) from ⟨c0, c1, c2, c3⟩)
  have HL3 := Lib.hid hL
  clear c0 c1 c2 c3 hL
  go_wp2
  go_loopw [56] (fun kv wr => ∃ k : Nat, k ≤ 5 ∧ kv = .int .i64 (k : Int) ∧ Below BA w3 wr ∧ BA + 1 ≤ wr.heap.size ∧ ∃ v, Boxed wr BA 46 v ∧ wr.ownsRow (BA + 1) 48 2 v (spTo k (k + 1)).length (flat (spTo k (k + 1)))) (fun kv _ => 5 - (RowKit.intOf kv).toNat)
  case atStart => exact ⟨0, by omega, rfl, by rw [← hBAe] at hb1 ⊢; exact hb1, by omega, _, hBA, by rw [spTo_zero]; exact World.ownsRow_nil _ _ _ _⟩
  case round =>
    clear hBA hb1 hz1
    obtain ⟨k, hk, rfl, hb1, hz1, v, hBA, hown⟩ := hrel
    by_cases hlt : k < 5
    · have h5 : decide ((k : Int) < 5) = true := by simp; omega
      go_wp2
      go_loopw [11] (fun jv wr => ∃ j : Nat, k < j ∧ j ≤ 6 ∧ jv = .int .i64 (j : Int) ∧ Below BA w3 wr ∧ BA + 1 ≤ wr.heap.size ∧ ∃ v, Boxed wr BA 46 v ∧ wr.ownsRow (BA + 1) 48 2 v (spTo k j).length (flat (spTo k j))) (fun jv _ => 6 - (RowKit.intOf jv).toNat)
      case atStart => exact ⟨k + 1, by omega, by omega, by go_num, hb1, hz1, v, hBA, hown⟩
      case round =>
        clear hBA hb1 hz1 hown
        obtain ⟨j, hj, hj6, rfl, hb1, hz1, v, hBA, hown⟩ := hrel
        have hlen := spTo_len k (by omega) j (by omega)
        by_cases hjl : j < 6
        · have hst := Lib.hid (spTo_step k hlt j hjl hj)
          have cA := hBA.cell
          have HBA := Lib.hid hBA
          clear hBA
          go_wp2_with (at_builtin; refine wpList_append_lies _ rfl (.tmp 65) (.tmp 69) 46 rfl (BA + 1) 48 i0 _ 2 16 Try.underlying46 hi hz0 hz1' hz2 rfl (by decide) v _ _ rfl (hown.alloc _) ⟨wr.heap.size, 0, none⟩ 1 1 [.int .i64 (k : Int), .int .i64 (j : Int)] rfl rfl (cells_new wr _ _) (by intro u hu; simp at hu; rcases hu with rfl | rfl <;> rfl) (by omega) (by unfold maxLen; omega) (by omega) (by simp; omega) _ rfl ?_; intro g cap w1 hown' hgrow _ _; obtain ⟨hv1, hv2, hr2, hk2, hb2, _⟩ := appended2 HBA.out (by omega) hown (Nat.le_refl _) hown' hgrow; have hc1 := hv1.cell; have hf1 := hv1.frozen)
          have R := Lib.hid (show (w1.setCell ⟨BA, 0, none⟩ (.slice (some ⟨g, 0, none⟩) ((spTo k j).length + 1) cap)).ownsRow (BA + 1) 48 2 (.slice (some ⟨g, 0, none⟩) ((spTo k j).length + 1) cap) (spTo k (j + 1)).length (flat (spTo k (j + 1))) by
            rw [hst.out, flat_snoc, List.length_append]
            exact hr2)
          go_roundw
          case rel => exact ⟨j + 1, by omega, by omega, by go_num, hb1.trans hb2, Nat.le_trans hz1 hk2.size, _, hv2, R.out⟩
          case measure => simp [RowKit.intOf]; omega
        · obtain rfl : 6 = j := by omega
          have hnx := Lib.hid (spTo_next k hlt)
          go_wp2
          go_roundw
          case rel => exact ⟨k + 1, by omega, by go_num, hb1, hz1, v, hBA, by rw [← hnx.out]; exact hown⟩
          case measure => simp [RowKit.intOf]; omega
    · obtain rfl : 5 = k := by omega
      have hPA : Ps wr v spL := ⟨Sl.of_owns hown, by rw [spL_len]; omega⟩
      have HMS := fun W => mk_spans m m0 m3 W
      obtain ⟨d0, d1, d2, d3⟩ := HC.out
      have d0 := Go.Proofs.Ytoadihclmnjjnaa.Sl.cell_kept d0 (by rw [hBAe]; exact hb1)
      have d1 := Go.Proofs.Ytoadihclmnjjnaa.Sl.cell_kept d1 (by rw [hBAe]; exact hb1)
      have d2 := Go.Proofs.Ytoadihclmnjjnaa.Sl.cell_kept d2 (by rw [hBAe]; exact hb1)
      have d3 := Go.Proofs.Ytoadihclmnjjnaa.Sl.cell_kept d3 (by rw [hBAe]; exact hb1)
      have dA := hBA.cell
      have l0 := block_of_cell d0
      have l1 := block_of_cell d1
      have l2 := block_of_cell d2
      have l3 := block_of_cell d3
      have lA := block_of_cell dA
      have hLr : Below w.heap.size w wr := bstep HL3.out (by rw [hBAe]; exact hb1)
      have HPA := Lib.hid hPA
      have HLR := Lib.hid hLr
      clear hown hBA hPA hLr hb1
      go_upto_region 17 with fail
      obtain ⟨BI, hBI⟩ : ∃ b, b = wr.heap.size := ⟨_, rfl⟩
      obtain ⟨T, hT⟩ : ∃ b, b = wr.heap.size + 1 := ⟨_, rfl⟩
      obtain ⟨BT, hBT⟩ : ∃ b, b = wr.heap.size + 1 + 1 := ⟨_, rfl⟩
      obtain ⟨BF, hBF⟩ : ∃ b, b = wr.heap.size + 1 + 1 + 1 := ⟨_, rfl⟩
      obtain ⟨W4, hW4⟩ : ∃ W4, W4 = (((wr.alloc (.cells #[.int .i64 0] 3)).alloc (.cells (cellsP (List.replicate m (0, 0))).toArray 48)).alloc (.cells #[.slice (some ⟨wr.heap.size + 1, 0, none⟩) m m] 46)).alloc (.cells #[.nilFunc] 49) := ⟨_, rfl⟩
      have hbW : Below wr.heap.size wr W4 := by
        rw [hW4]
        exact ((((Below.refl _ _).alloc (Nat.le_refl _) _).alloc (by simp) _).alloc (by simp; omega) _).alloc (by simp; omega) _
      have hsz : W4.heap.size = wr.heap.size + 1 + 1 + 1 + 1 := by rw [hW4]; simp
      have hhI : W4.heap[BI]? = some (.cells #[.int .i64 0] 3 (0, 0)) := by
        rw [hW4, hBI]
        exact (((Boxed.new wr 3 (.int .i64 0)).alloc _).alloc _).alloc _
      have hhT : W4.heap[T]? = some (.cells (cellsP (List.replicate m (0, 0))).toArray 48 (0, 0)) := by
        rw [hW4, hT, Below.heap_alloc _ _ _ (by simp <;> omega), Below.heap_alloc _ _ _ (by simp)]
        have := heap_alloc_new (wr.alloc (.cells #[.int .i64 0] 3)) (.cells (cellsP (List.replicate m (0, 0))).toArray 48)
        simpa using this
      have hhBT : W4.cell? ⟨BT, 0, none⟩ = some (.slice (some ⟨T, 0, none⟩) m m) := by
        have := ((Boxed.new ((wr.alloc (.cells #[.int .i64 0] 3)).alloc (.cells (cellsP (List.replicate m (0, 0))).toArray 48)) 46 (.slice (some ⟨wr.heap.size + 1, 0, none⟩) m m)).alloc (.cells #[.nilFunc] 49)).cell
        rw [hW4, hBT, hT]
        simpa using this
      have hhBF : Boxed W4 BF 49 .nilFunc := by
        have := Boxed.new (((wr.alloc (.cells #[.int .i64 0] 3)).alloc (.cells (cellsP (List.replicate m (0, 0))).toArray 48)).alloc (.cells #[.slice (some ⟨wr.heap.size + 1, 0, none⟩) m m] 46)) 49 .nilFunc
        rw [hW4, hBF]
        simpa using this
      rw [← hW4, ← hBF, ← hBT, ← hBI]
      have nTI : T ≠ BI := by omega
      have nBT : BT ≠ T ∧ BT ≠ BI ∧ BF ≠ T ∧ BF ≠ BI ∧ BF ≠ BT := by omega
      have HLT := Lib.hid (show wr.heap.size = BI ∧ T < W4.heap.size ∧ BI < W4.heap.size from ⟨hBI.symm, by omega, by omega⟩)
      have HORD := Lib.hid (show wr.heap.size = BI ∧ T = BI + 1 ∧ BT = BI + 2 ∧ BF = BI + 3 from ⟨hBI.symm, by omega, by omega, by omega⟩)
      have e1 := hhBF.cell
      have e2 := hhBF.frozen
      have HBF := Lib.hid hhBF
      clear hW4 hBF hBT hT hhBF
      have HD := Lib.hid (show wr.cell? ⟨BN, 0, none⟩ = some (.int .i64 (m : Int)) ∧ wr.cell? ⟨BL, 0, none⟩ = some (.slice ad q c) ∧ wr.cell? ⟨Bi, 0, none⟩ = some (.int .i64 (p : Int)) ∧ wr.cell? ⟨Bj, 0, none⟩ = some (.int .i64 (r : Int)) ∧ wr.cell? ⟨BA, 0, none⟩ = some v from ⟨d0, d1, d2, d3, dA⟩)
      clear d0 d1 d2 d3 dA l0 l1 l2 l3 lA hBI
      go_upto_region 18 with fail
      clear e1 e2
      obtain ⟨F, hF⟩ : ∃ F, F = Value.func (.func 29) #[] #[.pointer (some ⟨BN, 0, none⟩), .pointer (some ⟨BA, 0, none⟩), .pointer (some ⟨BT, 0, none⟩), .pointer (some ⟨BF, 0, none⟩), .pointer (some ⟨BL, 0, none⟩), .pointer (some ⟨BI, 0, none⟩), .pointer (some ⟨Bi, 0, none⟩), .pointer (some ⟨Bj, 0, none⟩)] := ⟨_, rfl⟩
      obtain ⟨W5, hW5⟩ : ∃ W5, W5 = W4.setCell ⟨BF, 0, none⟩ F := ⟨_, rfl⟩
      have hbW5 : Below wr.heap.size wr W5 := by rw [hW5]; exact hbW.setCell (p := ⟨BF, 0, none⟩) (by have := HORD.out; show wr.heap.size ≤ BF; omega) _
      have hsz5 : W5.heap.size = W4.heap.size := by rw [hW5]; simp [World.setCell]
      have hhI5 : W5.heap[BI]? = some (.cells #[.int .i64 ((0 : Nat) : Int)] 3 (0, 0)) := by rw [hW5, heap_setCell_other _ _ _ _ (by have := HORD.out; show BI ≠ BF; omega)]; exact hhI
      have hhT5 : W5.heap[T]? = some (.cells (cellsP (List.replicate m (0, 0))).toArray 48 (0, 0)) := by rw [hW5, heap_setCell_other _ _ _ _ (by have := HORD.out; show T ≠ BF; omega)]; exact hhT
      have cBT5 : W5.cell? ⟨BT, 0, none⟩ = some (.slice (some ⟨T, 0, none⟩) m m) := by
        rw [hW5]
        exact (World.cell?_of_block (heap_setCell_other _ _ _ _ (by have := HORD.out; show BT ≠ BF; omega))).trans hhBT
      have cBF5 : W5.cell? ⟨BF, 0, none⟩ = some F := by rw [hW5]; exact (HBF.out.set F).cell
      have HKB := fun W (hd : Md (fun b => b = T ∨ b = BI) W5 W) => (show Below wr.heap.size wr W from hbW5.trans (hd.below (by rw [hsz5, hsz]; omega) (by have h9 := HORD.out; rintro k (rfl | rfl) <;> omega)))
      have HK := fun W (hd : Md (fun b => b = T ∨ b = BI) W5 W) => (show BrF BN BA BT BF BL BI Bi Bj T v (.slice ad q c) m p r l W from
        ⟨Go.Proofs.Ytoadihclmnjjnaa.Sl.cell_kept HD.out.1 (HKB W hd), Go.Proofs.Ytoadihclmnjjnaa.Sl.cell_kept HD.out.2.2.2.2 (HKB W hd), hd.kept cBT5 (by omega), by rw [← hF]; exact hd.kept cBF5 (by omega), Go.Proofs.Ytoadihclmnjjnaa.Sl.cell_kept HD.out.2.1 (HKB W hd), Go.Proofs.Ytoadihclmnjjnaa.Sl.cell_kept HD.out.2.2.1 (HKB W hd), Go.Proofs.Ytoadihclmnjjnaa.Sl.cell_kept HD.out.2.2.2.1 (HKB W hd), HPA.out.below (HKB W hd), HS.out.below (bstep HLR.out (HKB W hd))⟩)
      have TRY := try_any BN BA BT BF BL BI Bi Bj T v (.slice ad q c) m p r l W5 m3 hp hr nTI (by rw [hsz5]; exact HLT.out.2.1) (by rw [hsz5]; exact HLT.out.2.2) HK m 0 (by omega) (List.replicate m (0, 0)) 0 W5 (by simp) (by omega) (Md.refl _ _) hhT5 hhI5
      rw [show ((0 : Nat) : Int) = 0 from rfl] at TRY
      rw [← hF, ← hW5]
      have HKK := Lib.hid HK
      have HKBB := Lib.hid HKB
      have cF5 : W5.cell? ⟨BF, 0, none⟩ = some (Value.func (.func 29) #[] #[.pointer (some ⟨BN, 0, none⟩), .pointer (some ⟨BA, 0, none⟩), .pointer (some ⟨BT, 0, none⟩), .pointer (some ⟨BF, 0, none⟩), .pointer (some ⟨BL, 0, none⟩), .pointer (some ⟨BI, 0, none⟩), .pointer (some ⟨Bi, 0, none⟩), .pointer (some ⟨Bj, 0, none⟩)]) := by rw [← hF]; exact cBF5
      obtain ⟨imp, himp⟩ : ∃ imp, imp = impB l p r m [] 0 := ⟨_, rfl⟩
      have HIMP := Lib.hid himp
      clear hF cBF5 cBT5 hhI5 hhT5 hW5 hhI hhT hhBT hbW5 hbW hsz5 hsz HK HKB himp nBT nTI
      go_upto_region 19 with (go_at_call 29; (with_reducible refine TRY.mono ?_); rintro e w6 ⟨rfl, hMd6, A6, _, _, _, hI6⟩; have HM6 := Lib.hid hMd6; have HI6 := Lib.hid hI6; clear hMd6 hI6)
      have eI : w6.cell? ⟨BI, 0, none⟩ = some (.int .i64 (imp : Int)) := by
        have h6 := HI6.out
        rw [HIMP.out]
        rw [cell_of_row _ _ 0 _ _ _ h6]; rfl
      obtain ⟨c0, _, _, _, c1, c2, c3, _, _⟩ := HKK.out w6 HM6.out
      have hL := bstep HLR.out (HKBB.out w6 HM6.out)
      have HO := Lib.hid (show ImO m l p r 13 imp by rw [HIMP.out]; exact HIMO.out)
      have HNE := Lib.hid (show imp ≠ 0 ↔ SatL m l from HO.out.ne hp hr)
      clear cF5 TRY HKK HKBB HM6 HI6
      by_cases h0 : imp = 0
      · subst h0
        replace eI : w6.cell? ⟨BI, 0, none⟩ = some (.int .i64 0) := eI
        go_wp2_with (first | (go_at_call 32; (with_reducible refine (HCO _ hL).mono ?_); rintro e w7 ⟨b, rfl, hbi, hb⟩; obtain rfl : b = false := Bool.eq_false_iff.2 (fun h => HNE.out.2 (HSI.out.1 (hbi.1 h)) rfl); clear hbi; replace eI := Go.Proofs.Ytoadihclmnjjnaa.Sl.cell_kept eI hb; replace c0 := Go.Proofs.Ytoadihclmnjjnaa.Sl.cell_kept c0 hb; replace c1 := Go.Proofs.Ytoadihclmnjjnaa.Sl.cell_kept c1 hb; replace c2 := Go.Proofs.Ytoadihclmnjjnaa.Sl.cell_kept c2 hb; replace c3 := Go.Proofs.Ytoadihclmnjjnaa.Sl.cell_kept c3 hb; replace hL := bstep hL hb; clear hb) | (go_at_call 26; (with_reducible refine (HIM _ hL).mono ?_); rintro e w8 ⟨out, hI, he, hb⟩; obtain rfl : out = 0 := hI.eq HO.out; replace he : e = .returned (.tuple #[.int .i64 0, .int .i64 17]) := he; subst he; clear hI; replace eI := Go.Proofs.Ytoadihclmnjjnaa.Sl.cell_kept eI hb; replace c0 := Go.Proofs.Ytoadihclmnjjnaa.Sl.cell_kept c0 hb; replace c1 := Go.Proofs.Ytoadihclmnjjnaa.Sl.cell_kept c1 hb; replace c2 := Go.Proofs.Ytoadihclmnjjnaa.Sl.cell_kept c2 hb; replace c3 := Go.Proofs.Ytoadihclmnjjnaa.Sl.cell_kept c3 hb; replace hL := bstep hL hb; clear hb))
        go_ret
        exact ⟨rfl, hL⟩
      · have g0 : ((imp : Int) == 0) = false := by simp; omega
        have g1 : ((imp : Int) != 0) = true := by unfold bne; rw [g0]; rfl
        go_wp2_with (first | (go_at_call 32; (with_reducible refine (HCO _ hL).mono ?_); rintro e w7 ⟨b, rfl, hbi, hb⟩; obtain rfl : b = true := hbi.2 (HSI.out.2 (HNE.out.1 h0)); clear hbi; replace eI := Go.Proofs.Ytoadihclmnjjnaa.Sl.cell_kept eI hb; replace c0 := Go.Proofs.Ytoadihclmnjjnaa.Sl.cell_kept c0 hb; replace c1 := Go.Proofs.Ytoadihclmnjjnaa.Sl.cell_kept c1 hb; replace c2 := Go.Proofs.Ytoadihclmnjjnaa.Sl.cell_kept c2 hb; replace c3 := Go.Proofs.Ytoadihclmnjjnaa.Sl.cell_kept c3 hb; replace hL := bstep hL hb; clear hb) | (go_at_call 26; (with_reducible refine (HIM _ hL).mono ?_); rintro e w8 ⟨out, hI, he, hb⟩; obtain rfl : imp = out := HO.out.eq hI; rw [if_neg h0] at he; subst he; clear hI; replace eI := Go.Proofs.Ytoadihclmnjjnaa.Sl.cell_kept eI hb; replace c0 := Go.Proofs.Ytoadihclmnjjnaa.Sl.cell_kept c0 hb; replace c1 := Go.Proofs.Ytoadihclmnjjnaa.Sl.cell_kept c1 hb; replace c2 := Go.Proofs.Ytoadihclmnjjnaa.Sl.cell_kept c2 hb; replace c3 := Go.Proofs.Ytoadihclmnjjnaa.Sl.cell_kept c3 hb; replace hL := bstep hL hb; clear hb))
        go_ret
        exact ⟨rfl, hL⟩
end Go.Proofs.Ytoadihclmnjjnaa.Nw
