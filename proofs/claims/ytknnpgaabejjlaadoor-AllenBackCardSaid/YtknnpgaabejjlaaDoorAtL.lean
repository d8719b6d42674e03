/-
  The walk of AllenTexts.
-/
import Derived.Test.YtknnpgaabejjlaaDoorAtR
import Derived.Test.YtknnpgaabejjlaaDoorAwk
set_option linter.unusedSimpArgs false
set_option linter.unusedVariables false
namespace Go.Proofs.YtknnpgaabejjlaaDoor.Al
open Go Go.RowKit Go.Proofs.YtknnpgaabejjlaaDoor.Bt Go.Proofs.YtknnpgaabejjlaaDoor.Sl Go.Proofs.YtknnpgaabejjlaaDoor.Tp Go.Proofs.YtknnpgaabejjlaaDoor.Lx

theorem rtext_any (s : Int) (w : World) : Calls Tryd.prog 9 #[.int .i64 s] w fun e w' => e = .returned (.string (txtS s)) ∧ Below w.heap.size w w' := by
  unfold txtS
  cases h : isSetB s
  · exact rtext_none s w h
  rw [if_neg (by simp)]
  by_cases h0 : s = 0
  · subst h0; exact rtext_zero w
  rw [if_neg h0]
  by_cases h1 : s = 8191
  · subst h1; exact rtext_full w
  rw [if_neg h1]
  obtain ⟨m, rfl⟩ : ∃ m : Nat, s = m := ⟨s.toNat, by simp [isSetB] at h; omega⟩
  exact rtext_set m (by simp [isSetB] at h; omega) (by simpa using h0) (by simpa using h1) w
theorem rparse_long (s : ByteArray) (w : World) (h : 200 < s.size) : Calls Tryd.prog 7 #[.string s] w fun e w' => e = .returned (.tuple #[.int .i64 0, .int .i64 5]) ∧ Below w.heap.size w w' := by
  go_enter Tryd.func7, Tryd.ntmps7
  go_wp2
  go_ret2
  exact ⟨rfl, by go_grown⟩
theorem rparse_noneT (w : World) : Calls Tryd.prog 7 #[.string noneT] w fun e w' => e = .returned (.tuple #[.int .i64 0, .int .i64 0]) ∧ Below w.heap.size w w' := by
  unfold noneT
  go_enter Tryd.func7, Tryd.ntmps7
  go_wp2
  go_ret2
  exact ⟨rfl, by go_grown⟩
theorem rparse_anyT (w : World) : Calls Tryd.prog 7 #[.string anyT] w fun e w' => e = .returned (.tuple #[.int .i64 8191, .int .i64 0]) ∧ Below w.heap.size w w' := by
  unfold anyT
  go_enter Tryd.func7, Tryd.ntmps7
  go_wp2
  go_ret2
  exact ⟨rfl, by go_grown⟩
theorem rparse_any (s : ByteArray) (w : World) :
    Calls Tryd.prog 7 #[.string s] w fun e w' => e = .returned (.tuple #[.int .i64 (parA s).1, .int .i64 (parA s).2]) ∧ Below w.heap.size w w' := by
  unfold parA
  by_cases h : 200 < s.size
  · rw [if_pos h]; exact rparse_long s w h
  rw [if_neg h]
  by_cases hn : s = noneT
  · rw [if_pos hn, hn]; exact rparse_noneT w
  rw [if_neg hn]
  by_cases ha : s = anyT
  · rw [if_pos ha, ha]; exact rparse_anyT w
  rw [if_neg ha]
  exact rparse_split s w h hn ha

theorem allenTexts_walk (n : Int) (s : ByteArray) (m : Int) (w : World) (hm : w.cell? ⟨0, 0, none⟩ = some (.int .i64 m)) :
    Calls Tryd.prog 3 #[.int .i64 n, .string s] w fun e w' => e = .returned (.bool true) ∧ Below w.heap.size w w' := by
  have p1 := aparse_any s m
  have p2 := rparse_any s
  have t1 := text_any n
  have t2 := rtext_any n
  generalize parA s = pa at *
  generalize txtS n = tx at *
  obtain ⟨pa1, pa2⟩ := pa
  dsimp only at p1 p2
  by_cases h3 : 300 < s.size
  · go_enter Tryd.func3, Tryd.ntmps3
    go_wp2_with (go_at_call 5; (with_reducible refine (awake_any _).mono ?_); rintro e w1 ⟨rfl, hL⟩)
    go_ret
    exact ⟨rfl, hL⟩
  · go_enter Tryd.func3, Tryd.ntmps3
    go_wp2_with (first | (go_at_call 5; (with_reducible refine (awake_any _).mono ?_); rintro e w1 ⟨rfl, hL⟩) | (go_at_call 6; (with_reducible refine (p1 _ (Sl.cell_kept hm hL)).mono ?_); rintro e w1 ⟨rfl, hb⟩; replace hL := bstep hL hb; clear hb) | (go_at_call 7; (with_reducible refine (p2 _).mono ?_); rintro e w1 ⟨rfl, hb⟩; replace hL := bstep hL hb; clear hb) | (go_at_call 8; (with_reducible refine (t1 _).mono ?_); rintro e w1 ⟨rfl, hb⟩; replace hL := bstep hL hb; clear hb) | (go_at_call 9; (with_reducible refine (t2 _).mono ?_); rintro e w1 ⟨rfl, hb⟩; replace hL := bstep hL hb; clear hb))
    go_ret
    exact ⟨rfl, hL⟩
end Go.Proofs.YtknnpgaabejjlaaDoor.Al
