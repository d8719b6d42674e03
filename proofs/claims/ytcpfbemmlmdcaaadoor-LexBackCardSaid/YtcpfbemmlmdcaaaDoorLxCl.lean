/-
  The walk of the law LexClocks.
-/
import Derived.Test.YtcpfbemmlmdcaaaDoorLxK
import Derived.Test.YtcpfbemmlmdcaaaDoorLxW
set_option linter.unusedSimpArgs false
set_option linter.unusedVariables false
namespace Go.Proofs.YtcpfbemmlmdcaaaDoor.Lx
open Go.RowKit Go.ChangeShapes Go.WideShapes Go.Proofs.YtcpfbemmlmdcaaaDoor.Sl

theorem clock_is (s : ByteArray) (a b c : Int) (m : Int) (w : World) (hs : s.size < 4294967281) (hm : w.cell? ⟨0, 0, none⟩ = some (.int .i64 m)) (h : clkZ s = (a, b, c)) :
    Calls Tryd.prog 16 #[.string s] w fun e w' => e = .returned (.tuple #[.int .i64 a, .int .i64 b, .int .i64 c]) ∧ Below w.heap.size w w' := by
  have := clock_any s m w hs hm
  rw [h] at this
  exact this
theorem rclock_is (s : ByteArray) (a b c : Int) (w : World) (hs : s.size < 4294967281) (h : clkZ s = (a, b, c)) :
    Calls Tryd.prog 17 #[.string s] w fun e w' => e = .returned (.tuple #[.int .i64 a, .int .i64 b, .int .i64 c]) ∧ w = w' := by
  have := rclock_any s w hs
  rw [h] at this
  exact this
theorem clockText_is (n c : Int) (t : ByteArray) (w : World) (h : clkS n c = t) : Calls Tryd.prog 18 #[.int .i64 n, .int .i64 c] w fun e w' => e = .returned (.string t) ∧ Below w.heap.size w w' := by
  rw [← h]; exact clockText_any n c w
theorem rclockText_is (n c : Int) (t : ByteArray) (w : World) (h : clkS n c = t) : Calls Tryd.prog 19 #[.int .i64 n, .int .i64 c] w fun e w' => e = .returned (.string t) ∧ w = w' := by
  rw [← h]
  refine (rclockText_any n c w).mono ?_
  rintro e w' ⟨h1, h2⟩
  exact ⟨h1, h2.symm⟩

set_option maxRecDepth 20000 in
theorem lexClocks_walk (s : ByteArray) (n k : Int) (m : Int) (w : World) (hm : w.cell? ⟨0, 0, none⟩ = some (.int .i64 m)) :
    Calls Tryd.prog 4 #[.string s, .int .i64 n, .int .i64 k] w fun e w' => e = .returned (.bool true) ∧ Below w.heap.size w w' := by
  by_cases hl : 1000 < s.size
  · go_enter Tryd.func4, Tryd.ntmps4
    go_wp2_with (go_at_call 11; ((with_reducible refine (awake_any m _ hm).mono ?_); rintro e w1 ⟨rfl, hb⟩; (first | (replace hL := bstep hL hb) | (have hL := hb)); clear hb; replace hc := bcell hL))
    go_ret
    exact ⟨rfl, (by have hB := bstep (w := w) (by go_grown) hL; have hs := hB.size; go_grown)⟩
  · have hs : s.size < 4294967281 := by omega
    obtain ⟨a, b, c, hz⟩ : ∃ a b c, clkZ s = (a, b, c) := ⟨_, _, _, rfl⟩
    obtain ⟨t, ht⟩ : ∃ t, clkS n k = t := ⟨_, rfl⟩
    have b2 : ∀ w : World, (binOp .eql 9 (.string t) (.string t)).run Tryd.prog w = .ok (.bool true) w := fun w => str_eq t w
    go_enter Tryd.func4, Tryd.ntmps4
    go_wp2_with (first | (go_at_call 11; ((with_reducible refine (awake_any m _ hm).mono ?_); rintro e w1 ⟨rfl, hb⟩; (first | (replace hL := bstep hL hb) | (have hL := hb)); clear hb; replace hc := bcell hL)) | (go_at_call 16; ((with_reducible refine (clock_is s a b c m _ hs (cell_kept hm (by go_grown)) hz).mono ?_); rintro e w1 ⟨rfl, hb⟩; (first | (replace hL := bstep hL hb) | (have hL := hb)); clear hb; replace hc := bcell hL)) | (go_at_call 17; ((with_reducible refine (rclock_is s a b c _ hs hz).mono ?_); rintro e w1 ⟨rfl, rfl⟩)) | (go_at_call 18; ((with_reducible refine (clockText_is n k t _ ht).mono ?_); rintro e w1 ⟨rfl, hb⟩; (first | (replace hL := bstep hL hb) | (have hL := hb)); clear hb; replace hc := bcell hL)) | (go_at_call 19; ((with_reducible refine (rclockText_is n k t _ ht).mono ?_); rintro e w1 ⟨rfl, rfl⟩)))
    go_ret
    exact ⟨rfl, (by have hB := bstep (w := w) (by go_grown) hL; have hs := hB.size; go_grown)⟩
end Go.Proofs.YtcpfbemmlmdcaaaDoor.Lx
