/-
  The walk of the law LexOffsets.
-/
import Derived.Test.YtcpfbemmlmdcaaaDoorLxT
import Derived.Test.YtcpfbemmlmdcaaaDoorLxW
set_option linter.unusedSimpArgs false
set_option linter.unusedVariables false
namespace Go.Proofs.YtcpfbemmlmdcaaaDoor.Lx
open Go.RowKit Go.ChangeShapes Go.WideShapes Go.Proofs.YtcpfbemmlmdcaaaDoor.Sl

theorem offset_is (s : ByteArray) (a b : Int) (m : Int) (w : World) (hs : s.size < 4294967281) (hm : w.cell? ⟨0, 0, none⟩ = some (.int .i64 m)) (h : offZ s = (a, b)) :
    Calls Tryd.prog 12 #[.string s] w fun e w' => e = .returned (.tuple #[.int .i64 a, .int .i64 b]) ∧ Below w.heap.size w w' := by
  have := offset_any s m w hs hm
  rw [h] at this
  exact this
theorem roffset_is (s : ByteArray) (a b : Int) (w : World) (hs : s.size < 4294967281) (h : offZ s = (a, b)) :
    Calls Tryd.prog 13 #[.string s] w fun e w' => e = .returned (.tuple #[.int .i64 a, .int .i64 b]) ∧ w = w' := by
  have := roffset_any s w hs
  rw [h] at this
  exact this
theorem offText_is (n : Int) (t : ByteArray) (w : World) (h : offS n = t) : Calls Tryd.prog 14 #[.int .i64 n] w fun e w' => e = .returned (.string t) ∧ Below w.heap.size w w' := by
  rw [← h]; exact offText_any n w
theorem roffText_is (n : Int) (t : ByteArray) (w : World) (h : offS n = t) : Calls Tryd.prog 15 #[.int .i64 n] w fun e w' => e = .returned (.string t) ∧ w = w' := by
  rw [← h]
  refine (roffText_any n w).mono ?_
  rintro e w' ⟨h1, h2⟩
  exact ⟨h1, h2.symm⟩

set_option maxRecDepth 20000 in
theorem lexOffsets_walk (s : ByteArray) (n : Int) (m : Int) (w : World) (hm : w.cell? ⟨0, 0, none⟩ = some (.int .i64 m)) :
    Calls Tryd.prog 3 #[.string s, .int .i64 n] w fun e w' => e = .returned (.bool true) ∧ Below w.heap.size w w' := by
  by_cases hl : 1000 < s.size
  · go_enter Tryd.func3, Tryd.ntmps3
    go_wp2_with (go_at_call 11; ((with_reducible refine (awake_any m _ hm).mono ?_); rintro e w1 ⟨rfl, hb⟩; (first | (replace hL := bstep hL hb) | (have hL := hb)); clear hb; replace hc := bcell hL))
    go_ret
    exact ⟨rfl, (by have hB := bstep (w := w) (by go_grown) hL; have hs := hB.size; go_grown)⟩
  · have hs : s.size < 4294967281 := by omega
    obtain ⟨a, b, hz⟩ : ∃ a b, offZ s = (a, b) := ⟨_, _, rfl⟩
    obtain ⟨t, ht⟩ : ∃ t, offS n = t := ⟨_, rfl⟩
    have b2 : ∀ w : World, (binOp .eql 9 (.string t) (.string t)).run Tryd.prog w = .ok (.bool true) w := fun w => str_eq t w
    go_enter Tryd.func3, Tryd.ntmps3
    go_wp2_with (first | (go_at_call 11; ((with_reducible refine (awake_any m _ hm).mono ?_); rintro e w1 ⟨rfl, hb⟩; (first | (replace hL := bstep hL hb) | (have hL := hb)); clear hb; replace hc := bcell hL)) | (go_at_call 12; ((with_reducible refine (offset_is s a b m _ hs (cell_kept hm (by go_grown)) hz).mono ?_); rintro e w1 ⟨rfl, hb⟩; (first | (replace hL := bstep hL hb) | (have hL := hb)); clear hb; replace hc := bcell hL)) | (go_at_call 13; ((with_reducible refine (roffset_is s a b _ hs hz).mono ?_); rintro e w1 ⟨rfl, rfl⟩)) | (go_at_call 14; ((with_reducible refine (offText_is n t _ ht).mono ?_); rintro e w1 ⟨rfl, hb⟩; (first | (replace hL := bstep hL hb) | (have hL := hb)); clear hb; replace hc := bcell hL)) | (go_at_call 15; ((with_reducible refine (roffText_is n t _ ht).mono ?_); rintro e w1 ⟨rfl, rfl⟩)))
    go_ret
    exact ⟨rfl, (by have hB := bstep (w := w) (by go_grown) hL; have hs := hB.size; go_grown)⟩
end Go.Proofs.YtcpfbemmlmdcaaaDoor.Lx
