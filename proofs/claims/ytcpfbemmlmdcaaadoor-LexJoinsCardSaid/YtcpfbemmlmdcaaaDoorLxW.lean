/-
  The walk of layer 18's examples (awake), of the program civiltime.
-/
import Derived.Test.YtcpfbemmlmdcaaaDoorLxL
import Derived.Test.YtcpfbemmlmdcaaaDoorLxC
set_option linter.unusedSimpArgs false
set_option linter.unusedVariables false
namespace Go.Proofs.YtcpfbemmlmdcaaaDoor.Lx
open Go.RowKit Go.ChangeShapes Go.WideShapes Go.Proofs.YtcpfbemmlmdcaaaDoor.Sl

def exT : ByteArray := ⟨#[82, 117, 108, 101, 32, 65, 32, 50, 58, 48, 48, 115, 32, 35, 32, 99, 111, 109, 109, 101, 110, 116]⟩
def w1T : ByteArray := ⟨#[82, 117, 108, 101]⟩
def w2T : ByteArray := ⟨#[65]⟩
def w3T : ByteArray := ⟨#[50, 58, 48, 48, 115]⟩
def o1T : ByteArray := ⟨#[45, 51, 58, 51, 48]⟩
def o2T : ByteArray := ⟨#[49, 58, 48, 48]⟩
theorem ex_lines : linesR exT = ([[(w1T, 1, 1), (w2T, 1, 6), (w3T, 1, 8)]], (0, 0), 0) := by kernel_rfl
theorem ex_clock : clkZ w3T = (7200, 2, 0) := by kernel_rfl
theorem ex_off : offZ o1T = (-12600, 0) := by kernel_rfl
theorem ex_o1 : offS (-12600) = o1T := by kernel_rfl
theorem ex_o2 : offS 3600 = o2T := by kernel_rfl

theorem ex1 (m : Int) (w : World) (hm : w.cell? ⟨0, 0, none⟩ = some (.int .i64 m)) :
    Calls Tryd.prog 20 #[.string exT] w fun e w' => ∃ (g o cap g2 o2 cap2 : Nat), e = .returned (.tuple #[.slice (some ⟨g, o, none⟩) 1 cap, .agg #[.int .i64 0, .int .i64 0], .int .i64 0]) ∧ Below w.heap.size w w' ∧
      g < w'.heap.size ∧ g2 < w'.heap.size ∧ w'.cell? ⟨g, o, none⟩ = some (.slice (some ⟨g2, o2, none⟩) 3 cap2) ∧ w'.cell? ⟨g2, o2 + 6, none⟩ = some (.string w3T) ∧ w'.cell? ⟨g2, o2 + 7, none⟩ = some (.int .i64 1) ∧ w'.cell? ⟨g2, o2 + 8, none⟩ = some (.int .i64 8) := by
  refine (lines_any exT m w hm).mono ?_
  rintro e w' ⟨v, rfl, hl, hb⟩
  rw [ex_lines] at hl ⊢
  obtain ⟨hs, h1, h2⟩ := hl
  obtain ⟨g, o, cap, rfl, h3⟩ := h1.open (by simp)
  obtain ⟨x, rfl⟩ : ∃ x, hs = [x] := List.length_eq_one_iff.1 (by have := h1.1; simpa using this)
  have h4 := h2 0 x _ rfl rfl
  obtain ⟨g2, o2, cap2, rfl, h5⟩ := h4.open (by simp)
  have c0 := h3 0 _ rfl
  have c6 := h5 6 _ rfl
  have c7 := h5 7 _ rfl
  have c8 := h5 8 _ rfl
  exact ⟨g, o, cap, g2, o2, cap2, rfl, hb, block_of_cell c0, block_of_cell c6, c0, c6, c7, c8⟩
theorem ex2 (m : Int) (w : World) (hm : w.cell? ⟨0, 0, none⟩ = some (.int .i64 m)) :
    Calls Tryd.prog 16 #[.string w3T] w fun e w' => e = .returned (.tuple #[.int .i64 7200, .int .i64 2, .int .i64 0]) ∧ Below w.heap.size w w' := by
  have := clock_any w3T m w (by decide) hm
  rw [ex_clock] at this
  exact this
theorem ex3 (m : Int) (w : World) (hm : w.cell? ⟨0, 0, none⟩ = some (.int .i64 m)) :
    Calls Tryd.prog 12 #[.string o1T] w fun e w' => e = .returned (.tuple #[.int .i64 (-12600), .int .i64 0]) ∧ Below w.heap.size w w' := by
  have := offset_any o1T m w (by decide) hm
  rw [ex_off] at this
  exact this
theorem ex4 (w : World) : Calls Tryd.prog 14 #[.int .i64 (-12600)] w fun e w' => e = .returned (.string o1T) ∧ Below w.heap.size w w' := by
  have := offText_any (-12600) w
  rw [ex_o1] at this
  exact this
theorem ex5 (w : World) : Calls Tryd.prog 14 #[.int .i64 3600] w fun e w' => e = .returned (.string o2T) ∧ Below w.heap.size w w' := by
  have := offText_any 3600 w
  rw [ex_o2] at this
  exact this

theorem str_eq (a : ByteArray) (w : World) : (binOp .eql 9 (.string a) (.string a)).run Tryd.prog w = .ok (.bool true) w := by simp [go_sem]
theorem tok_eq (w : World) : (binOp .eql 61 (.agg #[.string w3T, .int .i64 1, .int .i64 8]) (.agg #[.string w3T, .int .i64 1, .int .i64 8])).run Tryd.prog w = .ok (.bool true) w := by kernel_rfl

set_option maxRecDepth 20000 in
set_option maxHeartbeats 400000 in
theorem awake_any (m : Int) (w : World) (hm : w.cell? ⟨0, 0, none⟩ = some (.int .i64 m)) :
    Calls Tryd.prog 11 #[] w fun e w' => e = .returned (.bool true) ∧ Below w.heap.size w w' := by
  have e1 : (⟨#[82, 117, 108, 101, 32, 65, 32, 50, 58, 48, 48, 115, 32, 35, 32, 99, 111, 109, 109, 101, 110, 116]⟩ : ByteArray) = exT := rfl
  go_enter Tryd.func11, Tryd.ntmps11
  go_upto_region 2 with (go_at_call 20; refine (ex1 m _ (cell_kept hm (by go_grown))).mono ?_; rintro e w1 ⟨g, o, cap, g2, o2, cap2, rfl, hb, hg, hg2, c0, c6, c7, c8⟩; have hL0 : Below w.heap.size w w1 := hb; clear hb)
  have hm1 := cell_kept hm hL0
  have e3 : (⟨#[50, 58, 48, 48, 115]⟩ : ByteArray) = w3T := rfl
  have e4 : (⟨#[45, 51, 58, 51, 48]⟩ : ByteArray) = o1T := rfl
  have e5 : (⟨#[49, 58, 48, 48]⟩ : ByteArray) = o2T := rfl
  go_upto_region 3 with (go_at_call 16; refine (ex2 m _ (cell_kept hm1 (by go_grown))).mono ?_; rintro e w2 ⟨rfl, hb⟩; have hL := hb; clear hb; have hc := bcell hL)
  go_upto_region 4 with (go_at_call 12; refine (ex3 m _ (cell_kept hm1 (bstep (w := w1) (by go_grown) hL))).mono ?_; rintro e w3 ⟨rfl, hb⟩; replace hL := bstep hL hb; clear hb; replace hc := bcell hL)
  have hB1 := bstep (w := w1) (by go_grown) hL
  clear hc hL
  have k0 := cell_kept c0 hB1
  have k6 := cell_kept c6 hB1
  have k7 := cell_kept c7 hB1
  have k8 := cell_kept c8 hB1
  have hL := bstep hL0 hB1
  clear c0 c6 c7 c8 hB1 hL0 hm1 hm hg hg2
  have b1 : ∀ w : World, (binOp .eql 61 (.agg #[.string w3T, .int .i64 1, .int .i64 8]) (.agg #[.string w3T, .int .i64 1, .int .i64 8])).run Tryd.prog w = .ok (.bool true) w := fun w => tok_eq w
  have b2 : ∀ w : World, (binOp .eql 9 (.string o1T) (.string o1T)).run Tryd.prog w = .ok (.bool true) w := fun w => str_eq o1T w
  have b3 : ∀ w : World, (binOp .eql 9 (.string o2T) (.string o2T)).run Tryd.prog w = .ok (.bool true) w := fun w => str_eq o2T w
  go_wp2_with (go_at_call 14; (first | with_reducible refine (ex4 _).mono ?_ | with_reducible refine (ex5 _).mono ?_); rintro e w4 ⟨rfl, hb⟩; replace hL := bstep hL hb; clear hb)
  go_ret
  exact ⟨rfl, hL⟩
end Go.Proofs.YtcpfbemmlmdcaaaDoor.Lx
