/-
  The walk of layer 18's examples (awake), of the program civiltime.
-/
import Derived.Test.YtokbipfkpojflaaDoorLxL
import Derived.Test.YtokbipfkpojflaaDoorLxC
set_option linter.unusedSimpArgs false
set_option linter.unusedVariables false
namespace Go.Proofs.YtokbipfkpojflaaDoor.Lx
open Go.RowKit Go.ChangeShapes Go.WideShapes Go.Proofs.YtokbipfkpojflaaDoor.Sl

def exT : ByteArray := ⟨#[82, 117, 108, 101, 32, 65, 32, 50, 58, 48, 48, 115, 32, 35, 32, 99, 111, 109, 109, 101, 110, 116]⟩
def w1T : ByteArray := ⟨#[82, 117, 108, 101]⟩
def w2T : ByteArray := ⟨#[65]⟩
def w3T : ByteArray := ⟨#[50, 58, 48, 48, 115]⟩
def o1T : ByteArray := ⟨#[45, 51, 58, 51, 48]⟩
def o2T : ByteArray := ⟨#[49, 58, 48, 48]⟩
theorem ex_lines : linesR exT = ([[(w1T, 1, 1), (w2T, 1, 6), (w3T, 1, 8)]], (0, 0), 0) := by kernel_rfl
theorem ex_clock : clkZ w3T = (7200, 2, 0) := by kernel_rfl
theorem ex_off : offZ o1T = (-12600, 0) := by kernel_rfl
theorem ex_o1 : offS (-12600) = o1T := by kernel_rfl
theorem ex_o2 : offS 3600 = o2T := by kernel_rfl

theorem str_eq (a : ByteArray) (w : World) : (binOp .eql 9 (.string a) (.string a)).run Tryd.prog w = .ok (.bool true) w := by simp [go_sem]
theorem tok_eq (w : World) : (binOp .eql 71 (.agg #[.string w3T, .int .i64 1, .int .i64 8]) (.agg #[.string w3T, .int .i64 1, .int .i64 8])).run Tryd.prog w = .ok (.bool true) w := by kernel_rfl

end Go.Proofs.YtokbipfkpojflaaDoor.Lx
