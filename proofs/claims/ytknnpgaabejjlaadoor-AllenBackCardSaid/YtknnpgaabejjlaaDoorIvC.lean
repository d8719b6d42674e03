/-
  The walks of layer 10's names, Names, Name, All, of, and of slices.Equal, of the program civiltime.
-/
import Derived.Test.YtknnpgaabejjlaaDoorIvA
import Derived.Test.YtknnpgaabejjlaaDoorSl
set_option linter.unusedSimpArgs false
set_option linter.unusedVariables false
namespace Go.Proofs.YtknnpgaabejjlaaDoor.Iv
open Go.RowKit Go.ChangeShapes Go.WideShapes Go.Proofs.YtknnpgaabejjlaaDoor.Sl

def nm0 : ByteArray := ⟨#[98, 101, 102, 111, 114, 101]⟩
def nm1 : ByteArray := ⟨#[109, 101, 101, 116, 115]⟩
def nm2 : ByteArray := ⟨#[111, 118, 101, 114, 108, 97, 112, 115]⟩
def nm3 : ByteArray := ⟨#[115, 116, 97, 114, 116, 115]⟩
def nm4 : ByteArray := ⟨#[100, 117, 114, 105, 110, 103]⟩
def nm5 : ByteArray := ⟨#[102, 105, 110, 105, 115, 104, 101, 115]⟩
def nm6 : ByteArray := ⟨#[101, 113, 117, 97, 108, 115]⟩
def nm7 : ByteArray := ⟨#[102, 105, 110, 105, 115, 104, 101, 100, 98, 121]⟩
def nm8 : ByteArray := ⟨#[99, 111, 110, 116, 97, 105, 110, 115]⟩
def nm9 : ByteArray := ⟨#[115, 116, 97, 114, 116, 101, 100, 98, 121]⟩
def nm10 : ByteArray := ⟨#[111, 118, 101, 114, 108, 97, 112, 112, 101, 100, 98, 121]⟩
def nm11 : ByteArray := ⟨#[109, 101, 116, 98, 121]⟩
def nm12 : ByteArray := ⟨#[97, 102, 116, 101, 114]⟩
def nms : List ByteArray := [nm0, nm1, nm2, nm3, nm4, nm5, nm6, nm7, nm8, nm9, nm10, nm11, nm12]
def nmA : Array Value := #[.string nm0, .string nm1, .string nm2, .string nm3, .string nm4, .string nm5, .string nm6, .string nm7, .string nm8, .string nm9, .string nm10, .string nm11, .string nm12]

theorem names_any (w : World) : Calls Tryd.prog 24 #[] w fun e w' => e = .returned (.agg nmA) ∧ Below w.heap.size w w' := by
  go_enter Tryd.func24, Tryd.ntmps24
  go_wp2
  go_returns
  exact ⟨rfl, by go_grown⟩

def nameZ (r : Int) : ByteArray := if 0 ≤ r ∧ r ≤ 12 then nms.getD r.toNat ⟨#[]⟩ else ⟨#[]⟩

theorem int13 (P : Int → Prop) (h : ∀ k : Nat, k < 13 → P k) (r : Int) (h1 : 0 ≤ r) (h2 : r ≤ 12) : P r := by
  have := h r.toNat (by omega)
  rwa [Int.toNat_of_nonneg h1] at this

theorem idx0 (w : World) : (Instr.index 43 (.agg nmA) (.int .i64 0)).run Tryd.prog w = .ok (.string nm0) w := by kernel_rfl
theorem idx1 (w : World) : (Instr.index 43 (.agg nmA) (.int .i64 1)).run Tryd.prog w = .ok (.string nm1) w := by kernel_rfl
theorem idx2 (w : World) : (Instr.index 43 (.agg nmA) (.int .i64 2)).run Tryd.prog w = .ok (.string nm2) w := by kernel_rfl
theorem idx3 (w : World) : (Instr.index 43 (.agg nmA) (.int .i64 3)).run Tryd.prog w = .ok (.string nm3) w := by kernel_rfl
theorem idx4 (w : World) : (Instr.index 43 (.agg nmA) (.int .i64 4)).run Tryd.prog w = .ok (.string nm4) w := by kernel_rfl
theorem idx5 (w : World) : (Instr.index 43 (.agg nmA) (.int .i64 5)).run Tryd.prog w = .ok (.string nm5) w := by kernel_rfl
theorem idx6 (w : World) : (Instr.index 43 (.agg nmA) (.int .i64 6)).run Tryd.prog w = .ok (.string nm6) w := by kernel_rfl
theorem idx7 (w : World) : (Instr.index 43 (.agg nmA) (.int .i64 7)).run Tryd.prog w = .ok (.string nm7) w := by kernel_rfl
theorem idx8 (w : World) : (Instr.index 43 (.agg nmA) (.int .i64 8)).run Tryd.prog w = .ok (.string nm8) w := by kernel_rfl
theorem idx9 (w : World) : (Instr.index 43 (.agg nmA) (.int .i64 9)).run Tryd.prog w = .ok (.string nm9) w := by kernel_rfl
theorem idx10 (w : World) : (Instr.index 43 (.agg nmA) (.int .i64 10)).run Tryd.prog w = .ok (.string nm10) w := by kernel_rfl
theorem idx11 (w : World) : (Instr.index 43 (.agg nmA) (.int .i64 11)).run Tryd.prog w = .ok (.string nm11) w := by kernel_rfl
theorem idx12 (w : World) : (Instr.index 43 (.agg nmA) (.int .i64 12)).run Tryd.prog w = .ok (.string nm12) w := by kernel_rfl
theorem name_out (r : Int) (w : World) (h : r < 0 ∨ (0 ≤ r ∧ 12 < r)) : Calls Tryd.prog 12 #[.int .i64 r] w fun e w' => e = .returned (.string ⟨#[]⟩) ∧ Below w.heap.size w w' := by
  rcases h with h | ⟨h, h2⟩
  all_goals
    go_enter Tryd.func12, Tryd.ntmps12
    go_wp2
    go_ret
    exact ⟨rfl, by go_grown⟩
theorem name_in (k : Nat) (hk : k < 13) (w : World) : Calls Tryd.prog 12 #[.int .i64 (k : Int)] w fun e w' => e = .returned (.string (nms.getD k ⟨#[]⟩)) ∧ Below w.heap.size w w' := by
  have : k = 0 ∨ k = 1 ∨ k = 2 ∨ k = 3 ∨ k = 4 ∨ k = 5 ∨ k = 6 ∨ k = 7 ∨ k = 8 ∨ k = 9 ∨ k = 10 ∨ k = 11 ∨ k = 12 := by omega
  rcases this with rfl | rfl | rfl | rfl | rfl | rfl | rfl | rfl | rfl | rfl | rfl | rfl | rfl
  · have hi := idx0
    go_enter Tryd.func12, Tryd.ntmps12
    go_wp2_with (go_at_call 24; refine (names_any _).mono ?_; rintro e w1 ⟨rfl, hb⟩)
    go_ret
    exact ⟨rfl, hb⟩
  · have hi := idx1
    go_enter Tryd.func12, Tryd.ntmps12
    go_wp2_with (go_at_call 24; refine (names_any _).mono ?_; rintro e w1 ⟨rfl, hb⟩)
    go_ret
    exact ⟨rfl, hb⟩
  · have hi := idx2
    go_enter Tryd.func12, Tryd.ntmps12
    go_wp2_with (go_at_call 24; refine (names_any _).mono ?_; rintro e w1 ⟨rfl, hb⟩)
    go_ret
    exact ⟨rfl, hb⟩
  · have hi := idx3
    go_enter Tryd.func12, Tryd.ntmps12
    go_wp2_with (go_at_call 24; refine (names_any _).mono ?_; rintro e w1 ⟨rfl, hb⟩)
    go_ret
    exact ⟨rfl, hb⟩
  · have hi := idx4
    go_enter Tryd.func12, Tryd.ntmps12
    go_wp2_with (go_at_call 24; refine (names_any _).mono ?_; rintro e w1 ⟨rfl, hb⟩)
    go_ret
    exact ⟨rfl, hb⟩
  · have hi := idx5
    go_enter Tryd.func12, Tryd.ntmps12
    go_wp2_with (go_at_call 24; refine (names_any _).mono ?_; rintro e w1 ⟨rfl, hb⟩)
    go_ret
    exact ⟨rfl, hb⟩
  · have hi := idx6
    go_enter Tryd.func12, Tryd.ntmps12
    go_wp2_with (go_at_call 24; refine (names_any _).mono ?_; rintro e w1 ⟨rfl, hb⟩)
    go_ret
    exact ⟨rfl, hb⟩
  · have hi := idx7
    go_enter Tryd.func12, Tryd.ntmps12
    go_wp2_with (go_at_call 24; refine (names_any _).mono ?_; rintro e w1 ⟨rfl, hb⟩)
    go_ret
    exact ⟨rfl, hb⟩
  · have hi := idx8
    go_enter Tryd.func12, Tryd.ntmps12
    go_wp2_with (go_at_call 24; refine (names_any _).mono ?_; rintro e w1 ⟨rfl, hb⟩)
    go_ret
    exact ⟨rfl, hb⟩
  · have hi := idx9
    go_enter Tryd.func12, Tryd.ntmps12
    go_wp2_with (go_at_call 24; refine (names_any _).mono ?_; rintro e w1 ⟨rfl, hb⟩)
    go_ret
    exact ⟨rfl, hb⟩
  · have hi := idx10
    go_enter Tryd.func12, Tryd.ntmps12
    go_wp2_with (go_at_call 24; refine (names_any _).mono ?_; rintro e w1 ⟨rfl, hb⟩)
    go_ret
    exact ⟨rfl, hb⟩
  · have hi := idx11
    go_enter Tryd.func12, Tryd.ntmps12
    go_wp2_with (go_at_call 24; refine (names_any _).mono ?_; rintro e w1 ⟨rfl, hb⟩)
    go_ret
    exact ⟨rfl, hb⟩
  · have hi := idx12
    go_enter Tryd.func12, Tryd.ntmps12
    go_wp2_with (go_at_call 24; refine (names_any _).mono ?_; rintro e w1 ⟨rfl, hb⟩)
    go_ret
    exact ⟨rfl, hb⟩
theorem name_any (r : Int) (w : World) : Calls Tryd.prog 12 #[.int .i64 r] w fun e w' => e = .returned (.string (nameZ r)) ∧ Below w.heap.size w w' := by
  by_cases h : 0 ≤ r ∧ r ≤ 12
  · rw [show nameZ r = nms.getD r.toNat ⟨#[]⟩ by unfold nameZ; rw [if_pos h]]
    have := name_in r.toNat (by omega) w
    rwa [Int.toNat_of_nonneg h.1] at this
  · rw [show nameZ r = ⟨#[]⟩ by unfold nameZ; rw [if_neg h]]
    exact name_out r w (by omega)
end Go.Proofs.YtknnpgaabejjlaaDoor.Iv
