/-
  The walks of layer 18's reading of spans (digit, span) and of the reference's, of the program civiltime.
-/
import Derived.Test.YtokbipfkpojflaaLxA
import Derived.Test.YtokbipfkpojflaaLxP
import Derived.Test.YtokbipfkpojflaaShelf
set_option linter.unusedSimpArgs false
set_option linter.unusedVariables false
namespace Go.Proofs.Ytokbipfkpojflaa.Lx
open Go.RowKit Go.ChangeShapes Go.WideShapes Go.Proofs.Ytokbipfkpojflaa.Sl

theorem digit_any (x : Nat) (w : World) : Calls Try.prog 91 #[.int .u8 x] w fun e w' => e = .returned (.bool (dgB x)) ∧ w = w' := by
  unfold dgB
  by_cases h1 : 48 ≤ x
  · go_enter Try.func91, Try.ntmps91
    go_wp2
    go_ret
    exact ⟨by simp [h1]; try omega, rfl⟩
  · go_enter Try.func91, Try.ntmps91
    go_wp2
    go_ret
    exact ⟨by simp [h1], rfl⟩
theorem digit48 (w : World) : Calls Try.prog 91 #[.int .u8 48] w fun e w' => e = .returned (.bool true) ∧ w = w' := digit_any 48 w
theorem rdigit_any (x : Nat) (w : World) : Calls Try.prog 94 #[.int .u8 x] w fun e w' => e = .returned (.bool (dgB x)) ∧ w = w' := by
  unfold dgB
  by_cases h1 : 48 ≤ x
  · go_enter Try.func94, Try.ntmps94
    go_wp2
    go_ret
    exact ⟨by simp [h1]; try omega, rfl⟩
  · go_enter Try.func94, Try.ntmps94
    go_wp2
    go_ret
    exact ⟨by simp [h1], rfl⟩

theorem cells_str (w : World) (PB : List ByteArray) (t : TypeId) : ∀ j p, PB[j]? = some p → (w.alloc (.cells (PB.map Value.string).toArray t)).cell? ⟨w.heap.size, j, none⟩ = some (.string p) := by
  intro j p h
  have := cells_new w (PB.map Value.string) t j (.string p) (by rw [List.getElem?_map, h]; rfl)
  have hadd : (⟨w.heap.size, 0, none⟩ : Addr).add j = ⟨w.heap.size, j, none⟩ := by unfold Addr.add; split <;> simp_all
  rw [hadd] at this
  exact this
theorem spanZ_small (s : ByteArray) (PB : List ByteArray) (h : PB.map (·.data.toList) = splitL 58 s.data.toList) (hl : (PB.length : Int) ≤ 3) : spanZ s = foldS 0 (PB.map (·.data.toList)) 0 := by
  unfold spanZ
  rw [← h, if_neg (by rw [List.length_map]; omega)]
theorem spanZ_big (s : ByteArray) (PB : List ByteArray) (h : PB.map (·.data.toList) = splitL 58 s.data.toList) (hl : ¬ (PB.length : Int) ≤ 3) : spanZ s = none := by
  unfold spanZ
  rw [← h, if_pos (by rw [List.length_map]; omega)]

end Go.Proofs.Ytokbipfkpojflaa.Lx
