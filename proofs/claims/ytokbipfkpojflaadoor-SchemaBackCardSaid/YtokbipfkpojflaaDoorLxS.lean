/-
  The walks of layer 18's reading of spans (digit, span) and of the reference's, of the program civiltime.
-/
import Derived.Test.YtokbipfkpojflaaDoorLxA
import Derived.Test.YtokbipfkpojflaaDoorLxP
import Derived.Test.YtokbipfkpojflaaDoorShelf
set_option linter.unusedSimpArgs false
set_option linter.unusedVariables false
namespace Go.Proofs.YtokbipfkpojflaaDoor.Lx
open Go.RowKit Go.ChangeShapes Go.WideShapes Go.Proofs.YtokbipfkpojflaaDoor.Sl

theorem digit_any (x : Nat) (w : World) : Calls Tryd.prog 51 #[.int .u8 x] w fun e w' => e = .returned (.bool (dgB x)) ∧ w = w' := by
  unfold dgB
  by_cases h1 : 48 ≤ x
  · go_enter Tryd.func51, Tryd.ntmps51
    go_wp2
    go_ret
    exact ⟨by simp [h1]; try omega, rfl⟩
  · go_enter Tryd.func51, Tryd.ntmps51
    go_wp2
    go_ret
    exact ⟨by simp [h1], rfl⟩
theorem digit48 (w : World) : Calls Tryd.prog 51 #[.int .u8 48] w fun e w' => e = .returned (.bool true) ∧ w = w' := digit_any 48 w
theorem split_any (s : ByteArray) (c : UInt8) (m : Int) (w : World) (hs : s.size < 4294967281) (hm : w.cell? ⟨0, 0, none⟩ = some (.int .i64 m)) :
    Calls Tryd.prog 12 #[.string s, .string ⟨#[c]⟩] w fun e w' => ∃ PB : List ByteArray, PB.map (·.data.toList) = splitL c s.data.toList ∧ PB.length ≤ s.size + 1 ∧
      e = .returned (.slice (some ⟨w.heap.size, 0, none⟩) PB.length PB.length) ∧ w' = w.alloc (.cells (PB.map Value.string).toArray 9) := by
  refine (Tryd.strings_Split s ⟨#[c]⟩ m w hs hm (by show 1 ≤ 1; omega)).mono ?_
  rintro e w' ⟨rfl, rfl⟩
  have hl := Lib.splitB_all ⟨#[c]⟩ (by show 1 ≤ 1; omega) 0 _ s rfl
  have hle := Lib.countB_le ⟨#[c]⟩ (by show 1 ≤ 1; omega) s.size s (Nat.le_refl _)
  exact ⟨_, splitB_one c s, by rw [hl]; omega, by rw [hl], rfl⟩

theorem cells_str (w : World) (PB : List ByteArray) (t : TypeId) : ∀ j p, PB[j]? = some p → (w.alloc (.cells (PB.map Value.string).toArray t)).cell? ⟨w.heap.size, j, none⟩ = some (.string p) := by
  intro j p h
  have := cells_new w (PB.map Value.string) t j (.string p) (by rw [List.getElem?_map, h]; rfl)
  have hadd : (⟨w.heap.size, 0, none⟩ : Addr).add j = ⟨w.heap.size, j, none⟩ := by unfold Addr.add; split <;> simp_all
  rw [hadd] at this
  exact this
theorem spanZ_small (s : ByteArray) (PB : List ByteArray) (h : PB.map (·.data.toList) = splitL 58 s.data.toList) (hl : (PB.length : Int) ≤ 3) : spanZ s = foldS 0 (PB.map (·.data.toList)) 0 := by
  unfold spanZ
  rw [← h, if_neg (by rw [List.length_map]; omega)]
theorem spanZ_big (s : ByteArray) (PB : List ByteArray) (h : PB.map (·.data.toList) = splitL 58 s.data.toList) (hl : ¬ (PB.length : Int) ≤ 3) : spanZ s = none := by
  unfold spanZ
  rw [← h, if_pos (by rw [List.length_map]; omega)]

end Go.Proofs.YtokbipfkpojflaaDoor.Lx
