/-
  The walks of layer 33's Valid and all, of the program civiltime.
-/
import Derived.Test.YtokbipfkpojflaaChecked
import Derived.Test.YtokbipfkpojflaaSl
import Derived.Test.YtokbipfkpojflaaVaT
import Derived.Test.YtokbipfkpojflaaVaE
import Derived.Test.YtokbipfkpojflaaShelf
import Derived.WalkKit
import Derived.ProofKit
import Derived.OpenShut
import Derived.Handy
import Derived.WalkLawsBesides
import Derived.WalkSpells
import Derived.Outline
import Derived.Lib.Hide
import Derived.BigQuiet
import Derived.Deep.QuietTactic
import Derived.Deep.RegionHeld3
set_option linter.unusedSimpArgs false
set_option linter.unusedVariables false
namespace Go.Proofs.Ytokbipfkpojflaa.Va
open Go.RowKit Go.ChangeShapes Go.WideShapes Go.Proofs.Ytokbipfkpojflaa.Sl Go.Lib

abbrev agV (k n : Int) (s : ByteArray) : Value := .agg #[.int .i64 k, .int .i64 n, .string s]
theorem str_eq (a : ByteArray) (w : World) : (binOp .eql 9 (.string a) (.string a)).run Try.prog w = .ok (.bool true) w := by simp [go_sem]
theorem str_ne (z x : ByteArray) (he : ¬ z = x) (w : World) : (binOp .eql 9 (.string z) (.string x)).run Try.prog w = .ok (.bool false) w := by
  have h2 : ¬ z.toList = x.toList := fun h => he (by
    rw [ByteArray.toList_eq, ByteArray.toList_eq] at h
    exact ByteArray.ext (Array.toList_inj.1 h))
  simp [go_sem, h2]

/-- Valid's closure on runes. -/
theorem pred_bad (w : World) : PredAt Try.prog 104 #[] encR badR w := fun W r _ => by
  unfold FnGives badR
  by_cases h1 : r < 32 <;> by_cases h2 : 126 < r
  all_goals
    have z1 : (r : Int) < 32 ↔ r < 32 := by omega
    have z2 : (126 : Int) < (r : Int) ↔ 126 < r := by omega
    go_enter Try.func104, Try.ntmps104
    go_wp2
    all_goals first | (exfalso; omega) | (go_ret; exact ⟨by simp [h1, h2], 0, rfl⟩)

theorem contains_any (s : ByteArray) (w : World) :
    Calls Try.prog 103 #[.string s, .func (.func 104) #[] #[]] w fun e w' => e = .returned (.bool (!txtB s)) ∧ Below w.heap.size w w' := by
  rw [← idx_txt]
  exact Try.strings_ContainsFunc 104 #[] (enters_of Try.func104 (by kernel_rfl) rfl) badR s w (pred_bad w)

theorem valid_else (k n : Int) (s : ByteArray) (w : World) (h1 : ¬ k = 1) (h2 : ¬ k = 2) (h3 : ¬ k = 3) (h4 : ¬ k = 4) :
    Calls Try.prog 87 #[agV k n s] w fun e w' => e = .returned (.bool false) ∧ Below w.heap.size w w' := by
  go_enter Try.func87, Try.ntmps87
  go_wp2
  go_ret
  exact ⟨rfl, by go_grown⟩
theorem list_ne (s : ByteArray) (h : ¬ s = ⟨#[]⟩) : ¬ s.toList = [] ∧ s.toList.isEmpty = false ∧ ¬ s.size = 0 := by
  have h1 : ¬ s.toList = [] := fun h2 => h (by
    rw [ByteArray.toList_eq] at h2
    exact ByteArray.ext (Array.toList_inj.1 h2))
  refine ⟨h1, by simpa using h1, fun h3 => h (size_zero s h3)⟩
theorem valid1 (n : Int) (s : ByteArray) (w : World) :
    Calls Try.prog 87 #[agV 1 n s] w fun e w' => e = .returned (.bool (decide (s.size = 0))) ∧ Below w.heap.size w w' := by
  by_cases hs : s = ⟨#[]⟩
  · have z0 : (⟨#[]⟩ : ByteArray).size = 0 := rfl
    subst hs
    go_enter Try.func87, Try.ntmps87
    go_wp2
    go_ret
    exact ⟨by simp [z0], by go_grown⟩
  · obtain ⟨h1, h2, h3⟩ := list_ne s hs
    go_enter Try.func87, Try.ntmps87
    go_wp2
    go_ret
    exact ⟨by simp [h3], by go_grown⟩
theorem valid3 (n : Int) (s : ByteArray) (w : World) :
    Calls Try.prog 87 #[agV 3 n s] w fun e w' => e = .returned (.bool (decide (s.size = 0) && (decide (n = 0) || decide (n = 1)))) ∧ Below w.heap.size w w' := by
  by_cases hs : s = ⟨#[]⟩
  · have z0 : (⟨#[]⟩ : ByteArray).size = 0 := rfl
    subst hs
    by_cases h0 : n = 0
    · subst h0
      go_enter Try.func87, Try.ntmps87
      go_wp2
      go_ret
      exact ⟨by simp [z0], by go_grown⟩
    · by_cases h1 : n = 1
      · subst h1
        go_enter Try.func87, Try.ntmps87
        go_wp2
        go_ret
        exact ⟨by simp [z0], by go_grown⟩
      · go_enter Try.func87, Try.ntmps87
        go_wp2
        go_ret
        exact ⟨by simp [z0, h0, h1], by go_grown⟩
  · obtain ⟨h1, h2, h3⟩ := list_ne s hs
    go_enter Try.func87, Try.ntmps87
    go_wp2
    go_ret
    exact ⟨by simp [h3], by go_grown⟩
theorem valid4 (n : Int) (s : ByteArray) (w : World) :
    Calls Try.prog 87 #[agV 4 n s] w fun e w' => e = .returned (.bool (decide (s.size = 0) && decide (-62135596800 ≤ n) && decide (n ≤ 253402300800))) ∧ Below w.heap.size w w' := by
  by_cases hs : s = ⟨#[]⟩
  · have z0 : (⟨#[]⟩ : ByteArray).size = 0 := rfl
    subst hs
    by_cases h0 : -62135596800 ≤ n
    · by_cases h1 : n ≤ 253402300800
      · go_enter Try.func87, Try.ntmps87
        go_wp2
        go_ret
        exact ⟨by simp [z0, h0, h1], by go_grown⟩
      · go_enter Try.func87, Try.ntmps87
        go_wp2
        go_ret
        exact ⟨by simp [z0, h0, h1], by go_grown⟩
    · go_enter Try.func87, Try.ntmps87
      go_wp2
      go_ret
      exact ⟨by simp [z0, h0]; try omega, by go_grown⟩
  · obtain ⟨h1, h2, h3⟩ := list_ne s hs
    go_enter Try.func87, Try.ntmps87
    go_wp2
    go_ret
    exact ⟨by simp [h3], by go_grown⟩
theorem valid2 (n : Int) (s : ByteArray) (w : World) :
    Calls Try.prog 87 #[agV 2 n s] w fun e w' => e = .returned (.bool (decide (n = 0) && decide (s.size ≤ 30) && txtB s)) ∧ Below w.heap.size w w' := by
  by_cases h0 : n = 0
  · subst h0
    by_cases h1 : s.size ≤ 30
    · obtain ⟨c, hc⟩ : ∃ c, txtB s = c := ⟨_, rfl⟩
      have HC := contains_any s
      rw [hc] at HC
      have z1 : (s.size : Int) ≤ 30 := by omega
      rw [hc]
      clear hc
      go_enter Try.func87, Try.ntmps87
      go_wp2_with (go_at_call 103; ((with_reducible refine (HC _).mono ?_); rintro e w1 ⟨rfl, hL⟩))
      go_ret
      exact ⟨by simp [h1], (by have hB := bstep (w := w) (by go_grown) hL; have hs := hB.size; go_grown)⟩
    · have z1 : ¬ (s.size : Int) ≤ 30 := by omega
      go_enter Try.func87, Try.ntmps87
      go_wp2
      go_ret
      exact ⟨by simp [h1], by go_grown⟩
  · go_enter Try.func87, Try.ntmps87
    go_wp2
    go_ret
    exact ⟨by simp [h0], by go_grown⟩
theorem valid_any (v : V3) (w : World) : Calls Try.prog 87 #[agV v.1 v.2.1 v.2.2] w fun e w' => e = .returned (.bool (validV v)) ∧ Below w.heap.size w w' := by
  obtain ⟨k, n, s⟩ := v
  show Calls Try.prog 87 #[agV k n s] w _
  unfold validV
  by_cases h1 : k = 1
  · subst h1; exact valid1 n s w
  by_cases h2 : k = 2
  · subst h2; exact valid2 n s w
  by_cases h3 : k = 3
  · subst h3; exact valid3 n s w
  by_cases h4 : k = 4
  · subst h4; exact valid4 n s w
  rw [if_neg h1, if_neg h2, if_neg h3, if_neg h4]
  exact valid_else k n s w h1 h2 h3 h4
end Go.Proofs.Ytokbipfkpojflaa.Va
