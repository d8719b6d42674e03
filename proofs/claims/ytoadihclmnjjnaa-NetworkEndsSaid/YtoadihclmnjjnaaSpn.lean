/-
  Lists of spans in cells; the walk of allen's spans (the intervals between 0 and 5).
-/
import Derived.Test.YtoadihclmnjjnaaChecked
import Derived.Test.YtoadihclmnjjnaaSl
import Derived.Test.YtoadihclmnjjnaaIvA
import Derived.WalkKit
import Derived.OpenShut
import Derived.WalkLawsBesides
import Derived.WalkSpells
import Derived.Outline
import Derived.Lib.Hide
import Derived.Deep.DeepMust
set_option linter.unusedSimpArgs false
set_option linter.unusedVariables false
namespace Go.Proofs.Ytoadihclmnjjnaa.Al
open Go Go.RowKit Go.Proofs.Ytoadihclmnjjnaa.Sl

def flat (l : List (Int × Int)) : List Value := l.flatMap fun p => [.int .i64 p.1, .int .i64 p.2]
def ints (l : List Int) : List Value := l.map (.int .i64)
theorem flat_length (l : List (Int × Int)) : (flat l).length = l.length * 2 := by induction l with | nil => rfl | cons p l ih => simp [flat] at ih ⊢; omega
theorem flat_snoc (l : List (Int × Int)) (a b : Int) : flat (l ++ [(a, b)]) = flat l ++ [.int .i64 a, .int .i64 b] := by simp [flat]
theorem ints_length (l : List Int) : (ints l).length = l.length * 1 := by simp [ints]
theorem ints_get (l : List Int) (k : Nat) (h : k < l.length) : (ints l)[k]? = some (.int .i64 (l.getD k 0)) := by simp [ints, h]
theorem flat_get0 (l : List (Int × Int)) : ∀ (k : Nat), k < l.length → (flat l)[k * 2]? = some (.int .i64 (l.getD k (0, 0)).1) := by
  induction l with
  | nil => intro k h; simp at h
  | cons p l ih =>
    intro k h
    cases k with
    | zero => simp [flat]
    | succ k => have := ih k (by simpa using h); rw [show (k + 1) * 2 = k * 2 + 1 + 1 by omega]; simpa [flat] using this
theorem flat_get1 (l : List (Int × Int)) : ∀ (k : Nat), k < l.length → (flat l)[k * 2 + 1]? = some (.int .i64 (l.getD k (0, 0)).2) := by
  induction l with
  | nil => intro k h; simp at h
  | cons p l ih =>
    intro k h
    cases k with
    | zero => simp [flat]
    | succ k => have := ih k (by simpa using h); rw [show (k + 1) * 2 + 1 = k * 2 + 1 + 1 + 1 by omega]; simpa [flat] using this

/-- The spans that are laid when the loops stand at k, j. -/
def spTo (k j : Nat) : List (Int × Int) := (List.range 5).flatMap fun a => (List.range 6).filterMap fun b => if a < b ∧ (a < k ∨ (a = k ∧ b < j)) then some ((a : Int), (b : Int)) else none
/-- The intervals between 0 and 5. -/
def spL : List (Int × Int) := spTo 5 6
theorem spTo_step : ∀ k < 5, ∀ j < 6, k < j → spTo k (j + 1) = spTo k j ++ [((k : Int), (j : Int))] := by decide
theorem spTo_next : ∀ k < 5, spTo k 6 = spTo (k + 1) (k + 1 + 1) := by decide
theorem spTo_len : ∀ k < 6, ∀ j < 7, (spTo k j).length ≤ 15 := by decide
theorem spTo_zero : spTo 0 1 = [] := by decide
theorem spL_len : spL.length = 15 := by decide
theorem info_span : (Try.prog.info? 48).map (fun i => (i.zero, i.size, i.bytes)) = some (some (.agg #[.int .i64 0, .int .i64 0]), 2, 16) := by kernel_rfl

set_option maxHeartbeats 2000000 in
set_option maxRecDepth 100000 in
theorem spans_any (w : World) : Calls Try.prog 107 #[] w fun e w' => ∃ v, e = .returned v ∧ w'.ownsRow w.heap.size 48 2 v spL.length (flat spL) ∧ Below w.heap.size w w' := by
  obtain ⟨i0, hi, hz0, hz1, hz2⟩ := info_parts info_span
  go_enter Try.func107, Try.ntmps107
  go_wp2
  go_loopw [1, 4] (fun v i wr => ∃ k : Nat, k ≤ 5 ∧ i = .int .i64 k ∧ wr.ownsRow w.heap.size 48 2 v (spTo k (k + 1)).length (flat (spTo k (k + 1))) ∧ Below w.heap.size w wr) (fun _ i _ => 5 - (intOf i).toNat)
  case atStart => exact ⟨0, by omega, rfl, by rw [spTo_zero]; exact World.ownsRow_nil _ _ _ _, Below.refl _ _⟩
  case round =>
    obtain ⟨wo, rfl⟩ : ∃ wo : World, wo = wr := ⟨_, rfl⟩
    obtain ⟨k, hk, rfl, hown, hL⟩ := hrel
    by_cases hlt : k < 5
    · have h5 : decide ((k : Int) < 5) = true := by simp; omega
      go_wp2
      go_loopw [1, 3] (fun v t wr => ∃ j : Nat, k < j ∧ j ≤ 6 ∧ t = .int .i64 j ∧ wr.ownsRow w.heap.size 48 2 v (spTo k j).length (flat (spTo k j)) ∧ Below w.heap.size w wr) (fun _ t _ => 6 - (intOf t).toNat)
      case atStart => exact ⟨k + 1, by omega, by omega, by go_num, hown, hL⟩
      case round =>
        obtain ⟨j, hj, hj6, rfl, hown2, hL2⟩ := hrel
        have hlen := spTo_len k (by omega) j (by omega)
        by_cases hjl : j < 6
        · have hs := Lib.hid (spTo_step k hlt j hjl hj)
          go_wp2_with (at_builtin; go_must (refine wpList_app1 hL2 rfl (.tmp 13) (.tmp 17) 46 rfl 48 Try.underlying46 hi hz0 hz1 hz2 rfl (by decide) u1 (spTo k j).length (flat (spTo k j)) rfl [.int .i64 (k : Int), .int .i64 (j : Int)] 48 hown2 rfl (by simp) rfl (by intro u hu; simp at hu; rcases hu with rfl | rfl <;> rfl) (by unfold maxLen; omega) (by omega) ?_); intro g cap w1 hown1 hL1)
          go_roundw
          case rel =>
            have R : w1.ownsRow w.heap.size 48 2 (.slice (some ⟨g, 0, none⟩) ((spTo k j).length + 1) cap) (spTo k (j + 1)).length (flat (spTo k (j + 1))) := by
              rw [hs.out, flat_snoc, List.length_append]
              exact hown1
            exact ⟨j + 1, by omega, by omega, by go_num, R, hL1⟩
          case measure => simp [intOf]; omega
        · obtain rfl : j = 6 := by omega
          have hn := Lib.hid (spTo_next k hlt)
          go_wp2
          go_roundw
          case rel => exact ⟨k + 1, by omega, by go_num, by rw [← hn.out]; exact hown2, hL2⟩
          case measure => simp [intOf]; omega
    · obtain rfl : k = 5 := by omega
      go_wp2
      go_ret
      exact ⟨_, rfl, hown, hL⟩
end Go.Proofs.Ytoadihclmnjjnaa.Al
