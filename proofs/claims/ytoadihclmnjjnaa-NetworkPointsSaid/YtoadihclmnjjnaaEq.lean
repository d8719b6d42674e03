/-
  The walks of slices.Equal at []int and []Span.
-/
import Derived.Test.YtoadihclmnjjnaaAlS
import Derived.Test.YtoadihclmnjjnaaSpn
import Derived.Test.YtoadihclmnjjnaaIvA
set_option linter.unusedSimpArgs false
set_option linter.unusedVariables false
namespace Go.Proofs.Ytoadihclmnjjnaa.Al
open Go Go.RowKit Go.ChangeShapes Go.WideShapes Go.Proofs.Ytoadihclmnjjnaa.Bt Go.Proofs.Ytoadihclmnjjnaa.Sl

theorem take_step {α : Type} (l1 l2 : List α) (d : α) (k : Nat) (h : l1.take k = l2.take k) (hk1 : k < l1.length) (hk2 : k < l2.length) (e : l1.getD k d = l2.getD k d) : l1.take (k + 1) = l2.take (k + 1) := by
  rw [List.take_succ_eq_append_getElem hk1, List.take_succ_eq_append_getElem hk2, h]
  have : l1[k] = l2[k] := by simpa [List.getD, hk1, hk2] using e
  rw [this]
theorem ne_at {α : Type} (l1 l2 : List α) (d : α) (k : Nat) (e : l1.getD k d ≠ l2.getD k d) : l1 ≠ l2 := by rintro rfl; exact e rfl

/-- slices.Equal at []int. -/
theorem eqints_any (v1 v2 : Value) (l1 l2 : List Int) (w : World) (h1 : Sl w v1 l1.length 1 (ints l1)) (h2 : Sl w v2 l2.length 1 (ints l2)) (m1 : l1.length ≤ maxLen) :
    Calls Try.prog 25 #[v1, v2] w fun e w' => e = .returned (.bool (decide (l1 = l2))) ∧ Below w.heap.size w w' := by
  unfold maxLen at m1
  by_cases hl : l1.length = l2.length
  · by_cases hz : l1.length = 0
    · have e1 : l1 = [] := List.length_eq_zero_iff.1 hz
      have e2 : l2 = [] := List.length_eq_zero_iff.1 (hl ▸ hz)
      subst e1 e2
      obtain ⟨a1, c1, rfl⟩ := h1.form
      obtain ⟨a2, c2, rfl⟩ := h2.form
      clear h1 h2 hl hz
      go_enter Try.func25, Try.ntmps25
      go_wp2
      go_rounds 1
      go_ret
      exact ⟨rfl, by go_grown⟩
    · obtain ⟨g1, o1, c1, rfl, k1⟩ := h1.open hz
      obtain ⟨g2, o2, c2, rfl, k2⟩ := h2.open (hl ▸ hz)
      clear h1 h2
      have K1 := Lib.hid k1
      have K2 := Lib.hid k2
      clear k1 k2
      have HL := Lib.hid hl
      have hne : ¬ (decide (l1.length ≠ l2.length) = true) := by simp [hl]
      rw [← hl]
      clear hl hne hz
      go_enter Try.func25, Try.ntmps25
      go_wp2
      go_loopw [5, 13] (fun _ i wr => ∃ k : Nat, k ≤ l1.length ∧ i = .int .i64 k ∧ l1.take k = l2.take k ∧ ∃ n, wr = w.drewN n) (fun _ i _ => l1.length - (intOf i).toNat)
      case atStart => exact ⟨0, Nat.zero_le _, rfl, rfl, 0, rfl⟩
      case round =>
        obtain ⟨k, hk, rfl, ht, n, rfl⟩ := hrel
        have HT := Lib.hid ht
        clear ht
        by_cases hlt : k < l1.length
        · have hd1 := K1.out k _ (ints_get l1 k hlt)
          have hd2 := K2.out k _ (ints_get l2 k (by have := HL.out; omega))
          go_wp2
          go_quiet (fail)
          go_wp2
          · go_ret
            have t : (l1[k] != l2[k]?.getD 0) = true := by assumption
            have hne := ne_at l1 l2 0 k (by intro h; simp [List.getD, hlt] at h; simp [h] at t)
            exact ⟨by simp [hne], bdrewN (bdrewN (Below.refl _ _) _) _⟩
          · have t : (l1[k] != l2[k]?.getD 0) = false := by assumption
            have := take_step l1 l2 0 k HT.out hlt (by have := HL.out; omega) (by simpa [List.getD, hlt] using t)
            exact ⟨⟨k + 1, by omega, by go_num, this, _, rfl⟩, by simp [intOf]; omega⟩
        · go_wp2
          go_ret
          have hk' : k = l1.length := by omega
          have ht := HT.out
          rw [hk', List.take_of_length_le (Nat.le_refl _), List.take_of_length_le (by have := HL.out; omega)] at ht
          exact ⟨by simp [ht], bdrewN (Below.refl _ _) _⟩
  · obtain ⟨a1, c1, rfl⟩ := h1.form
    obtain ⟨a2, c2, rfl⟩ := h2.form
    clear h1 h2
    have hne : l1 ≠ l2 := fun h => hl (by rw [h])
    go_enter Try.func25, Try.ntmps25
    go_wp2
    go_ret
    exact ⟨by simp [hne], by go_grown⟩

theorem run_neq_span (a b c d : Int) (w : World) : (binOp .neq 48 (.agg #[.int .i64 a, .int .i64 b]) (.agg #[.int .i64 c, .int .i64 d])).run Try.prog w = .ok (.bool (!(a == c && b == d))) w := by
  cases h : (a == c)
  · simp [go_sem, h]
  · cases h2 : (b == d)
    · simp [go_sem, h, h2]
    · simp [go_sem, h, h2]
theorem run_eql_span (a b c d : Int) (w : World) : (binOp .eql 48 (.agg #[.int .i64 a, .int .i64 b]) (.agg #[.int .i64 c, .int .i64 d])).run Try.prog w = .ok (.bool (a == c && b == d)) w := by
  cases h : (a == c)
  · simp [go_sem, h]
  · cases h2 : (b == d)
    · simp [go_sem, h, h2]
    · simp [go_sem, h, h2]

/-- slices.Equal at []Span. -/
theorem eqspans_any (v1 v2 : Value) (l1 l2 : List (Int × Int)) (w : World) (h1 : Sl w v1 l1.length 2 (flat l1)) (h2 : Sl w v2 l2.length 2 (flat l2)) (m1 : l1.length ≤ maxLen) :
    Calls Try.prog 43 #[v1, v2] w fun e w' => e = .returned (.bool (decide (l1 = l2))) ∧ Below w.heap.size w w' := by
  unfold maxLen at m1
  by_cases hl : l1.length = l2.length
  · by_cases hz : l1.length = 0
    · have e1 : l1 = [] := List.length_eq_zero_iff.1 hz
      have e2 : l2 = [] := List.length_eq_zero_iff.1 (hl ▸ hz)
      subst e1 e2
      obtain ⟨a1, c1, rfl⟩ := h1.form
      obtain ⟨a2, c2, rfl⟩ := h2.form
      clear h1 h2 hl hz
      go_enter Try.func43, Try.ntmps43
      go_wp2
      go_rounds 1
      go_ret
      exact ⟨rfl, by go_grown⟩
    · obtain ⟨g1, o1, c1, rfl, k1⟩ := h1.open hz
      obtain ⟨g2, o2, c2, rfl, k2⟩ := h2.open (hl ▸ hz)
      clear h1 h2
      have K1 := Lib.hid k1
      have K2 := Lib.hid k2
      clear k1 k2
      have HL := Lib.hid hl
      have hne : ¬ (decide (l1.length ≠ l2.length) = true) := by simp [hl]
      rw [← hl]
      clear hl hne hz
      go_enter Try.func43, Try.ntmps43
      go_wp2
      go_loopw [5, 13] (fun _ i wr => ∃ k : Nat, k ≤ l1.length ∧ i = .int .i64 k ∧ l1.take k = l2.take k ∧ ∃ n, wr = w.drewN n) (fun _ i _ => l1.length - (intOf i).toNat)
      case atStart => exact ⟨0, Nat.zero_le _, rfl, rfl, 0, rfl⟩
      case round =>
        obtain ⟨k, hk, rfl, ht, n, rfl⟩ := hrel
        have HT := Lib.hid ht
        clear ht
        by_cases hlt : k < l1.length
        · have hd1 := K1.out _ _ (flat_get0 l1 k hlt)
          have he1 := K1.out _ _ (flat_get1 l1 k hlt); rw [← Nat.add_assoc] at he1
          have hd2 := K2.out _ _ (flat_get0 l2 k (by have := HL.out; omega))
          have he2 := K2.out _ _ (flat_get1 l2 k (by have := HL.out; omega)); rw [← Nat.add_assoc] at he2
          have hq := run_neq_span
          go_wp2
          go_quiet (fail)
          go_wp2
          · go_ret
            have t : (!l1[k].fst == (l2[k]?.getD (0, 0)).fst) = true ∨ (!l1[k].snd == (l2[k]?.getD (0, 0)).snd) = true := by assumption
            have hne := ne_at l1 l2 (0, 0) k (by intro h; simp [List.getD, hlt] at h; simp [h] at t)
            exact ⟨by simp [hne], bdrewN (bdrewN (Below.refl _ _) _) _⟩
          · have t : (!l1[k].fst == (l2[k]?.getD (0, 0)).fst) = false ∧ (!l1[k].snd == (l2[k]?.getD (0, 0)).snd) = false := by assumption
            have := take_step l1 l2 (0, 0) k HT.out hlt (by have := HL.out; omega) (by simp only [List.getD, List.getElem?_eq_getElem hlt, Option.getD_some]; exact Prod.ext (by simpa using t.1) (by simpa using t.2))
            exact ⟨⟨k + 1, by omega, by go_num, this, _, rfl⟩, by simp [intOf]; omega⟩
        · go_wp2
          go_ret
          have hk' : k = l1.length := by omega
          have ht := HT.out
          rw [hk', List.take_of_length_le (Nat.le_refl _), List.take_of_length_le (by have := HL.out; omega)] at ht
          exact ⟨by simp [ht], bdrewN (Below.refl _ _) _⟩
  · obtain ⟨a1, c1, rfl⟩ := h1.form
    obtain ⟨a2, c2, rfl⟩ := h2.form
    clear h1 h2
    have hne : l1 ≠ l2 := fun h => hl (by rw [h])
    go_enter Try.func43, Try.ntmps43
    go_wp2
    go_ret
    exact ⟨by simp [hne], by go_grown⟩
end Go.Proofs.Ytoadihclmnjjnaa.Al
