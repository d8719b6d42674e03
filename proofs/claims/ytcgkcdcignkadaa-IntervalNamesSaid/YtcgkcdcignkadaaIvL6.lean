/-
  The walk of the law IntervalNames.
-/
import Derived.Test.YtcgkcdcignkadaaIvN
import Derived.Test.YtcgkcdcignkadaaIvE
set_option linter.unusedSimpArgs false
set_option linter.unusedVariables false
namespace Go.Proofs.Ytcgkcdcignkadaa.Iv
open Go.RowKit Go.ChangeShapes Go.WideShapes Go.Proofs.Ytcgkcdcignkadaa.Sl

set_option maxHeartbeats 1000000 in
theorem intervalNames_long (r : Int) (s : ByteArray) (h : 1000 < s.size) (w : World) : Calls Try.prog 5 #[.int .i64 r, .string s] w fun e w' => e = .returned (.bool true) ∧ Below w.heap.size w w' := by
  go_enter Try.func5, Try.ntmps5
  go_wp2_with fail
  refine (awake_any _).mono ?_
  rintro e w1 ⟨rfl, hb⟩
  have hB : Below w.heap.size w w1 := bstep (by go_grown) hb
  clear hb
  go_wp2_with fail
  go_ret
  exact ⟨rfl, by go_grown⟩
theorem parse_name (k : Nat) (hk : k < 13) : parseZ (nms.getD k ⟨#[]⟩) = ((k : Int), 0) := by
  have : k = 0 ∨ k = 1 ∨ k = 2 ∨ k = 3 ∨ k = 4 ∨ k = 5 ∨ k = 6 ∨ k = 7 ∨ k = 8 ∨ k = 9 ∨ k = 10 ∨ k = 11 ∨ k = 12 := by omega
  rcases this with rfl | rfl | rfl | rfl | rfl | rfl | rfl | rfl | rfl | rfl | rfl | rfl | rfl <;>
  · unfold parseZ
    simp only [ByteArray.toList_eq]
    rfl
theorem parse_empty : parseZ ⟨#[]⟩ = (0, 3) := by
  unfold parseZ
  simp only [ByteArray.toList_eq]
  rfl
theorem parse_in {r : Int} (h1 : 0 ≤ r) (h2 : r ≤ 12) : parseZ (nameZ r) = (r, 0) := by
  rw [show nameZ r = nms.getD r.toNat ⟨#[]⟩ by unfold nameZ; rw [if_pos ⟨h1, h2⟩], parse_name r.toNat (by omega), Int.toNat_of_nonneg h1]
theorem parse_out {r : Int} (h : r < 0 ∨ 12 < r) : parseZ (nameZ r) = (0, 3) := by
  rw [show nameZ r = ⟨#[]⟩ by unfold nameZ; rw [if_neg (by omega)], parse_empty]
set_option maxHeartbeats 2000000 in
theorem intervalNames_in (r : Int) (s : ByteArray) (h : ¬ 1000 < s.size) (h1 : 0 ≤ r) (h2 : r ≤ 12) (w : World) : Calls Try.prog 5 #[.int .i64 r, .string s] w fun e w' => e = .returned (.bool true) ∧ Below w.heap.size w w' := by
  have e1 := parse_in h1 h2
  go_enter Try.func5, Try.ntmps5
  go_wp2_with fail
  refine (awake_any _).mono ?_
  rintro e w1 ⟨rfl, hb⟩
  have hB : Below w.heap.size w w1 := bstep (by go_grown) hb
  clear hb
  go_wp2_with fail
  refine (parse_any _ _).mono ?_
  rintro e w2 ⟨rfl, hb⟩
  have hq : Below w1.heap.size w1 w2 := bstep (by go_grown) hb
  replace hB := bstep hB hq
  clear hq
  clear hb
  go_wp2_with fail
  refine (rparse_any _ _).mono ?_
  rintro e w3 ⟨rfl, hb⟩
  have hq : Below w2.heap.size w2 w3 := bstep (by go_grown) hb
  replace hB := bstep hB hq
  clear hq
  clear hb
  go_wp2_with fail
  refine (name_any _ _).mono ?_
  rintro e w4 ⟨rfl, hb⟩
  have hq : Below w3.heap.size w3 w4 := bstep (by go_grown) hb
  replace hB := bstep hB hq
  clear hq
  clear hb
  go_wp2_with fail
  refine (parse_any _ _).mono ?_
  rintro e w5 ⟨rfl, hb⟩
  have hq : Below w4.heap.size w4 w5 := bstep (by go_grown) hb
  replace hB := bstep hB hq
  clear hq
  clear hb
  go_wp2_with fail
  refine (name_any _ _).mono ?_
  rintro e w6 ⟨rfl, hb⟩
  have hq : Below w5.heap.size w5 w6 := bstep (by go_grown) hb
  replace hB := bstep hB hq
  clear hq
  clear hb
  go_wp2_with fail
  refine (rname_any _ _).mono ?_
  rintro e w7 ⟨rfl, hb⟩
  have hq : Below w6.heap.size w6 w7 := bstep (by go_grown) hb
  replace hB := bstep hB hq
  clear hq
  clear hb
  go_wp2_with fail
  go_ret
  exact ⟨rfl, by go_grown⟩
set_option maxHeartbeats 2000000 in
theorem intervalNames_out (r : Int) (s : ByteArray) (h : ¬ 1000 < s.size) (h1 : r < 0 ∨ (0 ≤ r ∧ 12 < r)) (w : World) : Calls Try.prog 5 #[.int .i64 r, .string s] w fun e w' => e = .returned (.bool true) ∧ Below w.heap.size w w' := by
  have e1 : parseZ (nameZ r) = (0, 3) := parse_out (by omega)
  rcases h1 with h1 | ⟨h0, h1⟩
  all_goals (try have hd : decide (r ≤ 12) = false := decide_eq_false (Int.not_le.2 h1))
  all_goals
    go_enter Try.func5, Try.ntmps5
    go_wp2_with fail
    refine (awake_any _).mono ?_
    rintro e w1 ⟨rfl, hb⟩
    have hB : Below w.heap.size w w1 := bstep (by go_grown) hb
    clear hb
    go_wp2_with fail
    refine (parse_any _ _).mono ?_
    rintro e w2 ⟨rfl, hb⟩
    have hq : Below w1.heap.size w1 w2 := bstep (by go_grown) hb
    replace hB := bstep hB hq
    clear hq
    clear hb
    go_wp2_with fail
    refine (rparse_any _ _).mono ?_
    rintro e w3 ⟨rfl, hb⟩
    have hq : Below w2.heap.size w2 w3 := bstep (by go_grown) hb
    replace hB := bstep hB hq
    clear hq
    clear hb
    go_wp2_with fail
    refine (name_any _ _).mono ?_
    rintro e w4 ⟨rfl, hb⟩
    have hq : Below w3.heap.size w3 w4 := bstep (by go_grown) hb
    replace hB := bstep hB hq
    clear hq
    clear hb
    go_wp2_with fail
    refine (parse_any _ _).mono ?_
    rintro e w5 ⟨rfl, hb⟩
    have hq : Below w4.heap.size w4 w5 := bstep (by go_grown) hb
    replace hB := bstep hB hq
    clear hq
    clear hb
    go_wp2_with fail
    refine (name_any _ _).mono ?_
    rintro e w6 ⟨rfl, hb⟩
    have hq : Below w5.heap.size w5 w6 := bstep (by go_grown) hb
    replace hB := bstep hB hq
    clear hq
    clear hb
    go_wp2_with fail
    refine (rname_any _ _).mono ?_
    rintro e w7 ⟨rfl, hb⟩
    have hq : Below w6.heap.size w6 w7 := bstep (by go_grown) hb
    replace hB := bstep hB hq
    clear hq
    clear hb
    go_wp2_with fail
    go_ret
    exact ⟨rfl, by go_grown⟩
theorem intervalNames_walk (r : Int) (s : ByteArray) (wr : (Lit.int .i64 r).wf = true) (ws : s.size ≤ maxLen) (w : World) : Calls Try.prog 5 #[.int .i64 r, .string s] w fun e w' => e = .returned (.bool true) ∧ Below w.heap.size w w' := by
  by_cases h : 1000 < s.size
  · exact intervalNames_long r s h w
  by_cases h1 : r < 0
  · exact intervalNames_out r s h (.inl h1) w
  by_cases h2 : 12 < r
  · exact intervalNames_out r s h (.inr ⟨by omega, h2⟩) w
  exact intervalNames_in r s h (by omega) (by omega) w
end Go.Proofs.Ytcgkcdcignkadaa.Iv
