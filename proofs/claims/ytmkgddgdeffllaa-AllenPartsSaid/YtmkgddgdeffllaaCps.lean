/-
  The walk of AllenComposes.
-/
import Derived.Test.YtmkgddgdeffllaaRef4
set_option linter.unusedSimpArgs false
set_option linter.unusedVariables false
namespace Go.Proofs.Ytmkgddgdeffllaa.Al
open Go Go.RowKit Go.Proofs.Ytmkgddgdeffllaa.Bt Go.Proofs.Ytmkgddgdeffllaa.Sl

/-- The relations of a number, none where it is no set. -/
def sg (s : Int) : List (Fin 13) := if isSetB s then singF s.toNat else []
theorem sg_len (s : Int) : (sg s).length ≤ 13 := by
  unfold sg; split
  · exact singTo_len _ 13
  · simp
theorem none_some (w w' : World) (h : Below w.heap.size w w') : SomeInts [] w (.returned (.slice none 0 0)) w' := ⟨_, rfl, Sl.mk0 _ _ _ _, h⟩
theorem singles_gen (s : Int) (w : World) : Calls Try.prog 24 #[.int .i64 s] w (SomeInts (sg s) w) := by
  unfold sg
  cases h : isSetB s
  · exact (singles_none s w h).mono fun e w' ⟨h1, h2⟩ => by subst h1; exact none_some w w' h2
  · obtain ⟨m, rfl⟩ : ∃ m : Nat, s = m := ⟨s.toNat, by simp [isSetB] at h; omega⟩
    exact singles_any m (by simp [isSetB] at h; omega) w
theorem rsingles_gen (s : Int) (w : World) : Calls Try.prog 30 #[.int .i64 s] w (SomeInts (sg s) w) := by
  unfold sg
  cases h : isSetB s
  · exact (rsingles_none s w h).mono fun e w' ⟨h1, h2⟩ => by subst h1; exact none_some w w' h2
  · obtain ⟨m, rfl⟩ : ∃ m : Nat, s = m := ⟨s.toNat, by simp [isSetB] at h; omega⟩
    exact rsingles_set m (by simp [isSetB] at h; omega) w
theorem relV_ints (L : List (Fin 13)) : L.map relV = ints (L.map fun x => (x.val : Int)) := by simp [ints, relV]
theorem eqrel_any (L : List (Fin 13)) (hL : L.length ≤ 13) (v1 v2 : Value) (w : World) (h1 : Sl w v1 L.length 1 (L.map relV)) (h2 : Sl w v2 L.length 1 (L.map relV)) : Calls Try.prog 29 #[v1, v2] w fun e w' => e = .returned (.bool true) ∧ Below w.heap.size w w' := by
  have := eqints_any v1 v2 (L.map fun x => (x.val : Int)) (L.map fun x => (x.val : Int)) w (by rw [← relV_ints]; simpa using h1) (by rw [← relV_ints]; simpa using h2) (by unfold maxLen; simp; omega)
  simpa using this

set_option maxHeartbeats 2000000 in
theorem allenComposes_walk (a b : Int) (_ : (Lit.int .i64 a).wf = true) (_ : (Lit.int .i64 b).wf = true) (w : World) : Calls Try.prog 10 #[.int .i64 a, .int .i64 b] w fun e w' => e = .returned (.bool true) ∧ Below w.heap.size w w' := by
  have hl := sg_len a
  have f1 := singles_gen a
  have f2 := rsingles_gen a
  generalize sg a = L at *
  go_enter Try.func10, Try.ntmps10
  go_wp2_with (first | (go_at_call 11; (with_reducible refine (awake_any _).mono ?_); rintro e w1 ⟨rfl, hL⟩) | (go_at_call 21; (with_reducible refine (compose_any a b _).mono ?_); rintro e w1 ⟨rfl, hb⟩; replace hL := Sl.bstep hL hb; clear hb) | (go_at_call 27; (with_reducible refine (rcompose_any a b _).mono ?_); rintro e w1 ⟨rfl, hb⟩; replace hL := Sl.bstep hL hb; clear hb) | (go_at_call 18; (with_reducible refine (invs_any a _).mono ?_); rintro e w1 ⟨rfl, hb⟩; replace hL := Sl.bstep hL hb; clear hb) | (go_at_call 28; (with_reducible refine (rinvs_any a _).mono ?_); rintro e w1 ⟨rfl, hb⟩; replace hL := Sl.bstep hL hb; clear hb) | (go_at_call 24; (with_reducible refine (f1 _).mono ?_); rintro e w1 ⟨v1, rfl, s1, hb⟩; replace hL := Sl.bstep hL hb; clear hb) | (go_at_call 30; (with_reducible refine (f2 _).mono ?_); rintro e w1 ⟨v2, rfl, s2, hb⟩; replace hL := Sl.bstep hL hb; replace s1 := s1.below hb; clear hb) | (go_at_call 29; (with_reducible refine (eqrel_any L hl _ _ _ s1 s2).mono ?_); rintro e w1 ⟨rfl, hb⟩; replace hL := Sl.bstep hL hb; clear hb))
  go_ret
  exact ⟨rfl, hL⟩
end Go.Proofs.Ytmkgddgdeffllaa.Al
