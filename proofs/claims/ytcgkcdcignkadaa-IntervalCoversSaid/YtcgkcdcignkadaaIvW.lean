/-
  The walk of layer 10's awake (the examples of the chapter hold), of the program civiltime.
-/
import Derived.Test.YtcgkcdcignkadaaIvH
import Derived.Test.YtcgkcdcignkadaaIvB
import Derived.Test.YtcgkcdcignkadaaSl2
set_option linter.unusedSimpArgs false
set_option linter.unusedVariables false
namespace Go.Proofs.Ytcgkcdcignkadaa.Iv
open Go.RowKit Go.ChangeShapes Go.WideShapes Go.Proofs.Ytcgkcdcignkadaa.Sl

theorem kp_below {w wa : World} {cs : List (Nat × Nat × Value)} (h : Kp w cs wa) : Below w.heap.size w wa := h.1
set_option maxHeartbeats 4000000 in
theorem awake_any (w : World) : Calls Try.prog 11 #[] w fun e w' => e = .returned (.bool true) ∧ Below w.heap.size w w' := by
  have e1 : ofZ 0 4 2 6 = 2 := by decide
  have e2 : ofZ 0 4 4 5 = 1 := by decide
  have e3 : ofZ 0 4 0 4 = 6 := by decide
  have e4 : ofZ 0 4 1 4 = 7 := by decide
  have e5 : minusL 0 10 3 5 = [(0, 3), (5, 10)] := by decide
  have e6 : nameZ 6 = nm6 := by decide
  have e7 : nm6.toList = [101, 113, 117, 97, 108, 115] := by rw [ByteArray.toList_eq]; rfl
  go_enter Try.func11, Try.ntmps11
  go_wp2_with (first | (go_at_call 35; ((with_reducible refine (lawof_any _ _ _).mono ?_); rintro e w1 ⟨rfl, hb⟩; (first | (replace hL := bstep hL hb) | (have hL := hb)); clear hb; replace hc := bcell hL)))
  have hs := hL.size
  have hK : Kp w [(w1.heap.size, 0, .int .i64 0), (w1.heap.size, 1, .int .i64 4)] (w1.alloc (Obj.cells #[Value.int IntKind.i64 0, Value.int IntKind.i64 4] 23)).drew :=
    (((Kp.start (by go_grown)).add _ _ _ (by simp)).add _ _ _ (by simp)).drew
  have k0 : ∀ w', Kp w [(w1.heap.size, 0, .int .i64 0), (w1.heap.size, 1, .int .i64 4)] w' → w'.cell? ⟨w1.heap.size, 0, none⟩ = some (.int .i64 0) := fun w' h => h.at0
  have k1 : ∀ w', Kp w [(w1.heap.size, 0, .int .i64 0), (w1.heap.size, 1, .int .i64 4)] w' → w'.cell? ⟨w1.heap.size, 1, none⟩ = some (.int .i64 4) := fun w' h => h.tl.at0
  clear hc hs
  go_region_held3 (fun w' => Kp w [(w1.heap.size, 0, .int .i64 0), (w1.heap.size, 1, .int .i64 4)] w')
    (first | (with_reducible exact hK) | (with_reducible exact Kp.step (by assumption) hb) | (with_reducible exact Kp.alloc (by assumption) _))
    (first
     | (go_at_call 35; (with_reducible refine (lawof_any _ _ _).mono ?_); rintro e w1 ⟨rfl, hb⟩; (try replace hsl := hsl.below hb))
     | (go_at_call 12; (with_reducible refine (of_any _ _ _ _ _).mono ?_); rintro e w1 ⟨rfl, hb⟩)
     | (go_at_call 16; (with_reducible refine (minus_any _ _ _ _ _).mono ?_); rintro e w1 ⟨v, rfl, hsl, hb⟩; rw [e5] at hsl)
     | (go_at_call 28; refine (eqspans_any v _ [(0, 3), (5, 10)] [(0, 3), (5, 10)] _ (hsl.alloc _) (Sl.lit _ [.int .i64 0, .int .i64 3, .int .i64 5, .int .i64 10] 23 2 2 2 rfl) (by decide)).mono ?_; rintro e w1 ⟨rfl, hb⟩)
     | (go_at_call 19; (with_reducible refine (name_any _ _).mono ?_); rintro e w1 ⟨rfl, hb⟩))
  go_wp2
  go_ret
  exact ⟨rfl, kp_below (by assumption)⟩
end Go.Proofs.Ytcgkcdcignkadaa.Iv
