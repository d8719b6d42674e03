/-
  The walks of layer 33's Same and Order, and of the reference's Valid, All, Compare, Order and Same, of the program civiltime.
-/
import Derived.Test.YtokbipfkpojflaaDoorVaL
set_option linter.unusedSimpArgs false
set_option linter.unusedVariables false
namespace Go.Proofs.YtokbipfkpojflaaDoor.Va
open Go.RowKit Go.ChangeShapes Go.WideShapes Go.Proofs.YtokbipfkpojflaaDoor.Sl

theorem cell_alloc {w : World} {b o : Nat} {u : Value} (h : w.cell? ⟨b, o, none⟩ = some u) (ob : Obj) : (w.alloc ob).cell? ⟨b, o, none⟩ = some u := cell_kept h ((Below.refl _ _).alloc (Nat.le_refl _) _)
theorem bdrew {B : Nat} {a w : World} (h : Below B a w) : Below B a w.drew := ⟨h.os, h.tape, h.output, h.size, h.block⟩
theorem quiet_more {P : Program} {f : FuncId} {args : Array Value} {w : World} {a n : Nat} {v : Value} (h : ∀ W : World, Calls P f args W fun e w' => e = .returned v ∧ w' = W) :
    Calls P f args (w.drewN (a + n)) fun e w'' => e = .returned v ∧ ∃ m, w'' = w.drewN (a + m) := (h _).mono fun _ _ hh => ⟨hh.1, n, hh.2⟩
theorem ne_at {l1 l2 : List V3} {k : Nat} {x y : V3} (h1 : l1[k]? = some x) (h2 : l2[k]? = some y) (h : ¬ x = y) : ¬ l1 = l2 := fun e => h (by
  rw [e, h2] at h1
  exact (Option.some.inj h1).symm)
theorem take_at {l1 l2 : List V3} {k : Nat} {x : V3} (h1 : l1[k]? = some x) (h2 : l2[k]? = some x) (h : l1.take k = l2.take k) : l1.take (k + 1) = l2.take (k + 1) := by
  rw [List.take_add_one, List.take_add_one, h, h1, h2]
theorem ordL_step (l1 l2 : List V3) (k : Nat) (x y : V3) (h1 : l1[k]? = some x) (h2 : l2[k]? = some y) : ordL (l1.drop k) (l2.drop k) = if ordV x y = 0 then ordL (l1.drop (k + 1)) (l2.drop (k + 1)) else ordV x y := by
  have k1 := (List.getElem?_eq_some_iff.1 h1)
  have k2 := (List.getElem?_eq_some_iff.1 h2)
  rw [List.drop_eq_getElem_cons k1.1, List.drop_eq_getElem_cons k2.1, k1.2, k2.2]
  rfl
theorem ordL_short (l1 l2 : List V3) (k : Nat) (x : V3) (h1 : l1[k]? = some x) (h2 : l2.length ≤ k) : ordL (l1.drop k) (l2.drop k) = 1 := by
  have k1 := (List.getElem?_eq_some_iff.1 h1)
  rw [List.drop_eq_getElem_cons k1.1, List.drop_of_length_le h2]
  rfl
theorem ordL_end (l1 l2 : List V3) (k : Nat) (h1 : l1.length ≤ k) : ordL (l1.drop k) (l2.drop k) = if k < l2.length then -1 else 0 := by
  rw [List.drop_of_length_le h1]
  by_cases h : k < l2.length
  · rw [if_pos h, List.drop_eq_getElem_cons h]; rfl
  · rw [if_neg h, List.drop_of_length_le (by omega)]; rfl
theorem cmpI_is (a b : Int) : cmpI a b = if a < b then -1 else if b < a then 1 else 0 := rfl
/-- Texts that are not too long for any index. -/
def SzL (l : List V3) : Prop := ∀ v ∈ l, v.2.2.size ≤ 9223372036854775807
end Go.Proofs.YtokbipfkpojflaaDoor.Va
