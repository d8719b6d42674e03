/-
  The walks of layer 33's functions on lists of values (all, Same, Order, Compare), of the program civiltime.
-/
import Derived.Test.YtokbipfkpojflaaDoorVaO
set_option linter.unusedSimpArgs false
set_option linter.unusedVariables false
namespace Go.Proofs.YtokbipfkpojflaaDoor.Va
open Go.RowKit Go.ChangeShapes Go.WideShapes Go.Proofs.YtokbipfkpojflaaDoor.Sl

/-- The slice value s holds the list l of values. -/
abbrev Vs (w : World) (s : Value) (l : List V3) : Prop := Sl w s l.length 3 (flatV l)
/-- The first place at which p holds. -/
def idxV (p : V3 → Bool) : Nat → List V3 → Int
  | _, [] => -1
  | k, v :: l => if p v then k else idxV p (k + 1) l
theorem idxV_ge (p : V3 → Bool) : ∀ (l : List V3) (k : Nat), idxV p k l = -1 ∧ l.any p = false ∨ (k : Int) ≤ idxV p k l ∧ l.any p = true
  | [], k => .inl ⟨rfl, rfl⟩
  | v :: l, k => by
    unfold idxV
    cases h : p v
    · rw [if_neg (by simp), List.any_cons, h, Bool.false_or]
      rcases idxV_ge p l (k + 1) with h1 | h1
      · exact .inl h1
      · exact .inr ⟨by omega, h1.2⟩
    · rw [if_pos rfl, List.any_cons, h]
      exact .inr ⟨Int.le_refl _, rfl⟩
theorem idxV_pos (p : V3 → Bool) (l : List V3) : decide (0 ≤ idxV p 0 l) = l.any p := by
  rcases idxV_ge p l 0 with ⟨h1, h2⟩ | ⟨h1, h2⟩
  · rw [h1, h2]; rfl
  · rw [h2]; simpa using h1
theorem idxV_step (p : V3 → Bool) (l : List V3) (k : Nat) (v : V3) (h : l[k]? = some v) : idxV p k (l.drop k) = if p v then (k : Int) else idxV p (k + 1) (l.drop (k + 1)) := by
  have hk : k < l.length := (List.getElem?_eq_some_iff.1 h).1
  rw [List.drop_eq_getElem_cons hk, idxV, (List.getElem?_eq_some_iff.1 h).2]
def badV (v : V3) : Bool := !validV v
theorem any_bad (l : List V3) : l.any badV = !allV l := by
  unfold allV
  induction l with
  | nil => rfl
  | cons v l ih => rw [List.any_cons, List.all_cons, ih]; unfold badV; cases validV v <;> simp
/-- A value of a list that can be read. -/
theorem vs_get {w : World} {g off : Nat} {l : List V3} (hc : ∀ j u, (flatV l)[j]? = some u → w.cell? ⟨g, off + j, none⟩ = some u) {k : Nat} {a b : Int} {s : ByteArray} (h : l[k]? = some (a, b, s)) :
    w.cell? ⟨g, off + k * 3, none⟩ = some (.int .i64 a) ∧ w.cell? ⟨g, off + k * 3 + 1, none⟩ = some (.int .i64 b) ∧ w.cell? ⟨g, off + k * 3 + 2, none⟩ = some (.string s) := by
  obtain ⟨h1, h2, h3⟩ := flatV_get l k _ h
  exact ⟨hc _ _ h1, hc _ _ h2, hc _ _ h3⟩

/-- The order of two values, 0 where one is not valid. -/
def cmpV (a b : V3) : Int := if validV a && validV b then ordV a b else 0
end Go.Proofs.YtokbipfkpojflaaDoor.Va
