/-
  The walks of find and of the reference's At (layer 33).
-/
import Derived.Test.YtokbipfkpojflaaDoorVcP
import Derived.Test.YtokbipfkpojflaaDoorVaM
set_option linter.unusedSimpArgs false
set_option linter.unusedVariables false
namespace Go.Proofs.YtokbipfkpojflaaDoor.Va
open Go.RowKit Go.ChangeShapes Go.WideShapes Go.Proofs.YtokbipfkpojflaaDoor.Sl

def flatC : List Cl → List Value
  | [] => []
  | c :: l => .string c.1 :: .int .i64 c.2 :: flatC l
theorem flatC_len : ∀ l, (flatC l).length = l.length * 2
  | [] => rfl
  | c :: l => by show (flatC l).length + 2 = (l.length + 1) * 2; rw [flatC_len l]; omega
theorem flatC_get : ∀ (l : List Cl) (k : Nat) (c : Cl), l[k]? = some c → (flatC l)[k * 2]? = some (.string c.1) ∧ (flatC l)[k * 2 + 1]? = some (.int .i64 c.2)
  | [], k, c, h => by simp at h
  | x :: l, 0, c, h => by
    simp only [List.getElem?_cons_zero, Option.some.injEq] at h
    subst h
    exact ⟨rfl, rfl⟩
  | x :: l, k + 1, c, h => by
    obtain ⟨a, b⟩ := flatC_get l k c (by simpa using h)
    refine ⟨?_, ?_⟩
    · rw [show (k + 1) * 2 = k * 2 + 1 + 1 by omega]; simpa [flatC] using a
    · rw [show (k + 1) * 2 + 1 = k * 2 + 1 + 1 + 1 by omega]; simpa [flatC] using b
theorem flatC_snoc : ∀ (l : List Cl) (c : Cl), flatC (l ++ [c]) = flatC l ++ [.string c.1, .int .i64 c.2]
  | [], c => rfl
  | x :: l, c => by rw [List.cons_append, flatC, flatC_snoc l c]; rfl
/-- The slice s holds the columns l. -/
abbrev Cs (w : World) (s : Value) (l : List Cl) : Prop := Sl w s l.length 2 (flatC l)
theorem cs_get {w : World} {g off : Nat} {l : List Cl} (hc : ∀ j u, (flatC l)[j]? = some u → w.cell? ⟨g, off + j, none⟩ = some u) {k : Nat} {a : ByteArray} {b : Int} (h : l[k]? = some (a, b)) :
    w.cell? ⟨g, off + k * 2, none⟩ = some (.string a) ∧ w.cell? ⟨g, off + k * 2 + 1, none⟩ = some (.int .i64 b) := by
  obtain ⟨h1, h2⟩ := flatC_get l k _ h
  exact ⟨hc _ _ h1, hc _ _ h2⟩
end Go.Proofs.YtokbipfkpojflaaDoor.Va
