/-
  The walks of layer 33's Valid and all, of the program civiltime.
-/
import Derived.Test.YtokbipfkpojflaaDoorChecked
import Derived.Test.YtokbipfkpojflaaDoorSl
import Derived.Test.YtokbipfkpojflaaDoorVaT
import Derived.Test.YtokbipfkpojflaaDoorVaE
import Derived.Test.YtokbipfkpojflaaDoorShelf
import Derived.WalkKit
import Derived.ProofKit
import Derived.OpenShut
import Derived.Handy
import Derived.WalkLawsBesides
import Derived.WalkSpells
import Derived.Outline
import Derived.Lib.Hide
import Derived.BigQuiet
import Derived.Deep.QuietTactic
import Derived.Deep.RegionHeld3
set_option linter.unusedSimpArgs false
set_option linter.unusedVariables false
namespace Go.Proofs.YtokbipfkpojflaaDoor.Va
open Go.RowKit Go.ChangeShapes Go.WideShapes Go.Proofs.YtokbipfkpojflaaDoor.Sl Go.Lib

abbrev agV (k n : Int) (s : ByteArray) : Value := .agg #[.int .i64 k, .int .i64 n, .string s]
theorem str_eq (a : ByteArray) (w : World) : (binOp .eql 9 (.string a) (.string a)).run Tryd.prog w = .ok (.bool true) w := by simp [go_sem]
theorem str_ne (z x : ByteArray) (he : ¬ z = x) (w : World) : (binOp .eql 9 (.string z) (.string x)).run Tryd.prog w = .ok (.bool false) w := by
  have h2 : ¬ z.toList = x.toList := fun h => he (by
    rw [ByteArray.toList_eq, ByteArray.toList_eq] at h
    exact ByteArray.ext (Array.toList_inj.1 h))
  simp [go_sem, h2]

theorem list_ne (s : ByteArray) (h : ¬ s = ⟨#[]⟩) : ¬ s.toList = [] ∧ s.toList.isEmpty = false ∧ ¬ s.size = 0 := by
  have h1 : ¬ s.toList = [] := fun h2 => h (by
    rw [ByteArray.toList_eq] at h2
    exact ByteArray.ext (Array.toList_inj.1 h2))
  refine ⟨h1, by simpa using h1, fun h3 => h (size_zero s h3)⟩
end Go.Proofs.YtokbipfkpojflaaDoor.Va
