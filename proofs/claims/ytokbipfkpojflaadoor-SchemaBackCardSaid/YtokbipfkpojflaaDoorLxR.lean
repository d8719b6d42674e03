/-
  The walks of layer 18's reference: whole, value, sixty, of the program civiltime.
-/
import Derived.Test.YtokbipfkpojflaaDoorLxS
set_option linter.unusedSimpArgs false
set_option linter.unusedVariables false
namespace Go.Proofs.YtokbipfkpojflaaDoor.Lx
open Go.RowKit Go.ChangeShapes Go.WideShapes Go.Proofs.YtokbipfkpojflaaDoor.Sl

/-- A number without a sign. -/
def wholeL (l : List UInt8) : Bool := match l with
  | [] => false
  | x :: xs => (!(decide (x.toNat = 48) && !xs.isEmpty)) && allDg (x :: xs)

theorem byte_at (s : ByteArray) (k : Nat) (h : k < s.size) : ∃ c, s[k] = c ∧ s.data.toList.drop k = c :: s.data.toList.drop (k + 1) := by
  have hl : k < s.data.toList.length := by have e : s.data.toList.length = s.size := Array.length_toList; omega
  exact ⟨s[k], rfl, List.drop_eq_getElem_cons hl⟩
theorem len_is (s : ByteArray) : s.data.toList.length = s.size := Array.length_toList

theorem nil_of (s : ByteArray) (h : s.size = 0) : s = ⟨#[]⟩ := by
  obtain ⟨⟨l⟩⟩ := s
  have : l.length = 0 := h
  rw [List.length_eq_zero_iff.1 this]
theorem not_nil (s : ByteArray) (h : 0 < s.size) : s.toList.isEmpty = false := by
  rw [ByteArray.toList_eq]
  have e := len_is s
  cases hd : s.data.toList with
  | nil => rw [hd] at e; simp at e; omega
  | cons _ _ => rfl

theorem whole_cons (s : ByteArray) (c : UInt8) (h : 0 < s.size) (hg : ∀ hh : 0 < s.size, s[0] = c) : wholeL s.data.toList = ((!(decide (c.toNat = 48) && decide (1 < s.size))) && allDg s.data.toList) := by
  obtain ⟨c', h1, h2⟩ := byte_at s 0 h
  rw [List.drop_zero] at h2
  have hcc : c' = c := h1.symm.trans (hg h)
  subst hcc
  have e := len_is s
  rw [h2] at e ⊢
  have hb : (!(List.drop (0 + 1) s.data.toList).isEmpty) = decide (1 < s.size) := by
    rw [List.length_cons] at e
    cases hd : List.drop (0 + 1) s.data.toList with
    | nil => rw [hd] at e; simp at e ⊢; omega
    | cons a b => rw [hd] at e; simp at e ⊢; omega
  show ((!(decide (c'.toNat = 48) && !(List.drop (0 + 1) s.data.toList).isEmpty)) && _) = _
  rw [hb]

theorem numL_bd (l : List UInt8) (hd : allDg l = true) (hl : l.length ≤ 2) : 0 ≤ numL l ∧ numL l ≤ 99 := by
  match l, hd, hl with
  | [], _, _ => decide
  | [x], hd, _ =>
    simp [allDg, dgB] at hd
    simp [numL]; omega
  | [x, y], hd, _ =>
    simp [allDg, dgB] at hd
    simp [numL]; omega

def sixL (x y : UInt8) : Bool := dgB x.toNat && dgB y.toNat && decide (x.toNat ≤ 53)
end Go.Proofs.YtokbipfkpojflaaDoor.Lx
