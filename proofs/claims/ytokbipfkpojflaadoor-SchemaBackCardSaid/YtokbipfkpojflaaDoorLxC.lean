/-
  The walks of layer 18's Clock, of the program civiltime.
-/
import Derived.Test.YtokbipfkpojflaaDoorLxO
set_option linter.unusedSimpArgs false
set_option linter.unusedVariables false
namespace Go.Proofs.YtokbipfkpojflaaDoor.Lx
open Go.RowKit Go.ChangeShapes Go.WideShapes Go.Proofs.YtokbipfkpojflaaDoor.Sl

/-- The place of a clock's letter. -/
def wsu (c : UInt8) : Int := Lib.indexByte [119, 115, 117] c
theorem wsu_any (c : UInt8) (w : World) : Calls Tryd.prog 52 #[.string ⟨#[119, 115, 117]⟩, .int .u8 c.toNat] w fun e w' => e = .returned (.int .i64 (wsu c)) ∧ w = w' := by
  refine (Tryd.strings_IndexByte ⟨#[119, 115, 117]⟩ c.toNat w).mono ?_
  rintro e w' ⟨rfl, rfl⟩
  refine ⟨?_, rfl⟩
  have : ((c.toNat : Int)).toNat.toUInt8 = c := by
    rw [Int.toNat_natCast]; exact UInt8.ofNat_toNat
  rw [this]
  rfl
theorem wsu_is (c : UInt8) (k : Int) (w : World) (h : wsu c = k) : Calls Tryd.prog 52 #[.string ⟨#[119, 115, 117]⟩, .int .u8 c.toNat] w fun e w' => e = .returned (.int .i64 k) ∧ w = w' := by
  subst h; exact wsu_any c w
theorem wsu_cases (c : UInt8) : wsu c = -1 ∨ wsu c = 0 ∨ wsu c = 1 ∨ wsu c = 2 := by
  unfold wsu Lib.indexByte Lib.indexByte Lib.indexByte Lib.indexByte
  repeat' split
  all_goals simp_all

/-- The clock and the span's text of a clock time. -/
def clkC (s : ByteArray) (c : UInt8) : Int := if wsu c = -1 then 1 else wsu c + 1
def clkT (s : ByteArray) (c : UInt8) : ByteArray := if wsu c = -1 then s else s.extract 0 (s.size - 1)
def clkR (cl : Int) (o : Option Int) : Int × Int × Int := match o with
  | none => (0, 0, 3)
  | some n => if 93600 < n then (0, 0, 2) else (n, cl, 0)
/-- The seconds and the clock that a text stands for, and the error's number. -/
def clkZ (s : ByteArray) : Int × Int × Int := match s.data.toList.getLast? with
  | none => (0, 0, 3)
  | some c => clkR (clkC s c) (spanZ (clkT s c))
def tripV (p : Int × Int × Int) : Value := .tuple #[.int .i64 p.1, .int .i64 p.2.1, .int .i64 p.2.2]
theorem span_nil : spanZ ⟨#[]⟩ = none := by decide

theorem ext_size (s : ByteArray) : (s.extract 0 (s.size - 1)).size ≤ s.size := by rw [ByteArray.size_extract]; omega

theorem last_of (s : ByteArray) (c : UInt8) (h : s.data.toList.getLast? = some c) : 0 < s.size ∧ s.toList.isEmpty = false ∧ ∀ (hh : s.size - 1 < s.size), s[s.size - 1] = c := by
  rw [List.getLast?_eq_getElem?] at h
  obtain ⟨hl, he⟩ := List.getElem?_eq_some_iff.1 h
  have hl' : s.size - 1 < s.size := by
    have e : s.data.toList.length = s.size := Array.length_toList
    omega
  refine ⟨by omega, ?_, fun hh => ?_⟩
  · rw [ByteArray.toList_eq]
    cases hd : s.data.toList with
    | nil => rw [hd] at hl; simp at hl
    | cons _ _ => rfl
  · rw [← he]
    have e : s.data.toList.length = s.size := Array.length_toList
    simp only [e]
    rfl

theorem wsu_nat (c : UInt8) : ∃ k : Nat, k ≤ 3 ∧ wsu c = (k : Int) - 1 := by
  rcases wsu_cases c with h | h | h | h
  · exact ⟨0, by omega, h⟩
  · exact ⟨1, by omega, h⟩
  · exact ⟨2, by omega, h⟩
  · exact ⟨3, by omega, h⟩

end Go.Proofs.YtokbipfkpojflaaDoor.Lx
