/-
  The walks of layer 18's writing of spans (two, spanText, OffsetText) and of the reference's, of the program civiltime.
-/
import Derived.Test.YtokbipfkpojflaaDoorChecked
import Derived.Test.YtokbipfkpojflaaDoorSl
import Derived.WalkKit
import Derived.ProofKit
import Derived.OpenShut
import Derived.Handy
import Derived.WalkLawsBesides
import Derived.WalkSpells
import Derived.Outline
import Derived.Lib.Hide
import Derived.BigQuiet
import Derived.Deep.QuietTactic
import Derived.Deep.RegionHeld3
set_option linter.unusedSimpArgs false
set_option linter.unusedVariables false
namespace Go.Proofs.YtokbipfkpojflaaDoor.Lx
open Go.RowKit Go.ChangeShapes Go.WideShapes Go.Proofs.YtokbipfkpojflaaDoor.Sl

/-- Two digits of a number from 0 to 99. -/
def d1 (n : Int) : UInt8 := UInt8.ofNat (48 + n / 10).toNat
def d0 (n : Int) : UInt8 := UInt8.ofNat (48 + n % 10).toNat
def twoS (n : Int) : ByteArray := ⟨#[d1 n, d0 n]⟩

theorem enc_all : ((List.range 128).all fun k => decide (Utf8.encode (k : Int) = ⟨#[UInt8.ofNat k]⟩)) = true := by kernel_rfl
theorem enc_lt (z : Int) (h0 : 0 ≤ z) (h1 : z < 128) : Utf8.encode z = ⟨#[UInt8.ofNat z.toNat]⟩ := by
  have := List.all_eq_true.1 enc_all z.toNat (List.mem_range.2 (by omega))
  rw [Int.toNat_of_nonneg h0] at this
  exact of_decide_eq_true this
theorem ofNat_int (z : Int) (h0 : 0 ≤ z) (h1 : z < 256) : ((UInt8.ofNat z.toNat).toNat : Int) = z := by
  rw [UInt8.toNat_ofNat']; omega

theorem twoS_size (n : Int) : (twoS n).size = 2 := rfl
theorem twoS_cut (n : Int) : (twoS n).extract 1 2 = ⟨#[d0 n]⟩ := rfl
def hourS (n : Int) : ByteArray := if n < 36000 then ⟨#[d0 (n / 3600)]⟩ else twoS (n / 3600)
theorem hourS_size (n : Int) : (hourS n).size ≤ 2 := by
  unfold hourS
  split
  · exact Nat.le_succ 1
  · exact Nat.le_refl 2
def secS (n : Int) : ByteArray := if 0 < n % 60 then ⟨#[58]⟩ ++ twoS (n % 60) else ⟨#[]⟩
/-- The text of a span of time. -/
def spanS (n : Int) : ByteArray := hourS n ++ (⟨#[58]⟩ ++ twoS (n / 60 % 60)) ++ secS n

theorem secS_size (n : Int) : (secS n).size ≤ 3 := by
  unfold secS
  split
  · exact Nat.le_refl 3
  · exact Nat.zero_le _
theorem spanS_size (n : Int) : (spanS n).size ≤ 8 := by
  unfold spanS
  have h1 := hourS_size n
  have h2 := secS_size n
  have h3 := twoS_size (n / 60 % 60)
  have h4 : (⟨#[58]⟩ : ByteArray).size = 1 := rfl
  simp only [ByteArray.size_append]
  omega

/-- The text of an offset. -/
def offS (n : Int) : ByteArray := if n < -93600 ∨ 93600 < n then ⟨#[]⟩ else if n < 0 then ⟨#[45]⟩ ++ spanS (-n) else spanS n

end Go.Proofs.YtokbipfkpojflaaDoor.Lx
