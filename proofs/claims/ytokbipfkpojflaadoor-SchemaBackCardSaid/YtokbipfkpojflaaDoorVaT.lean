/-
  A text of printable ASCII bytes, as the library's search for a rune sees it (plain lemmas; nothing of the program).
-/
import Derived.Test.YtokbipfkpojflaaDoorVaP
import Derived.Lib.TrimU
import Derived.Lib.DecodeNEq
import Derived.Laws.RangeString
import Derived.Shelf.GgClosure.StringsIndexFunc
namespace Go.Proofs.YtokbipfkpojflaaDoor.Va
open Go Go.RowKit

def okC (c : UInt8) : Bool := decide (32 ≤ c.toNat) && decide (c.toNat ≤ 126)
def badR (x : Nat) : Bool := decide (x < 32) || decide (126 < x)
theorem txtB_all (s : ByteArray) : txtB s = s.data.toList.all okC := rfl
theorem decodeN_big (n b0 b1 b2 b3 : Nat) (h : 128 ≤ b0) : 128 ≤ (Lib.decodeN n b0 b1 b2 b3).1 := by
  unfold Lib.decodeN
  repeat' split
  all_goals (simp only; omega)
theorem bad_at (s : ByteArray) (pos : Nat) (h : pos < s.size) : badR (Utf8.decode s pos).1 = !okC (s[pos]'h) := by
  by_cases ha : (s[pos]'h).toNat < 128
  · rw [decode_ascii s pos h ha]
    unfold badR okC
    show (decide _ || decide _) = _
    rw [Bool.eq_iff_iff]
    simp
    try omega
  · have e : s.get! pos = s[pos]'h := by
      show s.data[pos]! = s.data[pos]'h
      rw [getElem!_pos s.data pos h]
    have hb := decodeN_big (s.size - pos) (s.get! pos).toNat (s.get! (pos + 1)).toNat (s.get! (pos + 2)).toNat (s.get! (pos + 3)).toNat (by rw [e]; omega)
    rw [← Lib.decode_at] at hb
    unfold badR okC
    rw [Bool.eq_iff_iff]
    simp
    omega
theorem width_one (s : ByteArray) (pos : Nat) (h : pos < s.size) (ho : okC (s[pos]'h) = true) : (Utf8.decode s pos).2 = 1 := by
  rw [decode_ascii s pos h (by unfold okC at ho; simp at ho; omega)]
theorem idx_from (s : ByteArray) : ∀ (f pos : Nat), s.size - pos ≤ f → (0 ≤ Lib.idxFuncFrom badR true s f pos ↔ ((s.data.toList.drop pos).all okC) = false)
  | 0, pos, h => by
    rw [List.drop_of_length_le (by rw [Array.length_toList]; show s.size ≤ pos; omega)]
    simp [Lib.idxFuncFrom]
  | f + 1, pos, h => by
    unfold Lib.idxFuncFrom
    by_cases hp : pos < s.size
    · have hd : s.data.toList.drop pos = s[pos] :: s.data.toList.drop (pos + 1) := List.drop_eq_getElem_cons (by rw [Array.length_toList]; exact hp)
      rw [if_pos hp, hd, List.all_cons, bad_at s pos hp]
      cases ho : okC s[pos]
      · simp
      · rw [if_neg (by simp), width_one s pos hp ho, Bool.true_and]
        exact idx_from s f (pos + 1) (by omega)
    · rw [if_neg hp, List.drop_of_length_le (by rw [Array.length_toList]; show s.size ≤ pos; omega)]
      simp
theorem idx_txt (s : ByteArray) : decide (0 ≤ Lib.idxFunc badR true s) = !txtB s := by
  have h := idx_from s s.size 0 (by omega)
  rw [List.drop_zero] at h
  unfold Lib.idxFunc
  rw [txtB_all]
  cases ha : s.data.toList.all okC
  · rw [ha] at h; simpa using h
  · rw [ha] at h; simp at h; simpa using h
end Go.Proofs.YtokbipfkpojflaaDoor.Va
