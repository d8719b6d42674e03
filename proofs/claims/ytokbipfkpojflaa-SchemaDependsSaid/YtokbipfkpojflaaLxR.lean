/-
  The walks of layer 18's reference: whole, value, sixty, of the program civiltime.
-/
import Derived.Test.YtokbipfkpojflaaLxS
set_option linter.unusedSimpArgs false
set_option linter.unusedVariables false
namespace Go.Proofs.Ytokbipfkpojflaa.Lx
open Go.RowKit Go.ChangeShapes Go.WideShapes Go.Proofs.Ytokbipfkpojflaa.Sl

/-- A number without a sign. -/
def wholeL (l : List UInt8) : Bool := match l with
  | [] => false
  | x :: xs => (!(decide (x.toNat = 48) && !xs.isEmpty)) && allDg (x :: xs)

theorem byte_at (s : ByteArray) (k : Nat) (h : k < s.size) : ∃ c, s[k] = c ∧ s.data.toList.drop k = c :: s.data.toList.drop (k + 1) := by
  have hl : k < s.data.toList.length := by have e : s.data.toList.length = s.size := Array.length_toList; omega
  exact ⟨s[k], rfl, List.drop_eq_getElem_cons hl⟩
theorem len_is (s : ByteArray) : s.data.toList.length = s.size := Array.length_toList

theorem nil_of (s : ByteArray) (h : s.size = 0) : s = ⟨#[]⟩ := by
  obtain ⟨⟨l⟩⟩ := s
  have : l.length = 0 := h
  rw [List.length_eq_zero_iff.1 this]
theorem not_nil (s : ByteArray) (h : 0 < s.size) : s.toList.isEmpty = false := by
  rw [ByteArray.toList_eq]
  have e := len_is s
  cases hd : s.data.toList with
  | nil => rw [hd] at e; simp at e; omega
  | cons _ _ => rfl

theorem whole_cons (s : ByteArray) (c : UInt8) (h : 0 < s.size) (hg : ∀ hh : 0 < s.size, s[0] = c) : wholeL s.data.toList = ((!(decide (c.toNat = 48) && decide (1 < s.size))) && allDg s.data.toList) := by
  obtain ⟨c', h1, h2⟩ := byte_at s 0 h
  rw [List.drop_zero] at h2
  have hcc : c' = c := h1.symm.trans (hg h)
  subst hcc
  have e := len_is s
  rw [h2] at e ⊢
  have hb : (!(List.drop (0 + 1) s.data.toList).isEmpty) = decide (1 < s.size) := by
    rw [List.length_cons] at e
    cases hd : List.drop (0 + 1) s.data.toList with
    | nil => rw [hd] at e; simp at e ⊢; omega
    | cons a b => rw [hd] at e; simp at e ⊢; omega
  show ((!(decide (c'.toNat = 48) && !(List.drop (0 + 1) s.data.toList).isEmpty)) && _) = _
  rw [hb]

set_option maxRecDepth 20000 in
set_option maxHeartbeats 1000000 in
theorem whole_loop (s : ByteArray) (w : World) (c : UInt8) (hs : s.size < 4294967281) (h0 : 0 < s.size) (hg : s[0] = c) (hz : ¬ (c.toNat = 48 ∧ 1 < s.size)) :
    Calls Try.prog 99 #[.string s] w fun e w' => e = .returned (.bool (allDg s.data.toList)) ∧ w = w' := by
  have HE := Lib.hid (rfl : allDg s.data.toList = allDg (s.data.toList.drop 0))
  have h3 : c.toNat = 48 ∨ ¬ c.toNat = 48 := by omega
  rcases h3 with h3 | h3
  · have h1 : ¬ 1 < s.size := by omega
    clear hz
    go_enter Try.func99, Try.ntmps99
    go_wp2
    go_loopw [3] (fun i wr => ∃ k : Nat, k ≤ s.size ∧ i = .int .i64 k ∧ allDg s.data.toList = allDg (s.data.toList.drop k) ∧ wr = w) (fun i _ => s.size - (intOf i).toNat)
    case atStart => exact ⟨0, Nat.zero_le _, rfl, rfl, rfl⟩
    case round =>
      obtain ⟨k, hk, rfl, hf, rfl⟩ := hrel
      have HF := Lib.hid hf
      clear hf
      by_cases hlt : k < s.size
      · obtain ⟨d, hd, hs⟩ := byte_at s k hlt
        have HS := Lib.hid hs
        clear hs
        cases hb : dgB d.toNat
        · go_wp2_with (go_at_call 94; ((with_reducible refine (rdigit_any _ _).mono ?_); rintro e w1 ⟨rfl, rfl⟩))
          go_ret
          exact ⟨by rw [HF.out, HS.out]; simp [allDg, hb], by first | rfl | trivial⟩
        · go_wp2_with (go_at_call 94; ((with_reducible refine (rdigit_any _ _).mono ?_); rintro e w1 ⟨rfl, rfl⟩))
          go_roundw
          case rel => exact ⟨k + 1, by omega, by go_num, by rw [HF.out, HS.out]; simp [allDg, hb], by first | rfl | trivial⟩
          case measure => simp [intOf]; omega
      · go_wp2
        go_ret
        exact ⟨by rw [HF.out, List.drop_eq_nil_of_le (by rw [len_is]; omega)]; rfl, rfl⟩
  · clear hz
    go_enter Try.func99, Try.ntmps99
    go_wp2
    go_loopw [3] (fun i wr => ∃ k : Nat, k ≤ s.size ∧ i = .int .i64 k ∧ allDg s.data.toList = allDg (s.data.toList.drop k) ∧ wr = w) (fun i _ => s.size - (intOf i).toNat)
    case atStart => exact ⟨0, Nat.zero_le _, rfl, rfl, rfl⟩
    case round =>
      obtain ⟨k, hk, rfl, hf, rfl⟩ := hrel
      have HF := Lib.hid hf
      clear hf
      by_cases hlt : k < s.size
      · obtain ⟨d, hd, hs⟩ := byte_at s k hlt
        have HS := Lib.hid hs
        clear hs
        cases hb : dgB d.toNat
        · go_wp2_with (go_at_call 94; ((with_reducible refine (rdigit_any _ _).mono ?_); rintro e w1 ⟨rfl, rfl⟩))
          go_ret
          exact ⟨by rw [HF.out, HS.out]; simp [allDg, hb], by first | rfl | trivial⟩
        · go_wp2_with (go_at_call 94; ((with_reducible refine (rdigit_any _ _).mono ?_); rintro e w1 ⟨rfl, rfl⟩))
          go_roundw
          case rel => exact ⟨k + 1, by omega, by go_num, by rw [HF.out, HS.out]; simp [allDg, hb], by first | rfl | trivial⟩
          case measure => simp [intOf]; omega
      · go_wp2
        go_ret
        exact ⟨by rw [HF.out, List.drop_eq_nil_of_le (by rw [len_is]; omega)]; rfl, rfl⟩

set_option maxRecDepth 20000 in
theorem whole_any (s : ByteArray) (w : World) (hs : s.size < 4294967281) : Calls Try.prog 99 #[.string s] w fun e w' => e = .returned (.bool (wholeL s.data.toList)) ∧ w = w' := by
  by_cases h0 : s.size = 0
  · obtain rfl := nil_of s h0
    go_enter Try.func99, Try.ntmps99
    go_wp2
    go_ret
    exact ⟨rfl, rfl⟩
  · have hp : 0 < s.size := by omega
    obtain ⟨c, hg, _⟩ := byte_at s 0 hp
    rw [whole_cons s c hp (fun _ => hg)]
    by_cases hz : c.toNat = 48 ∧ 1 < s.size
    · rw [show (decide (c.toNat = 48) && decide (1 < s.size)) = true by simp [hz]]
      obtain ⟨h1, h2⟩ := hz
      go_enter Try.func99, Try.ntmps99
      go_wp2
      go_ret
      exact ⟨rfl, rfl⟩
    · rw [show (decide (c.toNat = 48) && decide (1 < s.size)) = false by rw [← Bool.not_eq_true]; simpa using hz]
      exact whole_loop s w c hs hp hg hz

theorem numL_bd (l : List UInt8) (hd : allDg l = true) (hl : l.length ≤ 2) : 0 ≤ numL l ∧ numL l ≤ 99 := by
  match l, hd, hl with
  | [], _, _ => decide
  | [x], hd, _ =>
    simp [allDg, dgB] at hd
    simp [numL]; omega
  | [x, y], hd, _ =>
    simp [allDg, dgB] at hd
    simp [numL]; omega

def sixL (x y : UInt8) : Bool := dgB x.toNat && dgB y.toNat && decide (x.toNat ≤ 53)
end Go.Proofs.Ytokbipfkpojflaa.Lx
