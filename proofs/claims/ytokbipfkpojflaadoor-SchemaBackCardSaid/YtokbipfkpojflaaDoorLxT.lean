/-
  The walks of layer 18's reference: Span and Offset, of the program civiltime.
-/
import Derived.Test.YtokbipfkpojflaaDoorLxU
import Derived.Test.YtokbipfkpojflaaDoorLxO
set_option linter.unusedSimpArgs false
set_option linter.unusedVariables false
namespace Go.Proofs.YtokbipfkpojflaaDoor.Lx
open Go.RowKit Go.ChangeShapes Go.WideShapes Go.Proofs.YtokbipfkpojflaaDoor.Sl

theorem ext_data (s : ByteArray) (i j : Nat) : (s.extract i j).data.toList = (s.data.toList.take j).drop i := by
  rw [ByteArray.data_extract, Array.toList_extract, List.extract_eq_take_drop, List.drop_take]
theorem ext_head (s : ByteArray) (k : Nat) : (s.extract 0 k).data.toList = s.data.toList.take k := by rw [ext_data]; rfl
theorem ext_tail (s : ByteArray) (k : Nat) : (s.extract k s.size).data.toList = s.data.toList.drop k := by
  rw [ext_data, List.take_of_length_le (by rw [len_is]; omega)]
theorem bytes_of (s : ByteArray) (l : List UInt8) (h : s.data.toList = l) : s = ⟨l.toArray⟩ := by
  obtain ⟨⟨m⟩⟩ := s
  have : m = l := h
  rw [this]

theorem three_of (p : ByteArray) (h : p.size = 3) : ∃ z a b, p.data.toList = [z, a, b] ∧ p.extract 1 3 = ⟨#[a, b]⟩ := by
  obtain ⟨⟨l⟩⟩ := p
  match l with
  | [] => simp [ByteArray.size] at h
  | [_] => simp [ByteArray.size] at h
  | [_, _] => simp [ByteArray.size] at h
  | [z, a, b] => exact ⟨z, a, b, rfl, rfl⟩
  | _ :: _ :: _ :: _ :: _ => simp [ByteArray.size] at h
theorem six_of (p : ByteArray) (h : p.size = 6) : ∃ z a b c d e, p.data.toList = [z, a, b, c, d, e] ∧ p.extract 1 3 = ⟨#[a, b]⟩ ∧ p.extract 4 p.size = ⟨#[d, e]⟩ ∧ ∀ hh : 3 < p.size, p[3] = c := by
  obtain ⟨⟨l⟩⟩ := p
  match l with
  | [] => simp [ByteArray.size] at h
  | [_] => simp [ByteArray.size] at h
  | [_, _] => simp [ByteArray.size] at h
  | [_, _, _] => simp [ByteArray.size] at h
  | [_, _, _, _] => simp [ByteArray.size] at h
  | [_, _, _, _, _] => simp [ByteArray.size] at h
  | [z, a, b, c, d, e] => exact ⟨z, a, b, c, d, e, rfl, rfl, rfl, fun _ => rfl⟩
  | _ :: _ :: _ :: _ :: _ :: _ :: _ :: _ => simp [ByteArray.size] at h

/-- Where the first colon stands. -/
def colonAt (s : ByteArray) (k : Nat) : Prop := k ≤ s.size ∧ (∀ j, j < k → s.data.toList[j]? ≠ some 58) ∧ (k = s.size ∨ s.data.toList[k]? = some 58)

theorem colon_span (s : ByteArray) (k : Nat) (h : colonAt s k) : spanZ s = rspL (s.extract 0 k).data.toList (s.extract k s.size).data.toList := by
  obtain ⟨hk, hn, he⟩ := h
  rw [ext_head, ext_tail]
  refine rspL_is s _ _ (List.take_append_drop k _).symm ?_ ?_
  · intro hm
    obtain ⟨j, hj, e⟩ := List.mem_iff_getElem.1 hm
    have hjk : j < k := by have := hj; rw [List.length_take] at this; omega
    refine hn j hjk ?_
    rw [List.getElem_take] at e
    have hl : j < s.data.toList.length := by have := hj; rw [List.length_take] at this; omega
    rw [List.getElem?_eq_getElem hl, e]
  · rcases he with rfl | he
    · left; exact List.drop_eq_nil_of_le (by rw [len_is]; omega)
    · right
      obtain ⟨hl, e⟩ := List.getElem?_eq_some_iff.1 he
      exact ⟨_, by rw [List.drop_eq_getElem_cons hl, e]⟩
theorem whole_dg (l : List UInt8) (h : wholeL l = true) : allDg l = true ∧ 1 ≤ l.length := by
  cases l with
  | nil => cases h
  | cons x xs =>
    simp only [wholeL, Bool.and_eq_true] at h
    exact ⟨h.2, by simp⟩
theorem size_is (s : ByteArray) (l : List UInt8) (h : s.data.toList = l) : s.size = l.length := by rw [← h, len_is]
theorem rspL_nil (h : List UInt8) (hc : ¬ (wholeL h = false ∨ 2 < h.length)) : rspL h [] = some (3600 * numL h) := if_neg hc
theorem rspL_three (h : List UInt8) (z a b : UInt8) (hc : ¬ (wholeL h = false ∨ 2 < h.length)) : rspL h [z, a, b] = if sixL a b = true then some (3600 * numL h + 60 * numL [a, b]) else none := if_neg hc
theorem rspL_six (h : List UInt8) (z a b c d e : UInt8) (hc : ¬ (wholeL h = false ∨ 2 < h.length)) : rspL h [z, a, b, c, d, e] = if sixL a b = true ∧ c.toNat = 58 ∧ sixL d e = true then some (3600 * numL h + 60 * numL [a, b] + numL [d, e]) else none := if_neg hc
theorem rspL_other (h t : List UInt8) (hc : ¬ (wholeL h = false ∨ 2 < h.length)) (h0 : t.length ≠ 0) (h3 : t.length ≠ 3) (h6 : t.length ≠ 6) : rspL h t = none := by
  unfold rspL
  rw [if_neg hc]
  match t, h0, h3, h6 with
  | [], h, _, _ => exact absurd rfl h
  | [_], _, _, _ => rfl
  | [_, _], _, _, _ => rfl
  | [_, _, _], _, h, _ => exact absurd rfl h
  | [_, _, _, _], _, _, _ => rfl
  | [_, _, _, _, _], _, _, _ => rfl
  | [_, _, _, _, _, _], _, _, h => exact absurd rfl h
  | _ :: _ :: _ :: _ :: _ :: _ :: _ :: _, _, _, _ => rfl
theorem six_bd (a b : UInt8) (h : sixL a b = true) : 0 ≤ numL [a, b] ∧ numL [a, b] ≤ 99 ∧ allDg [a, b] = true := by
  simp only [sixL, Bool.and_eq_true] at h
  have hd : allDg [a, b] = true := by simp [allDg, h.1.1, h.1.2]
  have := numL_bd [a, b] hd (by simp)
  exact ⟨this.1, this.2, hd⟩

/-- A text begins with a minus, or does not. -/
theorem off_cases (s : ByteArray) : (s.size = 0 ∧ offNeg s = false ∧ offT s = s) ∨ (0 < s.size ∧ ∃ c, (∀ hh : 0 < s.size, s[0] = c) ∧ ((c.toNat = 45 ∧ offNeg s = true ∧ s.extract 1 s.size = offT s) ∨ (¬ c.toNat = 45 ∧ offNeg s = false ∧ offT s = s))) := by
  obtain ⟨⟨l⟩⟩ := s
  match l with
  | [] => left; exact ⟨rfl, rfl, rfl⟩
  | c :: r =>
    right
    refine ⟨by simp [ByteArray.size], c, fun _ => rfl, ?_⟩
    by_cases h : c = 45
    · left
      subst h
      refine ⟨rfl, by simp [offNeg, Lib.hasPrefix], ?_⟩
      have : (ByteArray.mk ⟨(45 : UInt8) :: r⟩).extract 1 (ByteArray.mk ⟨(45 : UInt8) :: r⟩).size = ⟨r.toArray⟩ := by
        refine bytes_of _ _ ?_
        rw [ext_tail]; rfl
      rw [this]
      simp [offT, Lib.trimPrefix, Lib.hasPrefix]
    · right
      have h2 : ¬ c.toNat = 45 := fun e => h (UInt8.toNat_inj.1 e)
      have h3 : ¬ (45 : UInt8) = c := fun e => h e.symm
      refine ⟨h2, by simp [offNeg, Lib.hasPrefix, List.isPrefixOf, h3], by simp [offT, Lib.trimPrefix, Lib.hasPrefix, h3]⟩

end Go.Proofs.YtokbipfkpojflaaDoor.Lx
