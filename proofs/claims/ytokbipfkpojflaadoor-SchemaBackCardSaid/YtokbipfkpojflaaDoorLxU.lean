/-
  The reference's span of time is the span of the pieces (plain lemmas).
-/
import Derived.Test.YtokbipfkpojflaaDoorLxR
set_option linter.unusedSimpArgs false
set_option linter.unusedVariables false
namespace Go.Proofs.YtokbipfkpojflaaDoor.Lx
open Go.RowKit

/-- What the reference reads off the first number and the rest. -/
def rspL (h t : List UInt8) : Option Int :=
  if wholeL h = false ∨ 2 < h.length then none else
  match t with
  | [] => some (3600 * numL h)
  | [_, a, b] => if sixL a b = true then some (3600 * numL h + 60 * numL [a, b]) else none
  | [_, a, b, c, d, e] => if sixL a b = true ∧ c.toNat = 58 ∧ sixL d e = true then some (3600 * numL h + 60 * numL [a, b] + numL [d, e]) else none
  | _ => none

theorem splitL_head (c : UInt8) : ∀ (h t : List UInt8), c ∉ h → splitL c (h ++ c :: t) = h :: splitL c t
  | [], t, _ => by simp [splitL]
  | x :: h, t, hh => by
    have hx : ¬ x = c := fun e => hh (by simp [e])
    have ih := splitL_head c h t (fun e => hh (by simp [e]))
    rw [List.cons_append, splitL, if_neg hx, ih]; rfl
theorem splitL_none (c : UInt8) : ∀ (h : List UInt8), c ∉ h → splitL c h = [h]
  | [], _ => rfl
  | x :: h, hh => by
    have hx : ¬ x = c := fun e => hh (by simp [e])
    have ih := splitL_none c h (fun e => hh (by simp [e]))
    rw [splitL, if_neg hx, ih]; rfl
theorem splitL_sum (c : UInt8) : ∀ l : List UInt8, ((splitL c l).map (·.length)).sum + (splitL c l).length = l.length + 1
  | [] => rfl
  | x :: l => by
    have ih := splitL_sum c l
    rw [splitL]
    split
    · simp; omega
    · cases hs : splitL c l with
      | nil => exact absurd hs (splitL_ne c l)
      | cons a b =>
        rw [hs] at ih
        simp only [List.map_cons, List.sum_cons, List.length_cons, List.headD_cons, List.tail_cons] at ih ⊢
        omega

theorem valP_whole (h : List UInt8) : valP 0 h = if wholeL h = false ∨ 2 < h.length then none else some (numL h) := by
  match h with
  | [] => rfl
  | [x] => cases hx : allDg [x] <;> simp [valP, wholeL, hx]
  | [x, y] =>
    have e : x = 48 ↔ x.toNat = 48 := ⟨fun h => by rw [h]; rfl, fun h => UInt8.toNat_inj.1 h⟩
    cases hx : allDg [x, y]
    · simp [valP, wholeL, hx]
    · by_cases h8 : x.toNat = 48
      · simp [valP, wholeL, hx, e, h8]
      · simp [valP, wholeL, hx, e, h8]
  | x :: y :: z :: l =>
    rw [if_pos (by right; simp)]
    unfold valP
    rw [if_pos (by right; left; simp)]
theorem foldS_two : ∀ (ps : List (List UInt8)) (i : Nat) (T n : Int), foldS (i + 1) ps T = some n → ∀ p ∈ ps, p.length = 2
  | [], _, _, _, _ => by simp
  | p :: ps, i, T, n, h => by
    unfold foldS at h
    split at h
    · cases h
    next v hv =>
      have h1 : p.length = 2 := by
        unfold valP at hv
        split at hv
        · cases hv
        next hc => omega
      intro q hq
      rcases List.mem_cons.1 hq with rfl | hq
      · exact h1
      · exact foldS_two ps (i + 1) _ n h q hq
theorem dg_lt (a : UInt8) (h : dgB a.toNat = true) : 48 ≤ a.toNat ∧ a.toNat ≤ 57 := by simpa [dgB] using h
theorem valP_six (i : Nat) (a b : UInt8) : valP (i + 1) [a, b] = if sixL a b = true then some (numL [a, b]) else none := by
  unfold valP sixL
  rw [if_neg (by simp)]
  cases ha : dgB a.toNat
  · simp [allDg, ha]
  · cases hb : dgB b.toNat
    · simp [allDg, hb]
    · have h1 := dg_lt a ha
      have h2 := dg_lt b hb
      rw [if_neg (by simp [allDg, ha, hb])]
      have e : numL [a, b] = 10 * ((a.toNat : Int) - 48) + ((b.toNat : Int) - 48) := by simp [numL]
      by_cases h5 : a.toNat ≤ 53
      · rw [if_neg (by rw [e]; omega), if_pos (by simp [h5])]
      · rw [if_pos (by rw [e]; omega), if_neg (by simp [h5])]
theorem six_ne (a b : UInt8) (h : sixL a b = true) : a ≠ 58 ∧ b ≠ 58 := by
  simp only [sixL, Bool.and_eq_true] at h
  have h1 := dg_lt a h.1.1
  have h2 := dg_lt b h.1.2
  constructor
  · rintro rfl; simp at h1
  · rintro rfl; simp at h2
theorem six58 (a b : UInt8) (h : a = 58 ∨ b = 58) : sixL a b = false := by
  rw [← Bool.not_eq_true]
  intro e
  have := six_ne a b e
  rcases h with h | h
  · exact this.1 h
  · exact this.2 h

theorem sum_two : ∀ (ps : List (List UInt8)), (∀ p ∈ ps, p.length = 2) → (ps.map (·.length)).sum = 2 * ps.length
  | [], _ => rfl
  | p :: ps, h => by
    have := sum_two ps (fun q hq => h q (by simp [hq]))
    have := h p (by simp)
    simp only [List.map_cons, List.sum_cons, List.length_cons]
    omega

theorem tail_two (T : Int) (a b : UInt8) : (if 2 < (splitL 58 [a, b]).length then none else foldS 1 (splitL 58 [a, b]) T) = if sixL a b = true then some (T + 60 * numL [a, b]) else none := by
  by_cases ha : a = 58
  · have h6 := six58 a b (.inl ha)
    rw [h6]
    by_cases hb : b = 58
    · simp [splitL, ha, hb]
    · simp [splitL, ha, hb, foldS, valP]
  · by_cases hb : b = 58
    · have h6 := six58 a b (.inr hb)
      rw [h6]
      simp [splitL, ha, hb, foldS, valP]
    · have e : splitL 58 [a, b] = [[a, b]] := by simp [splitL, ha, hb]
      rw [e, if_neg (by simp), foldS, valP_six 0]
      cases h6 : sixL a b
      · rfl
      · simp [foldS, mulP]; omega
theorem tail_five (T : Int) (a b c d e : UInt8) : (if 2 < (splitL 58 [a, b, c, d, e]).length then none else foldS 1 (splitL 58 [a, b, c, d, e]) T) = if sixL a b = true ∧ c.toNat = 58 ∧ sixL d e = true then some (T + 60 * numL [a, b] + numL [d, e]) else none := by
  have hc58 : c = 58 ↔ c.toNat = 58 := ⟨fun h => by rw [h]; rfl, fun h => UInt8.toNat_inj.1 h⟩
  by_cases hab : a = 58 ∨ b = 58
  · have h6 := six58 a b hab
    have hR : (if sixL a b = true ∧ c.toNat = 58 ∧ sixL d e = true then some (T + 60 * numL [a, b] + numL [d, e]) else none) = (none : Option Int) := if_neg (by rw [h6]; simp)
    rw [hR]
    have hL : foldS 1 (splitL 58 [a, b, c, d, e]) T = none := by
      by_cases ha : a = 58
      · subst ha
        show foldS 1 ([] :: splitL 58 [b, c, d, e]) T = none
        simp [foldS, valP]
      · obtain rfl : b = 58 := by rcases hab with h | h; exact absurd h ha; exact h
        have : splitL 58 [a, 58, c, d, e] = [a] :: splitL 58 [c, d, e] := splitL_head 58 [a] [c, d, e] (by simp; exact fun h => ha h.symm)
        rw [this]
        simp [foldS, valP]
    rw [hL, ite_self]
  · have ha : ¬ a = 58 := fun h => hab (.inl h)
    have hb : ¬ b = 58 := fun h => hab (.inr h)
    by_cases hc : c = 58
    · have h1 : splitL 58 [a, b, c, d, e] = [a, b] :: splitL 58 [d, e] := by
        rw [hc]; exact splitL_head 58 [a, b] [d, e] (by simp; exact ⟨fun h => ha h.symm, fun h => hb h.symm⟩)
      rw [h1, foldS, valP_six 0]
      cases h6 : sixL a b
      · simp
      · simp only [if_true]
        by_cases hde : d = 58 ∨ e = 58
        · have h7 := six58 d e hde
          have hR : (if True ∧ c.toNat = 58 ∧ sixL d e = true then some (T + 60 * numL [a, b] + numL [d, e]) else none) = (none : Option Int) := if_neg (by rw [h7]; simp)
          rw [hR]
          have hL : ∀ T, foldS (1 + 1) (splitL 58 [d, e]) T = none := by
            intro T
            by_cases hd : d = 58
            · subst hd
              show foldS 2 ([] :: splitL 58 [e]) _ = none
              simp [foldS, valP]
            · obtain rfl : e = 58 := by rcases hde with h | h; exact absurd h hd; exact h
              simp [splitL, hd, foldS, valP]
          show (if _ then none else foldS (1 + 1) (splitL 58 [d, e]) _) = none
          rw [hL, ite_self]
        · have hd : ¬ d = 58 := fun h => hde (.inl h)
          have he : ¬ e = 58 := fun h => hde (.inr h)
          have h2 : splitL 58 [d, e] = [[d, e]] := by simp [splitL, hd, he]
          show (if _ then none else foldS (1 + 1) (splitL 58 [d, e]) (T + numL [a, b] * mulP 1)) = _
          rw [h2, if_neg (by simp), foldS, valP_six 1]
          cases h7 : sixL d e
          · simp
          · simp [hc58.1 hc, foldS, mulP]; omega
    · rw [if_neg (fun h : sixL a b = true ∧ c.toNat = 58 ∧ sixL d e = true => hc (hc58.2 h.2.1))]
      split
      · rfl
      next hl =>
        match hf : foldS 1 (splitL 58 [a, b, c, d, e]) T with
        | none => rfl
        | some n =>
          exfalso
          have h2 := foldS_two _ 0 T n hf
          have e1 : splitL 58 [a, b, c, d, e] = (a :: b :: c :: (splitL 58 [d, e]).headD []) :: (splitL 58 [d, e]).tail := by simp [splitL, ha, hb, hc]
          have := h2 (a :: b :: c :: (splitL 58 [d, e]).headD []) (by rw [e1]; simp)
          simp at this
theorem tail_other (T : Int) (l : List UInt8) (h2 : l.length ≠ 2) (h5 : l.length ≠ 5) : (if 2 < (splitL 58 l).length then none else foldS 1 (splitL 58 l) T) = none := by
  split
  · rfl
  next hl =>
    match hf : foldS 1 (splitL 58 l) T with
    | none => rfl
    | some n =>
      exfalso
      have h3 := sum_two _ (foldS_two _ 0 T n hf)
      have h4 := splitL_sum 58 l
      have h6 : 0 < (splitL 58 l).length := List.length_pos_iff.2 (splitL_ne 58 l)
      omega

theorem rspL_is (s : ByteArray) (h t : List UInt8) (hs : s.data.toList = h ++ t) (hh : (58 : UInt8) ∉ h) (ht : t = [] ∨ ∃ r, t = 58 :: r) : spanZ s = rspL h t := by
  unfold spanZ
  rw [hs]
  rcases ht with rfl | ⟨r, rfl⟩
  · rw [List.append_nil, splitL_none 58 h hh, if_neg (by simp), foldS, valP_whole]
    unfold rspL
    by_cases hw : wholeL h = false ∨ 2 < h.length
    · rw [if_pos hw, if_pos hw]
    · rw [if_neg hw, if_neg hw]
      simp [foldS, mulP]; omega
  · rw [splitL_head 58 h r hh]
    have e : (if 3 < (h :: splitL 58 r).length then none else foldS 0 (h :: splitL 58 r) 0) = if wholeL h = false ∨ 2 < h.length then none else (if 2 < (splitL 58 r).length then none else foldS 1 (splitL 58 r) (3600 * numL h)) := by
      rw [foldS, valP_whole]
      by_cases hw : wholeL h = false ∨ 2 < h.length
      · rw [if_pos hw, if_pos hw]; simp
      · rw [if_neg hw, if_neg hw]
        simp only [List.length_cons, mulP]
        have : (3 < (splitL 58 r).length + 1) ↔ 2 < (splitL 58 r).length := by omega
        simp only [this]
        rw [show (0 : Int) + numL h * 3600 = 3600 * numL h by omega]
    rw [e]
    unfold rspL
    split
    · rfl
    · match r with
      | [] => exact tail_other _ [] (by simp) (by simp)
      | [a] => exact tail_other _ [a] (by simp) (by simp)
      | [a, b] => exact tail_two _ a b
      | [a, b, c] => exact tail_other _ [a, b, c] (by simp) (by simp)
      | [a, b, c, d] => exact tail_other _ [a, b, c, d] (by simp) (by simp)
      | [a, b, c, d, e] => exact tail_five _ a b c d e
      | a :: b :: c :: d :: e :: f :: l => exact tail_other _ (a :: b :: c :: d :: e :: f :: l) (by simp) (by simp)
end Go.Proofs.YtokbipfkpojflaaDoor.Lx
