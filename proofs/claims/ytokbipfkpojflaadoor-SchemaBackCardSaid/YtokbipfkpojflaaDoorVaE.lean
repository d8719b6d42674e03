/-
  The encoding of lists of values (plain lemmas; nothing of the program).
-/
import Derived.Test.YtokbipfkpojflaaDoorVaP
namespace Go.Proofs.YtokbipfkpojflaaDoor.Va
open Go Go.RowKit

/-- The eight bytes of a number, from the top. -/
def byteAt (n : Nat) (i : Nat) : UInt8 := UInt8.ofNat (n / 256 ^ i)
def be8 (n : Nat) : List UInt8 := [byteAt n 7, byteAt n 6, byteAt n 5, byteAt n 4, byteAt n 3, byteAt n 2, byteAt n 1, byteAt n 0]
def off63 (z : Int) : Nat := (z + 9223372036854775808).toNat
/-- What stands behind the kind. -/
def encT (v : V3) : List UInt8 := if v.1 = 2 then v.2.2.data.toList ++ [0] else if v.1 = 3 then [UInt8.ofNat v.2.1.toNat] else be8 (off63 v.2.1)
def encV (v : V3) : List UInt8 := UInt8.ofNat v.1.toNat :: encT v
def encL (l : List V3) : List UInt8 := (l.map encV).flatten
def num8 (b : List UInt8) : Nat := b.foldl (fun n c => n * 256 + c.toNat) 0
/-- A text up to its zero, and what stands behind. -/
def spl : List UInt8 → Option (List UInt8 × List UInt8)
  | [] => none
  | c :: r => if c = 0 then some ([], r) else (spl r).map fun p => (c :: p.1, p.2)
def oneV : List UInt8 → Option (V3 × List UInt8)
  | [] => none
  | c :: b => if c.toNat = 2 then (spl b).map fun p => ((2, 0, ⟨p.1.toArray⟩), p.2)
    else if c.toNat = 3 then (match b with
      | [] => none
      | x :: r => some ((3, (x.toNat : Int), ⟨#[]⟩), r))
    else if b.length < 8 then none else some (((c.toNat : Int), (num8 (b.take 8) : Int) - 9223372036854775808, ⟨#[]⟩), b.drop 8)
theorem oneV_cons (c : UInt8) (b : List UInt8) : oneV (c :: b) = (if c.toNat = 2 then (spl b).map fun p => ((2, 0, ⟨p.1.toArray⟩), p.2)
    else if c.toNat = 3 then (match b with
      | [] => none
      | x :: r => some ((3, (x.toNat : Int), ⟨#[]⟩), r))
    else if b.length < 8 then none else some (((c.toNat : Int), (num8 (b.take 8) : Int) - 9223372036854775808, ⟨#[]⟩), b.drop 8) : Option (V3 × List UInt8)) := rfl
/-- The list that bytes stand for. -/
def decA : Nat → List V3 → List UInt8 → Option (List V3)
  | _, acc, [] => some acc
  | 0, _, _ :: _ => none
  | f + 1, acc, b@(_ :: _) => match oneV b with
    | none => none
    | some (v, r) => if validV v = false ∨ acc.length = 1000 then none else decA f (acc ++ [v]) r

theorem spl_lt : ∀ b s r, spl b = some (s, r) → b = s ++ 0 :: r ∧ ∀ c ∈ s, c ≠ 0
  | [], s, r, h => by simp [spl] at h
  | c :: b, s, r, h => by
    unfold spl at h
    by_cases hc : c = 0
    · rw [if_pos hc] at h
      simp only [Option.some.injEq, Prod.mk.injEq] at h
      obtain ⟨rfl, rfl⟩ := h
      subst hc
      exact ⟨rfl, fun c hc => by cases hc⟩
    · rw [if_neg hc] at h
      cases hs : spl b with
      | none => rw [hs] at h; simp at h
      | some p =>
        rw [hs] at h
        simp only [Option.map_some, Option.some.injEq, Prod.mk.injEq] at h
        obtain ⟨rfl, rfl⟩ := h
        obtain ⟨h1, h2⟩ := spl_lt b p.1 p.2 hs
        refine ⟨by rw [h1]; rfl, fun c' hc' => ?_⟩
        rcases List.mem_cons.1 hc' with rfl | h3
        · exact hc
        · exact h2 _ h3
theorem spl_none : ∀ b, spl b = none → ∀ c ∈ b, c ≠ 0
  | [], _, c, hc => by cases hc
  | x :: b, h, c, hc => by
    unfold spl at h
    by_cases hx : x = 0
    · rw [if_pos hx] at h; cases h
    · rw [if_neg hx] at h
      cases hs : spl b with
      | some p => rw [hs] at h; cases h
      | none =>
        rcases List.mem_cons.1 hc with rfl | h3
        · exact hx
        · exact spl_none b hs c h3
theorem spl_app : ∀ s r, (∀ c ∈ s, c ≠ 0) → spl (s ++ 0 :: r) = some (s, r)
  | [], r, _ => by simp [spl]
  | c :: s, r, h => by
    rw [List.cons_append, spl, if_neg (h c (by simp)), spl_app s r (fun c hc => h c (by simp [hc]))]
    rfl
theorem oneV_lt (b : List UInt8) (v : V3) (r : List UInt8) (h : oneV b = some (v, r)) : ∃ p, b = p ++ r ∧ 2 ≤ p.length := by
  cases b with
  | nil => simp [oneV] at h
  | cons c b =>
    rw [oneV_cons] at h
    by_cases h2 : c.toNat = 2
    · rw [if_pos h2] at h
      cases hs : spl b with
      | none => rw [hs] at h; simp at h
      | some p =>
        rw [hs] at h
        simp only [Option.map_some, Option.some.injEq, Prod.mk.injEq] at h
        obtain ⟨_, rfl⟩ := h
        obtain ⟨h1, _⟩ := spl_lt b p.1 p.2 hs
        exact ⟨c :: (p.1 ++ [0]), by rw [h1]; simp, by simp⟩
    · rw [if_neg h2] at h
      by_cases h3 : c.toNat = 3
      · rw [if_pos h3] at h
        cases b with
        | nil => cases h
        | cons x r' =>
          simp only [Option.some.injEq, Prod.mk.injEq] at h
          obtain ⟨_, rfl⟩ := h
          exact ⟨[c, x], rfl, by simp⟩
      · rw [if_neg h3] at h
        by_cases h8 : b.length < 8
        · rw [if_pos h8] at h; cases h
        · rw [if_neg h8] at h
          simp only [Option.some.injEq, Prod.mk.injEq] at h
          obtain ⟨_, rfl⟩ := h
          exact ⟨c :: b.take 8, by simp, by simp; omega⟩
theorem decA_fuel : ∀ f g acc b, b.length ≤ f → b.length ≤ g → decA f acc b = decA g acc b
  | f, g, acc, [], _, _ => by cases f <;> cases g <;> rfl
  | 0, _, _, _ :: _, h, _ => by simp at h
  | _ + 1, 0, _, _ :: _, _, h => by simp at h
  | f + 1, g + 1, acc, x :: b, h1, h2 => by
    unfold decA
    cases ho : oneV (x :: b) with
    | none => rfl
    | some p =>
      obtain ⟨v, r⟩ := p
      obtain ⟨q, hq, hq2⟩ := oneV_lt _ _ _ ho
      have hl : (x :: b).length = q.length + r.length := by rw [hq, List.length_append]
      simp only
      split
      · rfl
      · exact decA_fuel f g _ r (by omega) (by omega)
theorem decA_nil (f : Nat) (acc : List V3) : decA f acc [] = some acc := by cases f <;> rfl
theorem decA_step (acc : List V3) (b : List UInt8) (v : V3) (r : List UInt8) (h : oneV b = some (v, r)) :
    decA b.length acc b = if validV v = false ∨ acc.length = 1000 then none else decA r.length (acc ++ [v]) r := by
  obtain ⟨q, hq, hq2⟩ := oneV_lt _ _ _ h
  have hl : b.length = q.length + r.length := by rw [hq, List.length_append]
  cases b with
  | nil => simp [oneV] at h
  | cons x b =>
    rw [List.length_cons, decA, h]
    simp only
    split
    · rfl
    · exact decA_fuel _ _ _ r (by rw [List.length_cons] at hl; omega) (Nat.le_refl _)
theorem decA_none (acc : List V3) (b : List UInt8) (h : oneV b = none) (hb : b ≠ []) : decA b.length acc b = none := by
  cases b with
  | nil => exact absurd rfl hb
  | cons x b => rw [List.length_cons, decA, h]

theorem num8_be8 (n : Nat) (h : n < 18446744073709551616) : num8 (be8 n) = n := by
  unfold num8 be8 byteAt
  simp only [List.foldl_cons, List.foldl_nil, UInt8.toNat_ofNat']
  omega
theorem valid_kind (v : V3) (h : validV v = true) : v.1 = 1 ∨ v.1 = 2 ∨ v.1 = 3 ∨ v.1 = 4 := by
  unfold validV at h
  by_cases h1 : v.1 = 1
  · exact .inl h1
  by_cases h2 : v.1 = 2
  · exact .inr (.inl h2)
  by_cases h3 : v.1 = 3
  · exact .inr (.inr (.inl h3))
  by_cases h4 : v.1 = 4
  · exact .inr (.inr (.inr h4))
  rw [if_neg h1, if_neg h2, if_neg h3, if_neg h4] at h
  cases h
theorem size_zero (s : ByteArray) (h : s.size = 0) : s = ⟨#[]⟩ := by
  obtain ⟨⟨l⟩⟩ := s
  have : l = [] := List.length_eq_zero_iff.1 h
  rw [this]
theorem txt_ne0 (s : ByteArray) (h : txtB s = true) : ∀ c ∈ s.data.toList, c ≠ 0 := by
  intro c hc h0
  have := List.all_eq_true.1 h c hc
  subst h0
  simp at this
/-- A valid value is read as what it was. -/
theorem one_enc (v : V3) (r : List UInt8) (h : validV v = true) (hn : -9223372036854775808 ≤ v.2.1 ∧ v.2.1 < 9223372036854775808) : oneV (encV v ++ r) = some (v, r) := by
  obtain ⟨k, n, s⟩ := v
  have hk := valid_kind _ h
  unfold validV at h
  have b8 : ∀ m, (be8 m).length = 8 := fun m => rfl
  have num : ∀ (kk : Nat) (_ : kk < 256) (_ : ¬ kk = 2) (_ : ¬ kk = 3) (_ : s.size = 0), oneV (UInt8.ofNat kk :: (be8 (off63 n)) ++ r) = some (((kk : Int), n, s), r) := by
    intro kk h1 h2 h3 h4
    have hkk : (UInt8.ofNat kk).toNat = kk := by rw [UInt8.toNat_ofNat']; omega
    rw [List.cons_append, oneV_cons, hkk, if_neg h2, if_neg h3, if_neg (by rw [List.length_append, b8]; omega), List.take_append_of_le_length (by rw [b8]; omega), List.take_of_length_le (by rw [b8]; omega), List.drop_append_of_le_length (by rw [b8]; omega), List.drop_of_length_le (by rw [b8]; omega), num8_be8 _ (by unfold off63; simp at hn; omega), size_zero s h4, List.nil_append]
    have : ((off63 n : Nat) : Int) - 9223372036854775808 = n := by unfold off63; simp at hn; omega
    rw [this]
  have z0 : s = ByteArray.empty → s.size = 0 := fun h => by rw [h]; rfl
  rcases hk with rfl | rfl | rfl | rfl
  · simp at h
    exact num 1 (by omega) (by omega) (by omega) (z0 h)
  · simp at h
    obtain ⟨⟨rfl, h2⟩, h3⟩ := h
    show oneV (2 :: (s.data.toList ++ [0]) ++ r) = _
    rw [List.cons_append, oneV_cons, if_pos (by rfl), List.append_assoc, List.singleton_append, spl_app _ _ (txt_ne0 s h3)]
    rfl
  · simp at h
    obtain ⟨h2, h3⟩ := h
    show oneV (3 :: [UInt8.ofNat n.toNat] ++ r) = _
    rw [List.cons_append, oneV_cons, if_neg (by decide), if_pos (by rfl)]
    rw [size_zero s (z0 h2)]
    rcases h3 with rfl | rfl
    · rfl
    · rfl
  · simp at h
    exact num 4 (by omega) (by omega) (by omega) (z0 h.1.1)
/-- Numbers of a list that fit. -/
def FitV (v : V3) : Prop := -9223372036854775808 ≤ v.2.1 ∧ v.2.1 < 9223372036854775808
theorem dec_enc : ∀ (l : List V3) (acc : List V3), (∀ v ∈ l, FitV v) → allV l = true → acc.length + l.length ≤ 1000 → decA (encL l).length acc (encL l) = some (acc ++ l)
  | [], acc, _, _, _ => by rw [show encL [] = [] from rfl, decA_nil, List.append_nil]
  | v :: l, acc, hf, ha, hl => by
    have ha' : validV v = true ∧ allV l = true := by simpa [allV] using ha
    rw [show encL (v :: l) = encV v ++ encL l from rfl, decA_step _ _ v (encL l) (one_enc v _ ha'.1 (hf v (by simp))), if_neg (by simp at hl ⊢; exact ⟨ha'.1, by omega⟩), dec_enc l _ (fun v hv => hf v (by simp [hv])) ha'.2 (by simp at hl ⊢; omega)]
    simp
theorem encT_len (v : V3) (h : validV v = true) : (encT v).length ≤ 31 := by
  unfold encT
  split
  · rename_i h2
    unfold validV at h
    rw [if_neg (by omega), if_pos h2] at h
    simp at h
    rw [List.length_append, Array.length_toList]
    have : v.2.2.data.size = v.2.2.size := rfl
    simp; omega
  · split
    · simp
    · show 8 ≤ 31; omega
theorem encL_len : ∀ (l : List V3), allV l = true → (encL l).length ≤ 32 * l.length
  | [], _ => by simp [encL]
  | v :: l, h => by
    have h' : validV v = true ∧ allV l = true := by simpa [allV] using h
    have h1 := encT_len v h'.1
    have h2 := encL_len l h'.2
    rw [show encL (v :: l) = encV v ++ encL l from rfl, List.length_append, show encV v = UInt8.ofNat v.1.toNat :: encT v from rfl, List.length_cons, List.length_cons]
    omega
end Go.Proofs.YtokbipfkpojflaaDoor.Va
