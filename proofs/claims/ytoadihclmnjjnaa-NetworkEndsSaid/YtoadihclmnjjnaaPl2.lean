/-
  Plain laws of the composition of sets: its bits, its fold over relations.
-/
import Derived.Test.YtoadihclmnjjnaaPl
set_option linter.unusedSimpArgs false
set_option linter.unusedVariables false
namespace Go.Proofs.Ytoadihclmnjjnaa.Al
open Go Go.RowKit Go.Proofs.Ytoadihclmnjjnaa.Bt Go.Proofs.Ytoadihclmnjjnaa.Sl

theorem CS_bit (a b c : Nat) : ∀ n, (CS a b n).testBit c = true ↔ ∃ k j m, j < 15 ∧ m < 15 ∧ k * 225 + j * 15 + m < n ∧ a.testBit (rl k j) = true ∧ b.testBit (rl j m) = true ∧ rl k m = c := by
  intro n
  induction n with
  | zero => simp [CS]
  | succ n ih =>
    have hd : n / 225 * 225 + n / 15 % 15 * 15 + n % 15 = n := by omega
    have key : ∀ k j m, j < 15 → m < 15 → k * 225 + j * 15 + m < n + 1 → (k * 225 + j * 15 + m < n) ∨ (k = n / 225 ∧ j = n / 15 % 15 ∧ m = n % 15) := by
      intro k j m hj hm hlt
      by_cases h : k * 225 + j * 15 + m < n
      · exact .inl h
      · exact .inr (by omega)
    unfold CS
    split
    · rename_i h
      rw [Nat.testBit_or, Bool.or_eq_true, ih, Nat.testBit_two_pow, decide_eq_true_eq]
      constructor
      · rintro (⟨k, j, m, hj, hm, hlt, h1, h2, h3⟩ | h3)
        · exact ⟨k, j, m, hj, hm, by omega, h1, h2, h3⟩
        · exact ⟨n / 225, n / 15 % 15, n % 15, by omega, by omega, by omega, h.1, h.2, h3⟩
      · rintro ⟨k, j, m, hj, hm, hlt, h1, h2, h3⟩
        rcases key k j m hj hm hlt with h' | ⟨rfl, rfl, rfl⟩
        · exact .inl ⟨k, j, m, hj, hm, h', h1, h2, h3⟩
        · exact .inr h3
    · rename_i h
      rw [ih]
      constructor
      · rintro ⟨k, j, m, hj, hm, hlt, h1, h2, h3⟩
        exact ⟨k, j, m, hj, hm, by omega, h1, h2, h3⟩
      · rintro ⟨k, j, m, hj, hm, hlt, h1, h2, h3⟩
        rcases key k j m hj hm hlt with h' | ⟨rfl, rfl, rfl⟩
        · exact ⟨k, j, m, hj, hm, h', h1, h2, h3⟩
        · exact absurd ⟨h1, h2⟩ h
theorem bas_iff (p q c : Nat) (hp : p < 13) (hq : q < 13) : (bas p q).testBit c = true ↔ ∃ k j m, j < 15 ∧ m < 15 ∧ k * 225 + j * 15 + m < 3375 ∧ rl k j = p ∧ rl j m = q ∧ rl k m = c := by
  rw [← cmp_pow p q hp hq, cmp, CS_bit]
  simp only [Nat.testBit_two_pow, decide_eq_true_eq]
  constructor
  · rintro ⟨k, j, m, hj, hm, hlt, h1, h2, h3⟩; exact ⟨k, j, m, hj, hm, hlt, h1.symm, h2.symm, h3⟩
  · rintro ⟨k, j, m, hj, hm, hlt, h1, h2, h3⟩; exact ⟨k, j, m, hj, hm, hlt, h1.symm, h2.symm, h3⟩
theorem cmp_bit (a b c : Nat) : (cmp a b).testBit c = true ↔ ∃ p q, p < 13 ∧ q < 13 ∧ a.testBit p = true ∧ b.testBit q = true ∧ (bas p q).testBit c = true := by
  rw [cmp, CS_bit]
  constructor
  · rintro ⟨k, j, m, hj, hm, hlt, h1, h2, h3⟩
    have l1 := rl_lt k j (by omega) hj
    have l2 := rl_lt j m hj hm
    exact ⟨rl k j, rl j m, l1, l2, h1, h2, (bas_iff _ _ _ l1 l2).2 ⟨k, j, m, hj, hm, hlt, rfl, rfl, h3⟩⟩
  · rintro ⟨p, q, hp, hq, h1, h2, h3⟩
    obtain ⟨k, j, m, hj, hm, hlt, rfl, rfl, h4⟩ := (bas_iff p q c hp hq).1 h3
    exact ⟨k, j, m, hj, hm, hlt, h1, h2, h4⟩
theorem cmp_lt (a b : Nat) : cmp a b < 8192 := CS_lt a b 3375 (Nat.le_refl _)

/-- The program's inner and outer rounds. -/
def cI (o : Nat) (r : Fin 13) (l : List (Fin 13)) : Nat := l.foldl (fun o s => o ||| bas r.val s.val) o
def cA (l : List (Fin 13)) (b : Nat) : Nat := l.foldl (fun o r => cI o r (singF b)) 0
theorem cI_snoc (o : Nat) (r : Fin 13) (l : List (Fin 13)) (s : Fin 13) : cI o r (l ++ [s]) = cI o r l ||| bas r.val s.val := by simp [cI]
theorem cA_snoc (l : List (Fin 13)) (b : Nat) (r : Fin 13) : cA (l ++ [r]) b = cI (cA l b) r (singF b) := by simp [cA]
theorem cI_lt (r : Fin 13) : ∀ (l : List (Fin 13)) (o : Nat), o < 8192 → cI o r l < 8192
  | [], o, h => h
  | s :: l, o, h => cI_lt r l (o ||| bas r.val s.val) (Nat.or_lt_two_pow (n := 13) h (bas_lt _ _))
theorem cA_lt (b : Nat) (l : List (Fin 13)) : cA l b < 8192 := by
  suffices h : ∀ (l : List (Fin 13)) (o : Nat), o < 8192 → l.foldl (fun o r => cI o r (singF b)) o < 8192 from h l 0 (by decide)
  intro l
  induction l with
  | nil => intro o h; exact h
  | cons r l ih => intro o h; exact ih _ (cI_lt r _ _ h)
theorem cI_bit (r : Fin 13) (c : Nat) : ∀ (l : List (Fin 13)) (o : Nat), (cI o r l).testBit c = (o.testBit c || l.any fun s => (bas r.val s.val).testBit c)
  | [], o => by simp [cI]
  | s :: l, o => by
    show (cI (o ||| bas r.val s.val) r l).testBit c = _
    rw [cI_bit r c l, Nat.testBit_or, List.any_cons, Bool.or_assoc]
theorem cA_bit (b c : Nat) (l : List (Fin 13)) : (cA l b).testBit c = l.any fun r => (singF b).any fun s => (bas r.val s.val).testBit c := by
  suffices h : ∀ (l : List (Fin 13)) (o : Nat), (l.foldl (fun o r => cI o r (singF b)) o).testBit c = (o.testBit c || l.any fun r => (singF b).any fun s => (bas r.val s.val).testBit c) by
    unfold cA; rw [h l 0]; simp
  intro l
  induction l with
  | nil => intro o; simp
  | cons r l ih => intro o; rw [List.foldl_cons, ih, cI_bit, List.any_cons, Bool.or_assoc]
theorem mem_singF (m : Nat) (r : Fin 13) : r ∈ singF m ↔ m.testBit r.val = true := by
  unfold singF
  rw [List.mem_filter]
  exact ⟨fun h => h.2, fun h => ⟨List.mem_finRange _, h⟩⟩
/-- The program's rounds give the composition. -/
theorem cA_all (a b : Nat) : cA (singF a) b = cmp a b := by
  apply Nat.eq_of_testBit_eq
  intro c
  rw [Bool.eq_iff_iff, cA_bit, cmp_bit, List.any_eq_true]
  constructor
  · rintro ⟨r, hr, h⟩
    rw [List.any_eq_true] at h
    obtain ⟨s, hs, h⟩ := h
    exact ⟨r.val, s.val, r.isLt, s.isLt, (mem_singF _ _).1 hr, (mem_singF _ _).1 hs, h⟩
  · rintro ⟨p, q, hp, hq, h1, h2, h3⟩
    exact ⟨⟨p, hp⟩, (mem_singF _ _).2 h1, List.any_eq_true.2 ⟨⟨q, hq⟩, (mem_singF _ _).2 h2, h3⟩⟩
end Go.Proofs.Ytoadihclmnjjnaa.Al
