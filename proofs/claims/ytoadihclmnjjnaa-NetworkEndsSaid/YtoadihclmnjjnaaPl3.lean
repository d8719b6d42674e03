/-
  Plain laws of the algebra of relations: the table as numbers; composition is associative, has a unit, and inverses turn it round.
-/
import Derived.Test.YtoadihclmnjjnaaPl2
set_option linter.unusedSimpArgs false
set_option linter.unusedVariables false
namespace Go.Proofs.Ytoadihclmnjjnaa.Al
open Go Go.RowKit Go.Proofs.Ytoadihclmnjjnaa.Bt Go.Proofs.Ytoadihclmnjjnaa.Sl

theorem TS_lit : TS 3375 = 11532500863595108661388537645610545565999198224314442701894555880523860162744410459226021931844887418815160608858319592843697687662021021360276084242642007018883276405889114085177290533134741121609665130619049270358408784775713534961648146554646073031952451716479155781349912614651353520058769592308218169059668756793856247183543877569728520811842172405323072743852736918201846976435705774359245949326552468443054851365429248925319115965374390638582252021137861798345743841250241029063026847369029120329055180985801802468671542335529534542507262816162038587225981581613032254467221080995861830949674618842566825166040007874987850210060833382311944241283105562625 := by kernel_rfl
/-- The table's numbers. -/
def btL : List Nat := [1, 1, 1, 1, 31, 31, 1, 1, 1, 1, 31, 31, 8191, 1, 1, 1, 2, 28, 28, 2, 1, 1, 2, 28, 224, 7936, 1, 1, 7, 4, 28, 28, 4, 7, 391, 388, 2044, 1792, 7936, 1, 1, 7, 8, 16, 16, 8, 7, 391, 584, 1072, 2048, 4096, 1, 1, 31, 16, 16, 16, 16, 31, 8191, 7216, 7216, 4096, 4096, 1, 2, 28, 16, 16, 32, 32, 224, 7936, 7168, 7168, 4096, 4096, 1, 2, 4, 8, 16, 32, 64, 128, 256, 512, 1024, 2048, 4096, 1, 2, 4, 4, 28, 224, 128, 128, 256, 256, 1792, 1792, 7936, 391, 388, 388, 388, 2044, 1792, 256, 256, 256, 256, 1792, 1792, 7936, 391, 388, 388, 584, 1072, 1024, 512, 256, 256, 512, 1024, 2048, 4096, 391, 388, 2044, 1072, 1072, 1024, 1024, 1792, 7936, 7168, 7168, 4096, 4096, 391, 584, 1072, 1072, 1072, 2048, 2048, 2048, 4096, 4096, 4096, 4096, 4096, 8191, 7216, 7216, 7216, 7216, 4096, 4096, 4096, 4096, 4096, 4096, 4096, 4096]
def bt (p q : Nat) : Nat := btL.getD (p * 13 + q) 0
theorem bas_bt : ∀ p < 13, ∀ q < 13, bas p q = bt p q := by
  unfold bas
  rw [TS_lit]
  exact of_decide_eq_true (by kernel_rfl)
theorem ext13 {x y : Nat} (hx : x < 8192) (hy : y < 8192) (h : ∀ c < 13, x.testBit c = y.testBit c) : x = y := by
  apply Nat.eq_of_testBit_eq
  intro c
  by_cases hc : c < 13
  · exact h c hc
  · have hp : 8192 ≤ 2 ^ c := Nat.pow_le_pow_right (n := 2) (by omega) (by omega : 13 ≤ c)
    rw [Nat.testBit_lt_two_pow (by omega), Nat.testBit_lt_two_pow (by omega)]
theorem bit13 {x c : Nat} (hx : x < 8192) (h : x.testBit c = true) : c < 13 := by
  by_cases hc : c < 13
  · exact hc
  · have hp : 8192 ≤ 2 ^ c := Nat.pow_le_pow_right (n := 2) (by omega) (by omega : 13 ≤ c)
    rw [Nat.testBit_lt_two_pow (by omega)] at h
    cases h

/-- The union of the numbers f s, s in S. -/
def orRow (S : Nat) (f : Nat → Nat) : Nat := (List.range 13).foldl (fun o s => if S.testBit s then o ||| f s else o) 0
theorem orRow_bit (S : Nat) (f : Nat → Nat) (c : Nat) : (orRow S f).testBit c = true ↔ ∃ s, s < 13 ∧ S.testBit s = true ∧ (f s).testBit c = true := by
  suffices h : ∀ (l : List Nat) (o : Nat), (l.foldl (fun o s => if S.testBit s then o ||| f s else o) o).testBit c = true ↔ o.testBit c = true ∨ ∃ s ∈ l, S.testBit s = true ∧ (f s).testBit c = true by
    unfold orRow
    rw [h]
    simp
  intro l
  induction l with
  | nil => intro o; simp
  | cons s l ih =>
    intro o
    rw [List.foldl_cons, ih]
    by_cases hs : S.testBit s = true
    · rw [if_pos hs, Nat.testBit_or, Bool.or_eq_true]
      constructor
      · rintro ((h | h) | ⟨t, ht, h1, h2⟩)
        · exact .inl h
        · exact .inr ⟨s, by simp, hs, h⟩
        · exact .inr ⟨t, by simp [ht], h1, h2⟩
      · rintro (h | ⟨t, ht, h1, h2⟩)
        · exact .inl (.inl h)
        · rcases List.mem_cons.1 ht with rfl | ht
          · exact .inl (.inr h2)
          · exact .inr ⟨t, ht, h1, h2⟩
    · rw [if_neg hs]
      constructor
      · rintro (h | ⟨t, ht, h1, h2⟩)
        · exact .inl h
        · exact .inr ⟨t, by simp [ht], h1, h2⟩
      · rintro (h | ⟨t, ht, h1, h2⟩)
        · exact .inl h
        · rcases List.mem_cons.1 ht with rfl | ht
          · exact absurd h1 hs
          · exact .inr ⟨t, ht, h1, h2⟩
theorem bt_assoc : ∀ p < 13, ∀ q < 13, ∀ r < 13, orRow (bt p q) (fun s => bt s r) = orRow (bt q r) (fun u => bt p u) := of_decide_eq_true (by kernel_rfl)
theorem bt_unit : ∀ p < 13, bt p 6 = 2 ^ p ∧ bt 6 p = 2 ^ p := of_decide_eq_true (by kernel_rfl)
theorem bt_inv : ∀ p < 13, ∀ q < 13, ∀ t < 13, (bt (12 - q) (12 - p)).testBit (12 - t) = (bt p q).testBit t := of_decide_eq_true (by kernel_rfl)
theorem cmp_bt (a b c : Nat) : (cmp a b).testBit c = true ↔ ∃ p q, p < 13 ∧ q < 13 ∧ a.testBit p = true ∧ b.testBit q = true ∧ (bt p q).testBit c = true := by
  rw [cmp_bit]
  constructor
  · rintro ⟨p, q, hp, hq, h⟩; exact ⟨p, q, hp, hq, by rw [← bas_bt p hp q hq]; exact h⟩
  · rintro ⟨p, q, hp, hq, h⟩; exact ⟨p, q, hp, hq, by rw [bas_bt p hp q hq]; exact h⟩

theorem cmp_assoc (a b c : Nat) : cmp (cmp a b) c = cmp a (cmp b c) := by
  apply Nat.eq_of_testBit_eq
  intro t
  rw [Bool.eq_iff_iff, cmp_bt, cmp_bt]
  constructor
  · rintro ⟨s, r, hs, hr, h1, h2, h3⟩
    obtain ⟨p, q, hp, hq, h4, h5, h6⟩ := (cmp_bt a b s).1 h1
    have := (orRow_bit (bt p q) (fun s => bt s r) t).2 ⟨s, hs, h6, h3⟩
    rw [bt_assoc p hp q hq r hr, orRow_bit] at this
    obtain ⟨u, hu, h7, h8⟩ := this
    exact ⟨p, u, hp, hu, h4, (cmp_bt b c u).2 ⟨q, r, hq, hr, h5, h2, h7⟩, h8⟩
  · rintro ⟨p, u, hp, hu, h1, h2, h3⟩
    obtain ⟨q, r, hq, hr, h4, h5, h6⟩ := (cmp_bt b c u).1 h2
    have := (orRow_bit (bt q r) (fun u => bt p u) t).2 ⟨u, hu, h6, h3⟩
    rw [← bt_assoc p hp q hq r hr, orRow_bit] at this
    obtain ⟨s, hs, h7, h8⟩ := this
    exact ⟨s, r, hs, hr, (cmp_bt a b s).2 ⟨p, q, hp, hq, h1, h4, h7⟩, h5, h8⟩
theorem cmp_or (a b c : Nat) : cmp (a ||| b) c = cmp a c ||| cmp b c := by
  apply Nat.eq_of_testBit_eq
  intro t
  rw [Bool.eq_iff_iff, Nat.testBit_or, Bool.or_eq_true, cmp_bt, cmp_bt, cmp_bt]
  constructor
  · rintro ⟨p, q, hp, hq, h1, h2, h3⟩
    rw [Nat.testBit_or, Bool.or_eq_true] at h1
    rcases h1 with h1 | h1
    · exact .inl ⟨p, q, hp, hq, h1, h2, h3⟩
    · exact .inr ⟨p, q, hp, hq, h1, h2, h3⟩
  · rintro (⟨p, q, hp, hq, h1, h2, h3⟩ | ⟨p, q, hp, hq, h1, h2, h3⟩)
    · exact ⟨p, q, hp, hq, by rw [Nat.testBit_or, h1]; rfl, h2, h3⟩
    · exact ⟨p, q, hp, hq, by rw [Nat.testBit_or, h1, Bool.or_true], h2, h3⟩
theorem cmp_unit (a : Nat) (ha : a < 8192) : cmp a 64 = a ∧ cmp 64 a = a := by
  have h64 : ∀ q, (64 : Nat).testBit q = true ↔ q = 6 := fun q => by
    rw [show (64 : Nat) = 2 ^ 6 from rfl, Nat.testBit_two_pow, decide_eq_true_eq]; exact ⟨fun h => h.symm, fun h => h.symm⟩
  constructor
  · apply Nat.eq_of_testBit_eq
    intro t
    rw [Bool.eq_iff_iff, cmp_bt]
    constructor
    · rintro ⟨p, q, hp, hq, h1, h2, h3⟩
      obtain rfl := (h64 q).1 h2
      rw [(bt_unit p hp).1, Nat.testBit_two_pow, decide_eq_true_eq] at h3
      rw [← h3]; exact h1
    · intro h
      have ht := bit13 ha h
      exact ⟨t, 6, ht, by omega, h, (h64 6).2 rfl, by rw [(bt_unit t ht).1]; exact Nat.testBit_two_pow_self⟩
  · apply Nat.eq_of_testBit_eq
    intro t
    rw [Bool.eq_iff_iff, cmp_bt]
    constructor
    · rintro ⟨p, q, hp, hq, h1, h2, h3⟩
      obtain rfl := (h64 p).1 h1
      rw [(bt_unit q hq).2, Nat.testBit_two_pow, decide_eq_true_eq] at h3
      rw [← h3]; exact h2
    · intro h
      have ht := bit13 ha h
      exact ⟨6, t, by omega, ht, (h64 6).2 rfl, h, by rw [(bt_unit t ht).2]; exact Nat.testBit_two_pow_self⟩
theorem inv_cmp (a b : Nat) : invN (cmp a b) = cmp (invN b) (invN a) := by
  refine ext13 (invN_lt _) (cmp_lt _ _) fun c hc => ?_
  rw [invN_bit _ _ (by omega), Bool.eq_iff_iff, cmp_bt, cmp_bt]
  constructor
  · rintro ⟨p, q, hp, hq, h1, h2, h3⟩
    refine ⟨12 - q, 12 - p, by omega, by omega, ?_, ?_, ?_⟩
    · rw [invN_bit _ _ (by omega), show 12 - (12 - q) = q by omega]; exact h2
    · rw [invN_bit _ _ (by omega), show 12 - (12 - p) = p by omega]; exact h1
    · have := bt_inv p hp q hq (12 - c) (by omega)
      rw [show 12 - (12 - c) = c by omega] at this
      rw [this]; exact h3
  · rintro ⟨p, q, hp, hq, h1, h2, h3⟩
    rw [invN_bit _ _ (by omega)] at h1 h2
    refine ⟨12 - q, 12 - p, by omega, by omega, h2, h1, ?_⟩
    rw [bt_inv p hp q hq c hc]; exact h3
theorem inv_inv (a : Nat) (ha : a < 8192) : invN (invN a) = a := by
  refine ext13 (invN_lt _) ha fun c hc => ?_
  rw [invN_bit _ _ (by omega), invN_bit _ _ (by omega), show 12 - (12 - c) = c by omega]
theorem or_lt {a b : Nat} (ha : a < 8192) (hb : b < 8192) : a ||| b < 8192 := Nat.or_lt_two_pow (n := 13) ha hb
theorem inv_or (a b : Nat) (ha : a < 8192) (hb : b < 8192) : invN (a ||| b) = invN a ||| invN b := by
  refine ext13 (invN_lt _) (or_lt (invN_lt _) (invN_lt _)) fun c hc => ?_
  rw [Nat.testBit_or, invN_bit _ _ (by omega), invN_bit _ _ (by omega), invN_bit _ _ (by omega), Nat.testBit_or]
end Go.Proofs.Ytoadihclmnjjnaa.Al
