/-
  The order of encodings is that of the lists (plain lemmas; nothing of the program).
-/
import Derived.Test.YtgfppajbegcaeaaDoorVaE
namespace Go.Proofs.YtgfppajbegcaeaaDoor.Va
open Go Go.RowKit

theorem cmpL_cons (a b : UInt8) (x y : List UInt8) : cmpL (a :: x) (b :: y) = if cmpB a b = 0 then cmpL x y else cmpB a b := rfl
theorem cmpI_self (a : Int) : cmpI a a = 0 := (cmpI_cmp.eq a a).2 rfl
theorem cmpI_ne (a b : Int) (h : ¬ a = b) : ¬ cmpI a b = 0 := fun e => h ((cmpI_cmp.eq a b).1 e)
theorem cmpB_self (a : UInt8) : cmpB a a = 0 := cmpI_self _
/-- Texts without zeros, each followed by a zero. -/
theorem cmpL_text : ∀ (s t r r' : List UInt8), (∀ c ∈ s, c ≠ 0) → (∀ c ∈ t, c ≠ 0) → cmpL (s ++ 0 :: r) (t ++ 0 :: r') = if cmpL s t = 0 then cmpL r r' else cmpL s t
  | [], [], r, r', _, _ => by
    rw [List.nil_append, List.nil_append, cmpL_cons, if_pos (cmpB_self 0), show cmpL [] [] = 0 from rfl, if_pos rfl]
  | [], b :: t, r, r', _, h2 => by
    have hb : b ≠ 0 := h2 b (by simp)
    have hb2 : ¬ b.toNat = 0 := fun e => hb (UInt8.toNat_inj.1 e)
    have e : cmpB 0 b = -1 := by unfold cmpB cmpI; rw [if_pos (by show (0 : Int) < _; omega)]
    rw [List.nil_append, List.cons_append, cmpL_cons, e, show cmpL [] (b :: t) = -1 from rfl]
    rfl
  | a :: s, [], r, r', h1, _ => by
    have hb : a ≠ 0 := h1 a (by simp)
    have hb2 : ¬ a.toNat = 0 := fun e => hb (UInt8.toNat_inj.1 e)
    have e : cmpB a 0 = 1 := by unfold cmpB cmpI; rw [if_neg (by show ¬ _ < (0 : Int); omega), if_pos (by show (0 : Int) < _; omega)]
    rw [List.nil_append, List.cons_append, cmpL_cons, e, show cmpL (a :: s) [] = 1 from rfl]
    rfl
  | a :: s, b :: t, r, r', h1, h2 => by
    rw [List.cons_append, List.cons_append, cmpL_cons, cmpL_cons, cmpL_text s t r r' (fun c hc => h1 c (by simp [hc])) (fun c hc => h2 c (by simp [hc]))]
    by_cases h : cmpB a b = 0
    · rw [if_pos h, if_pos h]
    · rw [if_neg h, if_neg h, if_neg h]
/-- k bytes of a number. -/
def beK : Nat → Nat → List UInt8
  | 0, _ => []
  | k + 1, n => byteAt n k :: beK k n
theorem be8_beK (n : Nat) : be8 n = beK 8 n := rfl
theorem cmpL_be : ∀ (k n m : Nat) (r r' : List UInt8), cmpL (beK k n ++ r) (beK k m ++ r') = if n % 256 ^ k = m % 256 ^ k then cmpL r r' else cmpI (n % 256 ^ k : Nat) (m % 256 ^ k : Nat)
  | 0, n, m, r, r' => by simp [beK, Nat.mod_one]
  | k + 1, n, m, r, r' => by
    rw [beK, beK, List.cons_append, List.cons_append, cmpL_cons, cmpL_be k n m r r']
    have e1 : (byteAt n k).toNat = n / 256 ^ k % 256 := by unfold byteAt; rw [UInt8.toNat_ofNat']
    have e2 : (byteAt m k).toNat = m / 256 ^ k % 256 := by unfold byteAt; rw [UInt8.toNat_ofNat']
    have hn : n % 256 ^ (k + 1) = n % 256 ^ k + 256 ^ k * (n / 256 ^ k % 256) := by rw [Nat.pow_succ, Nat.mod_mul]
    have hm : m % 256 ^ (k + 1) = m % 256 ^ k + 256 ^ k * (m / 256 ^ k % 256) := by rw [Nat.pow_succ, Nat.mod_mul]
    have hp : 0 < 256 ^ k := Nat.pow_pos (by omega)
    have ln := Nat.mod_lt n hp
    have lm := Nat.mod_lt m hp
    rw [hn, hm]
    unfold cmpB
    rw [e1, e2]
    generalize n / 256 ^ k % 256 = a
    generalize m / 256 ^ k % 256 = b
    generalize n % 256 ^ k = x at *
    generalize m % 256 ^ k = y at *
    generalize 256 ^ k = p at *
    by_cases h : a = b
    · subst h
      rw [cmpI_self, if_pos rfl]
      by_cases h2 : x = y
      · subst h2; rw [if_pos rfl, if_pos rfl]
      · rw [if_neg h2, if_neg (by omega)]
        unfold cmpI
        generalize p * a = q
        by_cases h3 : x < y
        · rw [if_pos (by omega), if_pos (by omega)]
        · rw [if_neg (by omega), if_pos (by omega), if_neg (by omega), if_pos (by omega)]
    · rw [if_neg (cmpI_ne _ _ (by omega))]
      rcases Nat.lt_or_gt_of_ne h with h3 | h3
      · have hq : p * a + p ≤ p * b := by rw [← Nat.mul_succ]; exact Nat.mul_le_mul_left p h3
        generalize p * a = q at *
        generalize p * b = q' at *
        rw [if_neg (by omega)]
        unfold cmpI
        rw [if_pos (by omega), if_pos (by omega)]
      · have hq : p * b + p ≤ p * a := by rw [← Nat.mul_succ]; exact Nat.mul_le_mul_left p h3
        generalize p * a = q at *
        generalize p * b = q' at *
        rw [if_neg (by omega)]
        unfold cmpI
        rw [if_neg (by omega), if_pos (by omega), if_neg (by omega), if_pos (by omega)]
theorem cmpL_num (a b : Int) (ha : -9223372036854775808 ≤ a ∧ a < 9223372036854775808) (hb : -9223372036854775808 ≤ b ∧ b < 9223372036854775808) (r r' : List UInt8) :
    cmpL (be8 (off63 a) ++ r) (be8 (off63 b) ++ r') = if cmpI a b = 0 then cmpL r r' else cmpI a b := by
  rw [be8_beK, be8_beK, cmpL_be]
  have h1 : off63 a % 256 ^ 8 = off63 a := Nat.mod_eq_of_lt (by unfold off63; omega)
  have h2 : off63 b % 256 ^ 8 = off63 b := Nat.mod_eq_of_lt (by unfold off63; omega)
  rw [h1, h2]
  by_cases h : a = b
  · subst h; rw [if_pos rfl, if_pos (cmpI_self a)]
  · rw [if_neg (by unfold off63; omega), if_neg (cmpI_ne a b h)]
    unfold cmpI off63
    by_cases h3 : a < b
    · rw [if_pos (by omega), if_pos h3]
    · rw [if_neg (by omega), if_pos (by omega), if_neg h3, if_pos (by omega)]
theorem kind_byte (a b : Int) (ha : a = 1 ∨ a = 2 ∨ a = 3 ∨ a = 4) (hb : b = 1 ∨ b = 2 ∨ b = 3 ∨ b = 4) : cmpB (UInt8.ofNat a.toNat) (UInt8.ofNat b.toNat) = cmpI a b := by
  rcases ha with rfl | rfl | rfl | rfl <;> rcases hb with rfl | rfl | rfl | rfl <;> rfl
theorem no_text (v : V3) (h : validV v = true) (hk : ¬ v.1 = 2) : v.2.2 = ⟨#[]⟩ := by
  unfold validV at h
  have h3 : v.2.2.size = 0 := by
    rcases valid_kind v (by unfold validV; exact h) with h1 | h1 | h1 | h1
    · rw [if_pos h1] at h; exact of_decide_eq_true h
    · exact absurd h1 hk
    · rw [if_neg (by omega), if_neg hk, if_pos h1] at h
      rw [Bool.and_eq_true, decide_eq_true_eq] at h
      exact h.1
    · rw [if_neg (by omega), if_neg hk, if_neg (by omega), if_pos h1] at h
      rw [Bool.and_eq_true, Bool.and_eq_true, decide_eq_true_eq] at h
      exact h.1.1
  exact size_zero _ h3
theorem enc_cmp (v u : V3) (r r' : List UInt8) (hv : validV v = true) (hu : validV u = true) (fv : FitV v) (fu : FitV u) :
    cmpL (encV v ++ r) (encV u ++ r') = if ordV v u = 0 then cmpL r r' else ordV v u := by
  have kv := valid_kind v hv
  have ku := valid_kind u hu
  unfold encV
  rw [List.cons_append, List.cons_append, cmpL_cons, kind_byte _ _ kv ku]
  unfold ordV or3
  by_cases hk : v.1 = u.1
  · rw [hk, cmpI_self, if_pos rfl, if_pos rfl]
    unfold encT
    rw [hk]
    by_cases h2 : u.1 = 2
    · have n0 : ∀ x : V3, validV x = true → x.1 = 2 → x.2.1 = 0 ∧ txtB x.2.2 = true := by
        intro x hx h2
        unfold validV at hx
        rw [if_neg (by omega), if_pos h2, Bool.and_eq_true, Bool.and_eq_true, decide_eq_true_eq] at hx
        exact ⟨hx.1.1, hx.2⟩
      obtain ⟨a1, a2⟩ := n0 v hv (by omega)
      obtain ⟨b1, b2⟩ := n0 u hu h2
      rw [if_pos h2, if_pos h2, a1, b1, cmpI_self, if_pos rfl, List.append_assoc, List.append_assoc, List.singleton_append, List.singleton_append, cmpL_text _ _ _ _ (txt_ne0 _ a2) (txt_ne0 _ b2)]
    · rw [no_text v hv (by omega), no_text u hu h2, if_neg h2, if_neg h2, show cmpL (ByteArray.mk #[]).data.toList (ByteArray.mk #[]).data.toList = 0 from rfl]
      have e : (if cmpI v.2.1 u.2.1 = 0 then (0 : Int) else cmpI v.2.1 u.2.1) = cmpI v.2.1 u.2.1 := by
        by_cases h : cmpI v.2.1 u.2.1 = 0
        · rw [if_pos h, h]
        · rw [if_neg h]
      rw [e]
      by_cases h3 : u.1 = 3
      · rw [if_pos h3, if_pos h3]
        have n1 : ∀ x : V3, validV x = true → x.1 = 3 → x.2.1 = 0 ∨ x.2.1 = 1 := by
          intro x hx h2
          unfold validV at hx
          rw [if_neg (by omega), if_neg (by omega), if_pos h2, Bool.and_eq_true, Bool.or_eq_true] at hx
          exact hx.2.imp of_decide_eq_true of_decide_eq_true
        rw [List.singleton_append, List.singleton_append, cmpL_cons]
        rcases n1 v hv (by omega) with h4 | h4 <;> rcases n1 u hu h3 with h5 | h5 <;> rw [h4, h5] <;> rfl
      · rw [if_neg h3, if_neg h3]
        exact cmpL_num _ _ fv fu r r'
  · rw [if_neg (cmpI_ne _ _ hk), if_neg (cmpI_ne _ _ hk), if_neg (cmpI_ne _ _ hk)]
theorem encV_ne (v : V3) : encV v ≠ [] := by unfold encV; simp
/-- The order of lists is that of their encodings. -/
theorem ord_enc : ∀ (l m : List V3), allV l = true → allV m = true → (∀ v ∈ l, FitV v) → (∀ v ∈ m, FitV v) → cmpL (encL l) (encL m) = ordL l m
  | [], [], _, _, _, _ => rfl
  | [], u :: m, _, _, _, _ => rfl
  | v :: l, [], _, _, _, _ => rfl
  | v :: l, u :: m, h1, h2, f1, f2 => by
    have a : validV v = true ∧ allV l = true := by simpa [allV] using h1
    have b : validV u = true ∧ allV m = true := by simpa [allV] using h2
    rw [show encL (v :: l) = encV v ++ encL l from rfl, show encL (u :: m) = encV u ++ encL m from rfl, enc_cmp v u _ _ a.1 b.1 (f1 v (by simp)) (f2 u (by simp)), ord_enc l m a.2 b.2 (fun x hx => f1 x (by simp [hx])) (fun x hx => f2 x (by simp [hx]))]
    rfl
end Go.Proofs.YtgfppajbegcaeaaDoor.Va
