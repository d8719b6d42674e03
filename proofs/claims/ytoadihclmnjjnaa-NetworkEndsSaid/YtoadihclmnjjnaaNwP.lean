/-
  Networks: the plain law of closures and scenarios (layer 46; nothing of the program's functions).
-/
import Derived.Test.YtoadihclmnjjnaaPl3
set_option linter.unusedSimpArgs false
set_option linter.unusedVariables false
namespace Go.Proofs.Ytoadihclmnjjnaa.Nw
open Go Go.Proofs.Ytoadihclmnjjnaa.Al

/-- A matrix of sets. -/
abbrev Mt := Nat → Nat → Nat
def setM (M : Mt) (i j x : Nat) : Mt := fun a b => if a = i ∧ b = j then x else M a b
theorem setM_same (M : Mt) (i j x : Nat) : setM M i j x i j = x := by simp [setM]
theorem setM_other (M : Mt) (i j x a b : Nat) (h : ¬ (a = i ∧ b = j)) : setM M i j x a b = M a b := by unfold setM; rw [if_neg h]
/-- Each bit of x is one of y. -/
def Sub (x y : Nat) : Prop := ∀ c, x.testBit c = true → y.testBit c = true
theorem Sub.refl (x : Nat) : Sub x x := fun _ h => h
theorem Sub.trans {x y z : Nat} (h : Sub x y) (k : Sub y z) : Sub x z := fun c hc => k c (h c hc)
theorem sub_and {x y z : Nat} : Sub x (y &&& z) ↔ Sub x y ∧ Sub x z := by
  unfold Sub
  constructor
  · intro h
    exact ⟨fun c hc => by have := h c hc; rw [Nat.testBit_and] at this; simp at this; exact this.1, fun c hc => by have := h c hc; rw [Nat.testBit_and] at this; simp at this; exact this.2⟩
  · rintro ⟨h1, h2⟩ c hc
    rw [Nat.testBit_and, h1 c hc, h2 c hc]; rfl
theorem Sub.antisymm {x y : Nat} (h : Sub x y) (k : Sub y x) : x = y := by
  apply Nat.eq_of_testBit_eq
  intro c
  cases hx : x.testBit c
  · cases hy : y.testBit c
    · rfl
    · rw [k c hy] at hx; cases hx
  · exact (h c hx).symm
theorem and_sub_left (x y : Nat) : Sub (x &&& y) x := (sub_and.1 (Sub.refl _)).1
theorem and_sub_right (x y : Nat) : Sub (x &&& y) y := (sub_and.1 (Sub.refl _)).2
theorem Sub.and_eq {x y : Nat} (h : Sub x y) : x &&& y = x := (and_sub_left x y).antisymm (sub_and.2 ⟨Sub.refl x, h⟩)
theorem Sub.zero {x : Nat} (h : Sub x 0) : x = 0 := h.antisymm (fun c hc => by simp at hc)
theorem Sub.lt {x y : Nat} (h : Sub x y) (hy : y < 8192) : x < 8192 := by
  rw [← h.and_eq]
  exact Nat.lt_of_le_of_lt Nat.and_le_right hy
theorem Sub.le {x y : Nat} (h : Sub x y) : x ≤ y := by rw [← h.and_eq]; exact Nat.and_le_right
theorem and_lt_of_ne {x y : Nat} (h : x &&& y ≠ x) : x &&& y < x := Nat.lt_of_le_of_ne Nat.and_le_left h
theorem cmp_mono {a a' b b' : Nat} (ha : Sub a a') (hb : Sub b b') : Sub (cmp a b) (cmp a' b') := by
  intro c hc
  obtain ⟨p, q, h1, h2, h3, h4, h5⟩ := (cmp_bit a b c).1 hc
  exact (cmp_bit a' b' c).2 ⟨p, q, h1, h2, ha p h3, hb q h4, h5⟩
theorem invN_big (m c : Nat) (hc : 12 < c) : (invN m).testBit c = false := by
  cases h : (invN m).testBit c
  · rfl
  · have := bit13 (invN_lt m) h
    omega
theorem inv_mono {a b : Nat} (h : Sub a b) : Sub (invN a) (invN b) := by
  intro c hc
  have hl := bit13 (invN_lt a) hc
  rw [invN_bit _ _ (by omega)] at hc ⊢
  exact h _ hc
theorem inv_and (a b : Nat) : invN (a &&& b) = invN a &&& invN b := by
  apply Nat.eq_of_testBit_eq
  intro c
  rw [Nat.testBit_and]
  rcases Nat.lt_or_ge 12 c with h | h
  · rw [invN_big _ _ h, invN_big _ _ h]; rfl
  · rw [invN_bit _ _ h, invN_bit _ _ h, invN_bit _ _ h, Nat.testBit_and]
theorem inv_pow (r : Nat) (h : r < 13) : invN (2 ^ r) = 2 ^ (12 - r) := by
  apply Nat.eq_of_testBit_eq
  intro c
  rcases Nat.lt_or_ge 12 c with hc | hc
  · rw [invN_big _ _ hc, Nat.testBit_two_pow_of_ne (by omega)]
  · rw [invN_bit _ _ hc]
    by_cases e : c = 12 - r
    · rw [e, show 12 - (12 - r) = r by omega, Nat.testBit_two_pow_self, Nat.testBit_two_pow_self]
    · rw [Nat.testBit_two_pow_of_ne (by omega), Nat.testBit_two_pow_of_ne (by omega)]
theorem inv_zero : invN 0 = 0 := by
  apply Nat.eq_of_testBit_eq
  intro c
  rcases Nat.lt_or_ge 12 c with hc | hc
  · rw [invN_big _ _ hc]; simp
  · rw [invN_bit _ _ hc]; simp
theorem pow13_lt (r : Nat) (h : r < 13) : 2 ^ r < 8192 := Nat.pow_lt_pow_right (by omega) (show r < 13 from h)

/-! ### closures -/
def LeM (n : Nat) (N M : Mt) : Prop := ∀ i j, i < n → j < n → Sub (N i j) (M i j)
def ClM (n : Nat) (N : Mt) : Prop := ∀ i j k, i < n → j < n → k < n → Sub (N i j) (cmp (N i k) (N k j))
def BdM (n : Nat) (M : Mt) : Prop := ∀ i j, i < n → j < n → M i j < 8192
def NzM (n : Nat) (M : Mt) : Prop := ∀ i j, i < n → j < n → M i j ≠ 0
theorem LeM.refl (n : Nat) (M : Mt) : LeM n M M := fun _ _ _ _ => Sub.refl _
theorem LeM.trans {n : Nat} {A B C : Mt} (h : LeM n A B) (k : LeM n B C) : LeM n A C := fun i j hi hj => (h i j hi hj).trans (k i j hi hj)
/-- X lies below M, and above each closed matrix below M. -/
def GI (n : Nat) (M X : Mt) : Prop := LeM n X M ∧ ∀ N, ClM n N → LeM n N M → LeM n N X
theorem GI.refl (n : Nat) (M : Mt) : GI n M M := ⟨LeM.refl n M, fun _ _ h => h⟩
def stepX (X : Mt) (i j k : Nat) : Nat := X i j &&& cmp (X i k) (X k j)
theorem GI.step {n : Nat} {M X : Mt} (h : GI n M X) {i j k : Nat} (hi : i < n) (hj : j < n) (hk : k < n) : GI n M (setM X i j (stepX X i j k)) := by
  refine ⟨fun a b ha hb => ?_, fun N hN hNM a b ha hb => ?_⟩
  · by_cases e : a = i ∧ b = j
    · obtain ⟨rfl, rfl⟩ := e
      rw [setM_same]
      exact (and_sub_left _ _).trans (h.1 _ _ ha hb)
    · rw [setM_other _ _ _ _ _ _ e]; exact h.1 _ _ ha hb
  · have hx := h.2 N hN hNM
    by_cases e : a = i ∧ b = j
    · obtain ⟨rfl, rfl⟩ := e
      rw [setM_same]
      exact sub_and.2 ⟨hx _ _ ha hb, (hN _ _ k ha hb hk).trans (cmp_mono (hx _ _ ha hk) (hx _ _ hk hb))⟩
    · rw [setM_other _ _ _ _ _ _ e]; exact hx _ _ ha hb
theorem GI.none {n : Nat} {M X : Mt} (h : GI n M X) {i j k : Nat} (hi : i < n) (hj : j < n) (hk : k < n) (h0 : stepX X i j k = 0) : ∀ N, ClM n N → LeM n N M → ¬ NzM n N := by
  intro N hN hNM hz
  have := (h.step hi hj hk).2 N hN hNM i j hi hj
  rw [setM_same, h0] at this
  exact hz i j hi hj this.zero
theorem GI.bd {n : Nat} {M X : Mt} (h : GI n M X) (hM : BdM n M) : BdM n X := fun i j hi hj => (h.1 i j hi hj).lt (hM i j hi hj)
/-- What a closing returns: the closure, or that there is none without an empty set. -/
def ClR (n : Nat) (M X : Mt) (ok : Bool) : Prop := if ok = true then GI n M X ∧ ClM n X ∧ NzM n X else ∀ N, ClM n N → LeM n N M → ¬ NzM n N
theorem ClR.eq {n : Nat} {M X Y : Mt} {a b : Bool} (h : ClR n M X a) (k : ClR n M Y b) : a = b ∧ (a = true → ∀ i j, i < n → j < n → X i j = Y i j) := by
  unfold ClR at h k
  cases a <;> cases b <;> simp only [if_true, if_false, Bool.false_eq_true] at h k
  · exact ⟨rfl, fun h => by cases h⟩
  · exact (h Y k.2.1 k.1.1 k.2.2).elim
  · exact (k X h.2.1 h.1.1 h.2.2).elim
  · exact ⟨rfl, fun _ i j hi hj => (k.1.2 X h.2.1 h.1.1 i j hi hj).antisymm (h.1.2 Y k.2.1 k.1.1 i j hi hj)⟩

/-! ### the sum of a matrix: the measure -/
def sumR (f : Nat → Nat) : Nat → Nat
  | 0 => 0
  | n + 1 => sumR f n + f n
theorem sumR_congr {f g : Nat → Nat} : ∀ {n : Nat}, (∀ i, i < n → f i = g i) → sumR f n = sumR g n
  | 0, _ => rfl
  | n + 1, h => by rw [sumR, sumR, sumR_congr (n := n) (fun i hi => h i (by omega)), h n (by omega)]
theorem sumR_le {f g : Nat → Nat} : ∀ {n : Nat}, (∀ i, i < n → f i ≤ g i) → sumR f n ≤ sumR g n
  | 0, _ => Nat.le_refl _
  | n + 1, h => by rw [sumR, sumR]; exact Nat.add_le_add (sumR_le (n := n) (fun i hi => h i (by omega))) (h n (by omega))
theorem sumR_lt {f g : Nat → Nat} : ∀ {n : Nat} (k : Nat), k < n → (∀ i, i < n → f i ≤ g i) → f k < g k → sumR f n < sumR g n
  | 0, k, hk, _, _ => by omega
  | n + 1, k, hk, h, hlt => by
    rw [sumR, sumR]
    by_cases e : k = n
    · subst e
      have := sumR_le (n := k) (f := f) (g := g) (fun i hi => h i (by omega))
      omega
    · have := sumR_lt (n := n) k (by omega) (fun i hi => h i (by omega)) hlt
      have := h n (by omega)
      omega
def mu (n : Nat) (M : Mt) : Nat := sumR (fun i => sumR (fun j => M i j) n) n
theorem mu_le {n : Nat} {N M : Mt} (h : LeM n N M) : mu n N ≤ mu n M := sumR_le fun i hi => sumR_le fun j hj => (h i j hi hj).le
theorem mu_lt {n : Nat} {N M : Mt} (h : LeM n N M) {i j : Nat} (hi : i < n) (hj : j < n) (hne : N i j ≠ M i j) : mu n N < mu n M :=
  sumR_lt i hi (fun a ha => sumR_le fun b hb => (h a b ha hb).le) (sumR_lt j hj (fun b hb => (h i b hi hb).le) (Nat.lt_of_le_of_ne (h i j hi hj).le hne))
theorem mu_congr {n : Nat} {N M : Mt} (h : ∀ i j, i < n → j < n → N i j = M i j) : mu n N = mu n M := sumR_congr fun i hi => sumR_congr fun j hj => h i j hi hj
theorem step_le {n : Nat} (X : Mt) (i j k : Nat) : LeM n (setM X i j (stepX X i j k)) X := fun a b ha hb => by
  by_cases e : a = i ∧ b = j
  · obtain ⟨rfl, rfl⟩ := e
    rw [setM_same]; exact and_sub_left _ _
  · rw [setM_other _ _ _ _ _ _ e]; exact Sub.refl _
theorem mu_step {n : Nat} (X : Mt) {i j k : Nat} (hi : i < n) (hj : j < n) (h : stepX X i j k ≠ X i j) : mu n (setM X i j (stepX X i j k)) < mu n X :=
  mu_lt (step_le X i j k) hi hj (by rw [setM_same]; exact h)

/-! ### scenarios -/
def SyM (n : Nat) (M : Mt) : Prop := ∀ i j, i < n → j < n → M j i = invN (M i j)
def DgM (n : Nat) (M : Mt) : Prop := ∀ i, i < n → Sub (M i i) 64
/-- One relation in each place, closed, and the other way round the inverse. -/
def Sc (n : Nat) (N : Mt) : Prop := (∀ i j, i < n → j < n → ∃ r, r < 13 ∧ N i j = 2 ^ r) ∧ ClM n N ∧ SyM n N
theorem Sc.nz {n : Nat} {N : Mt} (h : Sc n N) : NzM n N := fun i j hi hj => by
  obtain ⟨r, _, e⟩ := h.1 i j hi hj
  rw [e]; exact Nat.pos_iff_ne_zero.1 (Nat.two_pow_pos r)
theorem sym_of_gi {n : Nat} {M X : Mt} (h : GI n M X) (hc : ClM n X) (hM : SyM n M) (hb : BdM n M) : SyM n X := by
  have hX := h.bd hb
  have key : LeM n (fun i j => invN (X j i)) X := by
    refine h.2 _ (fun i j k hi hj hk => ?_) (fun i j hi hj => ?_)
    · rw [← inv_cmp]
      exact inv_mono (hc j i k hj hi hk)
    · rw [hM j i hj hi]
      exact inv_mono (h.1 j i hj hi)
  intro i j hi hj
  refine Sub.antisymm ?_ ?_
  · have := inv_mono (key i j hi hj)
    rw [inv_inv _ (hX j i hj hi)] at this
    exact this
  · exact key j i hj hi
theorem dg_of_le {n : Nat} {M X : Mt} (h : LeM n X M) (hM : DgM n M) : DgM n X := fun i hi => (h i i hi hi).trans (hM i hi)
/-- A set with one relation. -/
def One (x : Nat) : Prop := ∃ r, r < 13 ∧ x = 2 ^ r
theorem one_inv {x : Nat} (h : One x) : One (invN x) := by
  obtain ⟨r, hr, rfl⟩ := h
  exact ⟨12 - r, by omega, inv_pow r hr⟩
theorem one_sub {x : Nat} (h : Sub x 64) (h0 : x ≠ 0) : One x := by
  refine ⟨6, by omega, h.antisymm fun c hc => ?_⟩
  have e : c = 6 := by
    rw [show (64 : Nat) = 2 ^ 6 from rfl] at hc
    by_cases e : c = 6
    · exact e
    · rw [Nat.testBit_two_pow_of_ne (by omega)] at hc; cases hc
  subst e
  cases hx : x.testBit 6
  · exfalso
    apply h0
    apply Nat.eq_of_testBit_eq
    intro c
    rw [Nat.zero_testBit]
    cases hc : x.testBit c
    · rfl
    · have := h c hc
      by_cases e : c = 6
      · subst e; rw [hx] at hc; cases hc
      · rw [show (64 : Nat) = 2 ^ 6 from rfl, Nat.testBit_two_pow_of_ne (by omega)] at this; cases this
  · rfl
/-- A closed matrix whose lower part has one relation in each place is a scenario. -/
theorem sc_of_low {n : Nat} {M X : Mt} (h : GI n M X) (hc : ClM n X) (hz : NzM n X) (hM : SyM n M) (hd : DgM n M) (hb : BdM n M) (hlow : ∀ i j, i < n → j < i → One (X i j)) : Sc n X ∧ LeM n X M := by
  have hs := sym_of_gi h hc hM hb
  refine ⟨⟨fun i j hi hj => ?_, hc, hs⟩, h.1⟩
  rcases Nat.lt_trichotomy i j with hij | rfl | hij
  · rw [hs j i hj hi]; exact one_inv (hlow j i hj hij)
  · exact one_sub (dg_of_le h.1 hd i hi) (hz i i hi hi)
  · exact hlow i j hi hij
theorem sc_of_up {n : Nat} {M X : Mt} (h : GI n M X) (hc : ClM n X) (hz : NzM n X) (hM : SyM n M) (hd : DgM n M) (hb : BdM n M) (hup : ∀ i j, i < n → i < j → j < n → One (X i j)) : Sc n X ∧ LeM n X M := by
  have hs := sym_of_gi h hc hM hb
  refine ⟨⟨fun i j hi hj => ?_, hc, hs⟩, h.1⟩
  rcases Nat.lt_trichotomy i j with hij | rfl | hij
  · exact hup i j hi hij hj
  · exact one_sub (dg_of_le h.1 hd i hi) (hz i i hi hi)
  · rw [hs j i hj hi]; exact one_inv (hup j i hj hij hi)
/-- One relation laid at a place, and its inverse at the other. -/
def pick (X : Mt) (i j r : Nat) : Mt := setM (setM X i j (2 ^ r)) j i (2 ^ (12 - r))
theorem pick_le {n : Nat} {X : Mt} (hs : SyM n X) {i j r : Nat} (hi : i < n) (hj : j < n) (hr : r < 13) (hb : (X i j).testBit r = true) : LeM n (pick X i j r) X := by
  intro a b ha hb2
  unfold pick
  by_cases e : a = j ∧ b = i
  · obtain ⟨rfl, rfl⟩ := e
    rw [setM_same]
    intro c hc
    by_cases e : c = 12 - r
    · subst e
      rw [hs _ _ hi hj, invN_bit _ _ (by omega), show 12 - (12 - r) = r by omega]
      exact hb
    · rw [Nat.testBit_two_pow_of_ne (by omega)] at hc; cases hc
  · rw [setM_other _ _ _ _ _ _ e]
    by_cases e2 : a = i ∧ b = j
    · obtain ⟨rfl, rfl⟩ := e2
      rw [setM_same]
      intro c hc
      by_cases e : c = r
      · subst e; exact hb
      · rw [Nat.testBit_two_pow_of_ne (by omega)] at hc; cases hc
    · rw [setM_other _ _ _ _ _ _ e2]; exact Sub.refl _
theorem pick_sym {n : Nat} {X : Mt} (hs : SyM n X) {i j r : Nat} (hne : i ≠ j) (hr : r < 13) : SyM n (pick X i j r) := by
  intro a b ha hb
  unfold pick
  by_cases e : a = j ∧ b = i
  · obtain ⟨rfl, rfl⟩ := e
    rw [setM_same, setM_other _ _ _ _ _ _ (by omega), setM_same, inv_pow _ (by omega), show 12 - (12 - r) = r by omega]
  · rw [setM_other _ _ _ _ a b e]
    by_cases e2 : a = i ∧ b = j
    · obtain ⟨rfl, rfl⟩ := e2
      rw [setM_same, setM_same, inv_pow _ hr]
    · rw [setM_other _ _ _ _ a b e2, setM_other _ _ _ _ b a (by omega), setM_other _ _ _ _ b a (by omega)]
      exact hs a b ha hb
theorem pick_mu {n : Nat} {X : Mt} (hs : SyM n X) {i j r : Nat} (hi : i < n) (hj : j < n) (hne : i ≠ j) (hr : r < 13) (hb : (X i j).testBit r = true) (h1 : ¬ One (X i j)) : mu n (pick X i j r) < mu n X := by
  refine mu_lt (pick_le hs hi hj hr hb) hi hj ?_
  unfold pick
  rw [setM_other _ _ _ _ _ _ (by omega), setM_same]
  intro e
  exact h1 ⟨r, hr, e.symm⟩
/-- A scenario below X has one of the relations of X at each place. -/
theorem sc_pick {n : Nat} {X N : Mt} (hN : Sc n N) (hX : LeM n N X) {i j : Nat} (hi : i < n) (hj : j < n) : ∃ r, r < 13 ∧ (X i j).testBit r = true ∧ LeM n N (pick X i j r) := by
  obtain ⟨r, hr, e⟩ := hN.1 i j hi hj
  refine ⟨r, hr, hX i j hi hj r (by rw [e, Nat.testBit_two_pow_self]), fun a b ha hb => ?_⟩
  unfold pick
  by_cases e1 : a = j ∧ b = i
  · obtain ⟨rfl, rfl⟩ := e1
    rw [setM_same, hN.2.2 _ _ hi hj, e, inv_pow _ hr]
    exact Sub.refl _
  · rw [setM_other _ _ _ _ _ _ e1]
    by_cases e2 : a = i ∧ b = j
    · obtain ⟨rfl, rfl⟩ := e2
      rw [setM_same, e]; exact Sub.refl _
    · rw [setM_other _ _ _ _ _ _ e2]; exact hX a b ha hb
/-- What a search for a scenario returns. -/
def SvR (n : Nat) (M X : Mt) (ok : Bool) : Prop := if ok = true then Sc n X ∧ LeM n X M else ∀ N, Sc n N → ¬ LeM n N M
/-- M can be satisfied. -/
def Sat (n : Nat) (M : Mt) : Prop := ∃ N, Sc n N ∧ LeM n N M
theorem SvR.iff {n : Nat} {M X : Mt} {ok : Bool} (h : SvR n M X ok) : ok = true ↔ Sat n M := by
  cases ok
  · constructor
    · intro h; cases h
    · rintro ⟨N, h1, h2⟩
      exact ((show ∀ N, Sc n N → ¬ LeM n N M from h) N h1 h2).elim
  · constructor
    · intro _
      exact ⟨X, (show Sc n X ∧ LeM n X M from h)⟩
    · intro _; rfl
end Go.Proofs.Ytoadihclmnjjnaa.Nw
