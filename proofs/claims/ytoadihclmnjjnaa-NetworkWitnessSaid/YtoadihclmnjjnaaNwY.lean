/-
  Networks: intervals and scenarios; the laws' awake (layer 46).
-/
import Derived.Test.YtoadihclmnjjnaaNwV
set_option linter.unusedSimpArgs false
set_option linter.unusedVariables false
set_option maxRecDepth 100000
namespace Go.Proofs.Ytoadihclmnjjnaa.Nw
open Go Go.RowKit Go.ChangeShapes Go.WideShapes Go.Proofs.Ytoadihclmnjjnaa.Sl Go.Proofs.Ytoadihclmnjjnaa.Al Go.Proofs.Ytoadihclmnjjnaa.Iv Go.Lib

/-- The number of the relation between two intervals. -/
def ofP (x y : Int × Int) : Nat := (ofZ x.1 x.2 y.1 y.2).toNat
def okP (x : Int × Int) : Prop := validB x.1 x.2 = true
theorem three_of {x y z : Int × Int} (hx : okP x) (hy : okP y) (hz : okP z) : ∃ i j m, i < 15 ∧ j < 15 ∧ m < 15 ∧ ofP x y = rl i j ∧ ofP y z = rl j m ∧ ofP x z = rl i m ∧ ofP z x = rl m i := by
  obtain ⟨i, j, m, h1, h2, h3, e1, e2, e3, e4⟩ := three x.1 x.2 y.1 y.2 z.1 z.2 hx hy hz
  unfold ofP
  exact ⟨i, j, m, h1, h2, h3, by rw [e1]; rfl, by rw [e2]; rfl, by rw [e3]; rfl, by rw [e4]; rfl⟩
theorem ofP_lt {x y : Int × Int} (hx : okP x) (hy : okP y) : ofP x y < 13 := by
  obtain ⟨i, j, m, h1, h2, h3, e1, e2, e3, e4⟩ := three_of hx hy hy
  rw [e1]
  have := rl_lt i j h1 h2
  omega
theorem ofP_inv {x y : Int × Int} (hx : okP x) (hy : okP y) : ofP y x = 12 - ofP x y := by
  obtain ⟨i, j, m, h1, h2, h3, e1, e2, e3, e4⟩ := three_of hx hy hy
  rw [e3, e4]
  exact rl_inv i h1 m h3
theorem ofP_comp {x y z : Int × Int} (hx : okP x) (hy : okP y) (hz : okP z) : (cmp (2 ^ ofP x y) (2 ^ ofP y z)).testBit (ofP x z) = true := by
  obtain ⟨i, j, m, h1, h2, h3, e1, e2, e3, e4⟩ := three_of hx hy hz
  rw [e1, e2, e3]
  have l1 := rl_lt i j h1 h2
  have l2 := rl_lt j m h2 h3
  exact (cmp_bit _ _ _).2 ⟨rl i j, rl j m, by omega, by omega, Nat.testBit_two_pow_self, Nat.testBit_two_pow_self, bas_bit i j m h1 h2 h3⟩
/-- The relations of intervals. -/
def spM (a : Nat → Int × Int) : Mt := fun i j => 2 ^ ofP (a i) (a j)
theorem sub_pow {r x : Nat} : Sub (2 ^ r) x ↔ x.testBit r = true := by
  constructor
  · intro h; exact h r Nat.testBit_two_pow_self
  · intro h c hc
    have : c = r := by
      by_cases e : c = r
      · exact e
      · rw [Nat.testBit_two_pow_of_ne (Ne.symm e)] at hc; cases hc
    rw [this]; exact h
theorem sc_spans {n : Nat} {a : Nat → Int × Int} (ha : ∀ i, i < n → okP (a i)) : Sc n (spM a) := by
  refine ⟨fun i j hi hj => ⟨_, ofP_lt (ha i hi) (ha j hj), rfl⟩, fun i j k hi hj hk => sub_pow.2 (ofP_comp (ha i hi) (ha k hk) (ha j hj)), fun i j hi hj => ?_⟩
  unfold spM
  rw [inv_pow _ (ofP_lt (ha i hi) (ha j hj)), ofP_inv (ha i hi) (ha j hj)]
/-- Intervals that satisfy a network. -/
theorem sat_spans {n : Nat} {l : List Rl} {a : Nat → Int × Int} (ha : ∀ i, i < n → okP (a i)) (h : ∀ r ∈ l, r.s.toNat.testBit (ofP (a r.i.toNat) (a r.j.toNat)) = true) : SatL n l :=
  ⟨spM a, sc_spans ha, fun r hr => sub_pow.2 (h r hr)⟩

/-! ### the chapter's example -/
def r01 : Rl := ⟨0, 1, 1⟩
def r12 : Rl := ⟨1, 2, 1⟩
def r20 : Rl := ⟨2, 0, 1⟩
theorem cmp_11 : cmp 1 1 = 1 := by
  apply Nat.eq_of_testBit_eq
  intro c
  have h0 : bt 0 0 = 1 := by kernel_rfl
  have hone : ∀ p < 13, (1 : Nat).testBit p = true → p = 0 := of_decide_eq_true (by kernel_rfl)
  cases hc : (cmp 1 1).testBit c
  · cases h1 : (1 : Nat).testBit c
    · rfl
    · have : c = 0 := hone c (bit13 (by decide) h1) h1
      subst this
      have h5 := (cmp_bt 1 1 0).2 ⟨0, 0, by omega, by omega, by decide, by decide, by rw [h0]; decide⟩
      rw [h5] at hc
      cases hc
  · obtain ⟨p, q, hp, hq, h1, h2, h3⟩ := (cmp_bt 1 1 c).1 hc
    rw [hone p hp h1, hone q hq h2, h0] at h3
    exact h3.symm
def ln (x : Nat) : Int × Int := if x = 0 then (0, 1) else if x = 1 then (2, 3) else (4, 5)
theorem ln_ok (f : Nat → Nat) : ∀ i, okP (ln (f i)) := fun i => by
  unfold ln okP
  split
  · decide
  · split <;> decide
theorem ln_lt {x y : Nat} (h : x < y) (hy : y ≤ 2) : ofP (ln x) (ln y) = 0 := by
  have hall : ∀ y ≤ 2, ∀ x < y, ofP (ln x) (ln y) = 0 := by decide
  exact hall y hy x h
theorem aw_close {X : Mt} {ok : Bool} (h : ClR 3 (matN [r01, r12]) X ok) : ok = true ∧ X 0 2 = 1 := by
  have hok : ∀ r ∈ [r01, r12], OkR 3 r := by
    intro r hr
    simp at hr
    rcases hr with rfl | rfl
    · exact ⟨0, 1, 1, rfl, by omega, by omega, by omega⟩
    · exact ⟨1, 2, 1, rfl, by omega, by omega, by omega⟩
  have hsc : Sc 3 (spM ln) := sc_spans fun i _ => ln_ok id i
  have hle : LeM 3 (spM ln) (matN [r01, r12]) := (le_mat hsc _ mat0 hok).2 ⟨hsc.mat0, fun r hr => by
    simp at hr
    rcases hr with rfl | rfl
    · exact sub_pow.2 (by show (1 : Nat).testBit (ofP (ln 0) (ln 1)) = true; rw [ln_lt (by omega) (by omega)]; rfl)
    · exact sub_pow.2 (by show (1 : Nat).testBit (ofP (ln 1) (ln 2)) = true; rw [ln_lt (by omega) (by omega)]; rfl)⟩
  cases ok
  · exact ((show ∀ N, ClM 3 N → LeM 3 N _ → ¬ NzM 3 N from h) _ hsc.2.1 hle hsc.nz).elim
  · obtain ⟨h1, h2, h3⟩ := (show GI 3 (matN [r01, r12]) X ∧ ClM 3 X ∧ NzM 3 X from h)
    refine ⟨rfl, ?_⟩
    have e1 : Sub (X 0 1) 1 := (h1.1 0 1 (by omega) (by omega)).trans (((by
      have := stepB_sub (stepM mat0 r01) 1 2 1 0 1
      refine (stepM_sub (stepM mat0 r01) r12 0 1).trans ?_
      rw [show r01 = ⟨(0 : Nat), (1 : Nat), (1 : Nat)⟩ from rfl, stepM_ok, if_neg (by omega)]
      unfold stepB stepA setM Nw.mat0
      simp
      first | exact and_sub_right _ _ | exact Sub.refl _) : Sub (matN [r01, r12] 0 1) 1))
    have e2 : Sub (X 1 2) 1 := (h1.1 1 2 (by omega) (by omega)).trans (((by
      show Sub (stepM (stepM mat0 r01) r12 1 2) 1
      rw [show r12 = ⟨(1 : Nat), (2 : Nat), (1 : Nat)⟩ from rfl, stepM_ok, if_neg (by omega)]
      unfold stepB stepA setM
      simp
      first | exact and_sub_right _ _ | exact Sub.refl _) : Sub (matN [r01, r12] 1 2) 1))
    have e3 := (h2 0 2 1 (by omega) (by omega) (by omega)).trans (cmp_mono e1 e2)
    rw [cmp_11] at e3
    have e4 := h3 0 2 (by omega) (by omega)
    have := e3.le
    omega
theorem aw_no : ¬ SatL 3 [r01, r12, r20] := by
  rintro ⟨N, h1, h2⟩
  have e1 : Sub (N 0 1) 1 := h2 r01 (by simp)
  have e2 : Sub (N 1 2) 1 := h2 r12 (by simp)
  have e3 : Sub (N 2 0) 1 := h2 r20 (by simp)
  have e4 := (h1.2.1 0 2 1 (by omega) (by omega) (by omega)).trans (cmp_mono e1 e2)
  rw [cmp_11] at e4
  have e5 := h1.2.2 0 2 (by omega) (by omega)
  have e6 := h1.nz 0 2 (by omega) (by omega)
  have e7 : N 0 2 = 2 ^ 0 := by have := e4.le; rw [Nat.pow_zero]; omega
  rw [e7, inv_pow 0 (by omega)] at e5
  rw [e5] at e3
  have := e3.le
  omega
theorem aw_sub {f : Nat → Nat} {l : List Rl} (hf : ∀ i, f i ≤ 2) (h : ∀ r ∈ l, r.s = 1 ∧ f r.i.toNat < f r.j.toNat) : SatL 3 l :=
  sat_spans (a := fun i => ln (f i)) (fun i _ => ln_ok f i) (fun r hr => by
    obtain ⟨h1, h2⟩ := h r hr
    rw [h1, ln_lt h2 (hf _)]; rfl)
theorem aw_min {K : List Nat} (h : MnI 3 [r01, r12, r20] 3 K) : K = [0, 1, 2] := by
  have hlt : ∀ x ∈ K, x < 3 := h.lt
  have key : ∀ (x : Nat) (f : Nat → Nat), (∀ i, f i ≤ 2) → (∀ y, y < 3 → y ≠ x → ([r01, r12, r20].getD y default).s = 1 ∧ f ([r01, r12, r20].getD y default).i.toNat < f ([r01, r12, r20].getD y default).j.toNat) → x ∈ K := by
    intro x f hf hx
    rcases Classical.em (x ∈ K) with hm | hm
    · exact hm
    · refine (h.no (aw_sub hf fun r hr => ?_)).elim
      obtain ⟨y, hy, rfl⟩ := List.mem_map.1 hr
      exact hx y (hlt y hy) (fun e => hm (e ▸ hy))
  have h0 : 0 ∈ K := key 0 (fun i => if i = 1 then 0 else if i = 2 then 1 else 2) (by intro i; split <;> (try split) <;> omega) (by decide)
  have h1 : 1 ∈ K := key 1 (fun i => if i = 2 then 0 else if i = 0 then 1 else 2) (by intro i; split <;> (try split) <;> omega) (by decide)
  have h2 : 2 ∈ K := key 2 (fun i => i.min 2) (by intro i; exact Nat.min_le_right _ _) (by decide)
  have hinc := h.inc
  have hlen : K.length ≤ 3 := h.len
  match K, hinc, hlt, h0, h1, h2, hlen with
  | [], _, _, h0, _, _, _ => simp at h0
  | [a], _, _, h0, h1, _, _ => simp at h0 h1; omega
  | [a, b], _, _, h0, h1, h2, _ => simp at h0 h1 h2; omega
  | [a, b, c], hi, hl, h0, h1, h2, _ =>
    simp at hi hl h0 h1 h2
    obtain ⟨⟨i1, i2⟩, i3⟩ := hi
    have : a = 0 ∧ b = 1 ∧ c = 2 := by omega
    simp [this]
  | a :: b :: c :: d :: t, _, _, _, _, _, hl => simp at hl
end Go.Proofs.Ytoadihclmnjjnaa.Nw
