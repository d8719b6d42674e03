/-
  Networks: intervals that satisfy a network are a scenario (plain; layer 46).
-/
import Derived.Test.YtoadihclmnjjnaaNxO
import Derived.Test.YtoadihclmnjjnaaNxJ
set_option linter.unusedSimpArgs false
set_option linter.unusedVariables false
namespace Go.Proofs.Ytoadihclmnjjnaa.Nw
open Go Go.RowKit Go.Proofs.Ytoadihclmnjjnaa.Al
open Go.Proofs.Ytoadihclmnjjnaa.Iv (validB ofZ valid_bd rofZ rofZ_eq)

theorem flipZ {a0 a1 b0 b1 : Int} (h1 : validB a0 a1 = true) (h2 : validB b0 b1 = true) : ofZ b0 b1 a0 a1 = 12 - ofZ a0 a1 b0 b1 := by
  have v1 := valid_bd h1
  have v2 := valid_bd h2
  rw [← rofZ_eq h1 h2, ← rofZ_eq h2 h1]; unfold rofZ; clear h1 h2; (repeat' split) <;> omega
/-- The relation between two of the intervals. -/
def ofN (a : List (Int × Int)) (i j : Nat) : Nat := (ofZ (a.getD i (0, 0)).1 (a.getD i (0, 0)).2 (a.getD j (0, 0)).1 (a.getD j (0, 0)).2).toNat
def relM (a : List (Int × Int)) : Mt := fun i j => 2 ^ ofN a i j
def AllV (a : List (Int × Int)) : Prop := ∀ i, i < a.length → validB (a.getD i (0, 0)).1 (a.getD i (0, 0)).2 = true
theorem allV_of {a : List (Int × Int)} (h : a.any badP = false) : AllV a := fun i hi => by
  have := valid_of h (List.getElem?_eq_getElem hi)
  rw [List.getD_eq_getElem?_getD, List.getElem?_eq_getElem hi]
  exact this
theorem two_bit {r c : Nat} (h : (2 ^ r : Nat).testBit c = true) : c = r := by
  by_cases e : c = r
  · exact e
  · rw [Nat.testBit_two_pow_of_ne (Ne.symm e)] at h; cases h
theorem ofN_lt {a : List (Int × Int)} (h : AllV a) {i j : Nat} (hi : i < a.length) (hj : j < a.length) : ofN a i j < 13 := by
  have := ofZ_bd _ _ _ _ (h i hi) (h j hj)
  unfold ofN
  omega
theorem sc_rel {a : List (Int × Int)} (h : AllV a) : Sc a.length (relM a) := by
  refine ⟨fun i j hi hj => ⟨_, ofN_lt h hi hj, rfl⟩, fun i j k hi hj hk => ?_, fun i j hi hj => ?_⟩
  · obtain ⟨p, q, m, hp, hq, hm, e1, e2, e3, _⟩ := three _ _ _ _ _ _ (h i hi) (h k hk) (h j hj)
    have f1 : ofN a i k = rl p q := by unfold ofN; rw [e1, Int.toNat_natCast]
    have f2 : ofN a k j = rl q m := by unfold ofN; rw [e2, Int.toNat_natCast]
    have f3 : ofN a i j = rl p m := by unfold ofN; rw [e3, Int.toNat_natCast]
    show Sub (2 ^ ofN a i j) (cmp (2 ^ ofN a i k) (2 ^ ofN a k j))
    rw [f1, f2, f3, cmp_pow _ _ (rl_lt p q hp hq) (rl_lt q m hq hm)]
    intro c hc
    rw [two_bit hc]
    exact bas_bit p q m hp hq hm
  · show 2 ^ ofN a j i = invN (2 ^ ofN a i j)
    rw [inv_pow _ (ofN_lt h hi hj)]
    have e := flipZ (h i hi) (h j hj)
    have b := ofZ_bd _ _ _ _ (h i hi) (h j hj)
    have : ofN a j i = 12 - ofN a i j := by unfold ofN; rw [e]; omega
    rw [this]
theorem holds_parts {l : List Rl} {a : List (Int × Int)} (h : holdsN l a = true) : a.any badP = false ∧ l.any (badH a) = false := by
  unfold holdsN at h
  simpa using h
theorem badH_parts {a : List (Int × Int)} {r : Rl} (h : badH a r = false) : 0 ≤ r.i ∧ r.i < (a.length : Int) ∧ 0 ≤ r.j ∧ r.j < (a.length : Int) ∧ isSetB r.s = true ∧ r.s.toNat.testBit (ofN a r.i.toNat r.j.toNat) = true := by
  unfold badH holdsB at h
  simp only [Bool.or_eq_false_iff, decide_eq_false_iff_not, Bool.not_eq_false', Bool.and_eq_true] at h
  obtain ⟨⟨⟨⟨h1, h2⟩, h3⟩, h4⟩, ⟨⟨h5, _⟩, _⟩, h6⟩ := h
  exact ⟨by omega, by omega, by omega, by omega, h5, h6⟩
theorem sat_rel {l : List Rl} {a : List (Int × Int)} (h : l.any (badH a) = false) : ∀ r ∈ l, SatR (relM a) r := fun r hr => by
  obtain ⟨_, _, _, _, _, h6⟩ := badH_parts (by simpa using (List.any_eq_false.1 h) r hr)
  intro c hc
  rw [two_bit hc]
  exact h6
theorem vld_rel {l : List Rl} {a : List (Int × Int)} (h : l.any (badH a) = false) (h0 : 0 < a.length) (h8 : a.length ≤ 8) (hl : l.length ≤ 200) : vldN (a.length : Int) l = true := by
  unfold vldN
  have : l.any (badR (a.length : Int)) = false := List.any_eq_false.2 fun r hr => by
    obtain ⟨h1, h2, h3, h4, h5, _⟩ := badH_parts (by simpa using (List.any_eq_false.1 h) r hr)
    unfold badR
    rw [h5, decide_eq_false (by omega), decide_eq_false (by omega), decide_eq_false (by omega), decide_eq_false (by omega)]
    simp
  rw [this, decide_eq_true (by omega), decide_eq_true (by omega), decide_eq_true hl]
  rfl
theorem bits_andN {a b : Nat} (h : Sub a b) : bits .andNot .i64 (a : Int) (b : Int) = 0 := by
  have h2 : BitVec.ofInt 64 (a : Int) &&& ~~~ BitVec.ofInt 64 (b : Int) = 0#64 := by
    apply BitVec.eq_of_getLsbD_eq
    intro i hi
    rw [BitVec.getLsbD_and, BitVec.getLsbD_not, BitVec.ofInt_natCast, BitVec.ofInt_natCast, BitVec.getLsbD_ofNat, BitVec.getLsbD_ofNat]
    cases ht : a.testBit i
    · simp
    · rw [h i ht]; simp
  show IntKind.i64.wrap ((BitVec.ofInt 64 (a : Int) &&& ~~~ BitVec.ofInt 64 (b : Int)).toNat : Int) = _
  rw [h2]
  rfl
/-- What Implied names lies in the closure. -/
theorem imp_in_closure {n : Nat} {l : List Rl} {X : Mt} {i j out : Nat} (hok : ∀ r ∈ l, OkR n r) (hi : i < n) (hj : j < n) (hC : ClR n (matN l) X true) (hI : ImO n l i j 13 out) : Sub out (X i j) := by
  obtain ⟨hG, _, _⟩ := (show GI n (matN l) X ∧ ClM n X ∧ NzM n X from hC)
  intro c hc
  obtain ⟨_, N, h1, h2⟩ := (hI c).1 hc
  have hle : LeM n N (matN l) := (le_mat h1 l mat0 hok).2 ⟨h1.mat0, fun r hr => h2 r (List.mem_append_left _ hr)⟩
  have h3 : Sub (N (i : Int).toNat (j : Int).toNat) ((2 ^ c : Nat) : Int).toNat := h2 _ (List.mem_append_right _ (List.mem_singleton.2 rfl))
  rw [Int.toNat_natCast, Int.toNat_natCast, Int.toNat_natCast] at h3
  obtain ⟨r, hr, e⟩ := h1.1 i j hi hj
  rw [e] at h3
  have e2 := two_bit (h3 r Nat.testBit_two_pow_self)
  subst e2
  exact hG.2 N h1.2.1 hle i j hi hj r (by rw [e]; exact Nat.testBit_two_pow_self)
theorem and_bit {x c : Nat} (h : x.testBit c = true) : x &&& 2 ^ c ≠ 0 := fun e => by
  have : (x &&& 2 ^ c).testBit c = true := by rw [Nat.testBit_and, h, Nat.testBit_two_pow_self]; rfl
  rw [e, Nat.zero_testBit] at this
  cases this
/-- What the law asks of the closure and of what is implied. -/
theorem hold_all {l : List Rl} {a : List (Int × Int)} (h : holdsN l a = true) {X : Mt} {ok : Bool} (hC : ClR a.length (matN l) X ok) (hok : ∀ r ∈ l, OkR a.length r) :
    ok = true ∧ ∀ i j out, i < a.length → j < a.length → ImO a.length l i j 13 out → out ≠ 0 ∧ X i j &&& 2 ^ ofN a i j ≠ 0 ∧ out &&& 2 ^ ofN a i j ≠ 0 ∧ Sub out (X i j) := by
  obtain ⟨h1, h2⟩ := holds_parts h
  have hv := allV_of h1
  have hs := sc_rel hv
  have hle : LeM a.length (relM a) (matN l) := (le_mat hs l mat0 hok).2 ⟨hs.mat0, sat_rel h2⟩
  cases ok
  · exact ((show ∀ N, ClM a.length N → LeM a.length N (matN l) → ¬ NzM a.length N from hC) _ hs.2.1 hle hs.nz).elim
  · refine ⟨rfl, fun i j out hi hj hI => ?_⟩
    obtain ⟨hG, _, _⟩ := (show GI a.length (matN l) X ∧ ClM a.length X ∧ NzM a.length X from hC)
    have hb : out.testBit (ofN a i j) = true := (hI _).2 ⟨ofN_lt hv hi hj, relM a, hs, fun r hr => by
      rcases List.mem_append.1 hr with hr | hr
      · exact sat_rel h2 r hr
      · obtain rfl := List.mem_singleton.1 hr
        show Sub (relM a (i : Int).toNat (j : Int).toNat) ((2 ^ ofN a i j : Nat) : Int).toNat
        rw [Int.toNat_natCast, Int.toNat_natCast, Int.toNat_natCast]
        exact Sub.refl _⟩
    refine ⟨fun e => ?_, and_bit (hG.2 _ hs.2.1 hle i j hi hj _ Nat.testBit_two_pow_self), and_bit hb, imp_in_closure hok hi hj hC hI⟩
    rw [e, Nat.zero_testBit] at hb
    cases hb
end Go.Proofs.Ytoadihclmnjjnaa.Nw
