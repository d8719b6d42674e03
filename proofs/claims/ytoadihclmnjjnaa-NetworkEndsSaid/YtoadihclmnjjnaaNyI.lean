/-
  Networks: ends instead of intervals, plain (layer 46).
-/
import Derived.Test.YtoadihclmnjjnaaNyH
import Derived.Test.YtoadihclmnjjnaaNxN
set_option linter.unusedSimpArgs false
set_option linter.unusedVariables false
set_option maxRecDepth 100000
namespace Go.Proofs.Ytoadihclmnjjnaa.Nw
open Go Go.RowKit Go.Proofs.Ytoadihclmnjjnaa.Sl Go.Proofs.Ytoadihclmnjjnaa.Al Go.Lib
open Go.Proofs.Ytoadihclmnjjnaa.Iv (validB lineB ofZ sgn tab)

def bndOk (a : List (Int × Int)) (r : Rl) : Bool := decide (endN a r.j.toNat - endN a r.i.toNat ≤ r.s)
def chcOk (a : List (Int × Int)) (c : Int × Int) : Bool := [(-4398046511104, 0), (1, 4398046511104)].any (hasP (endN a c.2.toNat - endN a c.1.toNat))
/-- The relation of two intervals, by the signs of their ends. -/
def ofS (d1 d2 d3 d4 : Int) : Int := if -d3 ≤ 0 then -d3 + 1 else if 0 ≤ -d2 then 11 - d2 else tab (-d1) (-d4)
def sg3 : List Int := [-1, 0, 1]
theorem ofS_tab : (sg3.all fun d1 => sg3.all fun d2 => sg3.all fun d3 => sg3.all fun d4 => !((decide (0 < d1) || decide (d3 = -1)) && (decide (0 < d4) || decide (d3 = -1)) && (decide (d1 < 0) || decide (d2 = 1)) && (decide (d4 < 0) || decide (d2 = 1))) ||
    (decide (0 ≤ ofS d1 d2 d3 d4) && decide (ofS d1 d2 d3 d4 ≤ 12) && decide (sgT (ofS d1 d2 d3 d4).toNat 0 = d1) && decide (sgT (ofS d1 d2 d3 d4).toNat 1 = d2) && decide (sgT (ofS d1 d2 d3 d4).toNat 2 = d3) && decide (sgT (ofS d1 d2 d3 d4).toNat 3 = d4))) = true := by kernel_rfl
theorem sgn_flip (a b : Int) : sgn a b = -sgn b a := by unfold sgn; repeat' split <;> omega
theorem sgn_spec (a b : Int) : (sgn a b = -1 ∧ a < b) ∨ (sgn a b = 0 ∧ a = b) ∨ (sgn a b = 1 ∧ b < a) := by
  unfold sgn
  split
  · omega
  · split <;> omega
theorem sgn_mem (a b : Int) : sgn a b ∈ sg3 := by
  rcases sgn_spec a b with ⟨e, _⟩ | ⟨e, _⟩ | ⟨e, _⟩ <;> rw [e] <;> decide
theorem sgn_ends {a0 a1 b0 b1 : Int} (h1 : validB a0 a1 = true) (h2 : validB b0 b1 = true) (ha : a0 < a1) (hb : b0 < b1) :
    ofZ a0 a1 b0 b1 = ofS (sgn b0 a0) (sgn b1 a0) (sgn b0 a1) (sgn b1 a1) := by
  unfold ofZ ofS
  rw [if_neg (by simp [h1, h2]), sgn_flip a1 b0, sgn_flip a0 b1, sgn_flip a0 b0, sgn_flip a1 b1]
  rfl
theorem sgT_ends {a0 a1 b0 b1 : Int} (h1 : validB a0 a1 = true) (h2 : validB b0 b1 = true) (ha : a0 < a1) (hb : b0 < b1) :
    0 ≤ ofZ a0 a1 b0 b1 ∧ ofZ a0 a1 b0 b1 ≤ 12 ∧ sgT (ofZ a0 a1 b0 b1).toNat 0 = sgn b0 a0 ∧ sgT (ofZ a0 a1 b0 b1).toNat 1 = sgn b1 a0 ∧ sgT (ofZ a0 a1 b0 b1).toNat 2 = sgn b0 a1 ∧ sgT (ofZ a0 a1 b0 b1).toNat 3 = sgn b1 a1 := by
  rw [sgn_ends h1 h2 ha hb]
  have h := ofS_tab
  have h := (List.all_eq_true.1 h) _ (sgn_mem b0 a0)
  have h := (List.all_eq_true.1 h) _ (sgn_mem b1 a0)
  have h := (List.all_eq_true.1 h) _ (sgn_mem b0 a1)
  have h := (List.all_eq_true.1 h) _ (sgn_mem b1 a1)
  have s1 := sgn_spec b0 a0
  have s2 := sgn_spec b1 a0
  have s3 := sgn_spec b0 a1
  have s4 := sgn_spec b1 a1
  have c1 : 0 < sgn b0 a0 ∨ sgn b0 a1 = -1 := by omega
  have c2 : 0 < sgn b1 a1 ∨ sgn b0 a1 = -1 := by omega
  have c3 : sgn b0 a0 < 0 ∨ sgn b1 a0 = 1 := by omega
  have c4 : sgn b1 a1 < 0 ∨ sgn b1 a0 = 1 := by omega
  simp only [Bool.or_eq_true, Bool.and_eq_true, Bool.not_eq_true', decide_eq_true_eq] at h
  rcases h with h | h
  · exfalso
    have : ((decide (0 < sgn b0 a0) || decide (sgn b0 a1 = -1)) && (decide (0 < sgn b1 a1) || decide (sgn b0 a1 = -1)) && (decide (sgn b0 a0 < 0) || decide (sgn b1 a0 = 1)) && (decide (sgn b1 a1 < 0) || decide (sgn b1 a0 = 1))) = true := by
      simp only [Bool.or_eq_true, Bool.and_eq_true, decide_eq_true_eq]
      exact ⟨⟨⟨c1, c2⟩, c3⟩, c4⟩
    rw [this] at h
    cases h
  · obtain ⟨⟨⟨⟨⟨h1, h2⟩, h3⟩, h4⟩, h5⟩, h6⟩ := h
    exact ⟨h1, h2, h3, h4, h5, h6⟩
/-- One pair of ends. -/
theorem pair_iff (a : List (Int × Int)) (i j d p : Nat) (hd0 : d ≠ 0) (hd : d < 8) (hp : p < 4) (h1 : -100 ≤ endN a (2 * i + p / 2)) (h2 : endN a (2 * i + p / 2) ≤ 100) (h3 : -100 ≤ endN a (2 * j + p % 2)) (h4 : endN a (2 * j + p % 2) ≤ 100) :
    ((emB i j d p).all (bndOk a) && (emC i j d p).all (chcOk a)) = d.testBit (sgn (endN a (2 * j + p % 2)) (endN a (2 * i + p / 2)) + 1).toNat := by
  have e1 : (2 * (i : Int) + ((p / 2 : Nat) : Int)).toNat = 2 * i + p / 2 := by omega
  have e2 : (2 * (j : Int) + ((p % 2 : Nat) : Int)).toNat = 2 * j + p % 2 := by omega
  unfold emB emC
  have hb : ∀ (x y : Int) (z : Int), bndOk a ⟨x, y, z⟩ = decide (endN a y.toNat - endN a x.toNat ≤ z) := fun _ _ _ => rfl
  have hc : ∀ (x y : Int), chcOk a (x, y) = [(-4398046511104, 0), (1, 4398046511104)].any (hasP (endN a y.toNat - endN a x.toNat)) := fun _ _ => rfl
  have hh : ∀ z : Int, -200 ≤ z → z ≤ 200 → [((-4398046511104 : Int), (0 : Int)), (1, 4398046511104)].any (hasP z) = decide (z ≠ 0) := fun z hz1 hz2 => by
    unfold hasP validB lineB
    rw [Bool.eq_iff_iff]
    simp
    omega
  rcases (show d = 1 ∨ d = 2 ∨ d = 3 ∨ d = 4 ∨ d = 5 ∨ d = 6 ∨ d = 7 by omega) with rfl | rfl | rfl | rfl | rfl | rfl | rfl
  all_goals
    simp only [hb, hc, e1, e2, Nat.reduceEqDiff, if_true, if_false, List.all_cons, List.all_nil, Bool.and_true, Bool.true_and]
    generalize endN a (2 * i + p / 2) = x at *
    generalize endN a (2 * j + p % 2) = y at *
    try rw [hh _ (by omega) (by omega)]
    rcases sgn_spec y x with ⟨e, h⟩ | ⟨e, h⟩ | ⟨e, h⟩
    all_goals
      rw [e]
      simp [Nat.testBit, Nat.shiftRight_eq_div_pow]
      try omega
theorem all_flat {α β γ : Type} (P : β → Bool) (Q : γ → Bool) (f : α → List β) (g : α → List γ) : ∀ l : List α, ((l.flatMap f).all P && (l.flatMap g).all Q) = l.all fun p => (f p).all P && (g p).all Q
  | [] => rfl
  | x :: l => by
    have ih := all_flat P Q f g l
    rw [List.flatMap_cons, List.flatMap_cons, List.all_append, List.all_append, List.all_cons, ← ih]
    cases (f x).all P <;> cases (g x).all Q <;> cases (l.flatMap f).all P <;> rfl
theorem dTo_pos {s : Nat} (hs : s < 8192) (h0 : s ≠ 0) {p : Nat} (hp : p < 4) : dTo (singF s) p ≠ 0 := by
  obtain ⟨k, hk⟩ : ∃ k, s.testBit k = true := Nat.exists_testBit_of_ne_zero h0
  have hk13 : k < 13 := by
    apply Nat.lt_of_not_le
    intro h
    have := Nat.testBit_lt_two_pow (Nat.lt_of_lt_of_le hs (Nat.pow_le_pow_right (n := 2) (by omega) h))
    rw [this] at hk; cases hk
  have h1 := own_inside hk13 hk
  unfold insd at h1
  have h2 := (List.all_eq_true.1 h1) p (List.mem_range.2 hp)
  intro e
  rw [e, Nat.zero_testBit] at h2
  cases h2
theorem valid_bd {x y : Int} (h1 : -100 ≤ x) (h2 : x < y) (h3 : y ≤ 100) : validB x y = true := by
  have e : ∀ z, lineB z = (decide (-4398046511104 ≤ z) && decide (z ≤ 4398046511104)) := fun _ => rfl
  unfold validB
  rw [e, e, decide_eq_true (by omega), decide_eq_true (by omega), decide_eq_true (by omega), decide_eq_true (by omega), decide_eq_true h2]
  rfl
/-- One constraint that can be expressed. -/
theorem one_iff {a : List (Int × Int)} (hb : a.any badE = false) {i j s : Nat} (hi : i < a.length) (hj : j < a.length) (hs : s < 8192) (h0 : s ≠ 0) (he : expr ⟨i, j, s⟩ = true) :
    ((rlB ⟨i, j, s⟩ 4).all (bndOk a) && (rlC ⟨i, j, s⟩ 4).all (chcOk a)) = !badH a ⟨i, j, s⟩ := by
  obtain ⟨a1, a2, a3⟩ := badE_of hb hi
  obtain ⟨b1, b2, b3⟩ := badE_of hb hj
  have hg : ∀ k : Nat, atG a (k : Int) = a.getD k (0, 0) := fun k => by unfold atG; rw [Int.toNat_natCast]
  have va : validB (a.getD i (0, 0)).1 (a.getD i (0, 0)).2 = true := valid_bd a1 a2 a3
  have vb : validB (a.getD j (0, 0)).1 (a.getD j (0, 0)).2 = true := valid_bd b1 b2 b3
  obtain ⟨r0, r1, t0, t1, t2, t3⟩ := sgT_ends va vb a2 b2
  have h2 : badH a ⟨i, j, s⟩ = !s.testBit (ofZ (a.getD i (0, 0)).1 (a.getD i (0, 0)).2 (a.getD j (0, 0)).1 (a.getD j (0, 0)).2).toNat := by
    unfold badH holdsB isSetB
    dsimp only
    rw [hg, hg, va, vb, Int.toNat_natCast]
    rw [decide_eq_false (by omega), decide_eq_false (by omega), decide_eq_false (by omega), decide_eq_false (by omega)]
    simp
    omega
  rw [h2, Bool.not_not]
  generalize hx : (ofZ (a.getD i (0, 0)).1 (a.getD i (0, 0)).2 (a.getD j (0, 0)).1 (a.getD j (0, 0)).2).toNat = x at *
  have hx13 : x < 13 := by omega
  unfold expr at he
  dsimp only at he
  rw [Int.toNat_natCast] at he
  have hbit : s.testBit x = insd (dTo (singF s)) x 4 := by
    rw [Bool.eq_iff_iff]
    exact ⟨own_inside hx13, (expr_iff hs).1 he x hx13⟩
  rw [hbit]
  unfold rlB rlC insd
  rw [all_flat]
  dsimp only
  rw [Int.toNat_natCast]
  have f0 : ∀ k : Nat, endN a (2 * k + 0) = (a.getD k (0, 0)).1 := fun k => by unfold endN; rw [if_pos (by omega), show (2 * k + 0) / 2 = k by omega]
  have f1 : ∀ k : Nat, endN a (2 * k + 1) = (a.getD k (0, 0)).2 := fun k => by unfold endN; rw [if_neg (by omega), show (2 * k + 1) / 2 = k by omega]
  rw [Bool.eq_iff_iff, List.all_eq_true, List.all_eq_true]
  refine forall_congr' fun p => forall_congr' fun hp => ?_
  replace hp := List.mem_range.1 hp
  have bd : ∀ k, k < a.length → ∀ e, e < 2 → -100 ≤ endN a (2 * k + e) ∧ endN a (2 * k + e) ≤ 100 := fun k hk e he => endN_bd hb (by omega)
  rw [pair_iff a i j _ p (dTo_pos hs h0 hp) (dTo_lt _ hp) hp (bd i hi _ (by omega)).1 (bd i hi _ (by omega)).2 (bd j hj _ (by omega)).1 (bd j hj _ (by omega)).2]
  unfold sg1
  rcases (show p = 0 ∨ p = 1 ∨ p = 2 ∨ p = 3 by omega) with rfl | rfl | rfl | rfl
  · rw [t0]; simp only [Nat.reduceMod, Nat.reduceDiv, f0, f1]
  · rw [t1]; simp only [Nat.reduceMod, Nat.reduceDiv, f0, f1]
  · rw [t2]; simp only [Nat.reduceMod, Nat.reduceDiv, f0, f1]
  · rw [t3]; simp only [Nat.reduceMod, Nat.reduceDiv, f0, f1]
theorem bnd0_all {a : List (Int × Int)} (hb : a.any badE = false) : (bnd0 a.length).all (bndOk a) = true := by
  unfold bnd0
  rw [List.all_eq_true]
  intro r hr
  obtain ⟨k, hk, rfl⟩ := List.mem_map.1 hr
  replace hk := List.mem_range.1 hk
  obtain ⟨a1, a2, a3⟩ := badE_of hb hk
  unfold bndOk endN
  dsimp only
  rw [show (2 * (k : Int)).toNat = 2 * k by omega, show (2 * (k : Int) + 1).toNat = 2 * k + 1 by omega, if_pos (by omega), if_neg (by omega), show 2 * k / 2 = k by omega, show (2 * k + 1) / 2 = k by omega]
  rw [decide_eq_true_eq]
  omega
theorem ends_law {a : List (Int × Int)} {l : List Rl} (hb : a.any badE = false) (hok : ∀ r ∈ l, OkR a.length r) (h0 : l.any (fun r => r.s == 0) = false) (h1 : (l.any fun r => !expr r) = false) :
    ((allB a.length l).all (bndOk a) && (allC l).all (chcOk a)) = holdsN l a := by
  have hv : a.any badP = false := List.any_eq_false.2 fun p hp => by
    have := (List.any_eq_false.1 hb) p hp
    unfold badE at this
    simp only [Bool.or_eq_true, decide_eq_true_eq, not_or] at this
    unfold badP
    rw [valid_bd (by omega) (by omega) (by omega)]
    simp
  unfold holdsN allB allC
  rw [hv, List.all_append, bnd0_all hb, Bool.true_and, all_flat, Bool.not_false, Bool.true_and, List.not_any_eq_all_not]
  rw [Bool.eq_iff_iff, List.all_eq_true, List.all_eq_true]
  refine forall_congr' fun r => forall_congr' fun hr => ?_
  obtain ⟨i, j, s, rfl, hi, hj, hs⟩ := hok r hr
  have z := (List.any_eq_false.1 h0) _ hr
  have e := (List.any_eq_false.1 h1) _ hr
  rw [one_iff hb hi hj hs (by simpa using z) (by simpa using e)]
end Go.Proofs.Ytoadihclmnjjnaa.Nw
