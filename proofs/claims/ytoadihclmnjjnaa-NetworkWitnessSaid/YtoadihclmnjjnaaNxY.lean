/-
  Networks: the intervals of Spans lie to each other as the scenario says (plain; layer 46).
-/
import Derived.Test.YtoadihclmnjjnaaNxW
import Derived.Test.YtoadihclmnjjnaaNxP
set_option linter.unusedSimpArgs false
set_option linter.unusedVariables false
set_option maxRecDepth 100000
namespace Go.Proofs.Ytoadihclmnjjnaa.Nw
open Go Go.RowKit Go.Proofs.Ytoadihclmnjjnaa.Al
open Go.Proofs.Ytoadihclmnjjnaa.Iv (validB ofZ sgn)

def enS (a e : Nat) : Int := if e = 0 then spA a else spB a
theorem sg_tab : ∀ a < 15, ∀ b < 15, ∀ e < 2, ∀ f < 2, sgT (rl a b) (e * 2 + f) = sgn (enS b f) (enS a e) := of_decide_eq_true (by kernel_rfl)
theorem sgn_pos {u v : Int} : 0 < sgn u v ↔ v < u := by
  unfold sgn
  split
  · omega
  · split <;> omega
theorem sgn_zero {u v : Int} : sgn u v = 0 ↔ u = v := by
  unfold sgn
  split
  · omega
  · split <;> omega
theorem rl_six : ∀ k < 15, rl k k = 6 := of_decide_eq_true (by kernel_rfl)
theorem loc3 {n : Nat} {X : Mt} (h : Sc n X) {i k j : Nat} (hi : i < n) (hk : k < n) (hj : j < n) : ∃ a b c, a < 15 ∧ b < 15 ∧ c < 15 ∧ X i k = 2 ^ rl a b ∧ X k j = 2 ^ rl b c ∧ X i j = 2 ^ rl a c := by
  obtain ⟨p, hp, e1⟩ := h.1 i k hi hk
  obtain ⟨q, hq, e2⟩ := h.1 k j hk hj
  obtain ⟨c, hc, e3⟩ := h.1 i j hi hj
  have hs := h.2.1 i j k hi hj hk c (by rw [e3]; exact Nat.testBit_two_pow_self)
  rw [e1, e2, cmp_pow p q hp hq] at hs
  obtain ⟨a, b, m, hb, hm, hlt, rfl, rfl, rfl⟩ := (bas_iff p q c hp hq).1 hs
  exact ⟨a, b, m, by omega, hb, hm, e1, e2, e3⟩
theorem inv3 {n : Nat} {X : Mt} (h : Sc n X) {i j a b : Nat} (hi : i < n) (hj : j < n) (ha : a < 15) (hb : b < 15) (e : X i j = 2 ^ rl a b) : X j i = 2 ^ rl b a := by
  rw [h.2.2 i j hi hj, e, inv_pow _ (rl_lt a b ha hb), rl_inv a ha b hb]
theorem sgE_of {X : Mt} {p q a b : Nat} (ha : a < 15) (hb : b < 15) (e : X (p / 2) (q / 2) = 2 ^ rl a b) : sgE X p q = sgn (enS b (q % 2)) (enS a (p % 2)) := by
  unfold sgE
  rw [e, Nat.log2_two_pow]
  exact sg_tab a ha b hb _ (by omega) _ (by omega)
/-- Any three ends lie to each other as three numbers do. -/
theorem ends3 {n : Nat} {X : Mt} (h : Sc n X) {p q s : Nat} (hp : p < 2 * n) (hq : q < 2 * n) (hs : s < 2 * n) : ∃ x y z : Int, sgE X p q = sgn y x ∧ sgE X q s = sgn z y ∧ sgE X p s = sgn z x ∧ sgE X q p = sgn x y ∧ sgE X s q = sgn y z ∧ sgE X s p = sgn x z ∧ sgE X p p = sgn x x := by
  have hi : p / 2 < n := by omega
  have hk : q / 2 < n := by omega
  have hj : s / 2 < n := by omega
  obtain ⟨a, b, c, ha, hb, hc, e1, e2, e3⟩ := loc3 h hi hk hj
  refine ⟨enS a (p % 2), enS b (q % 2), enS c (s % 2), sgE_of ha hb e1, sgE_of hb hc e2, sgE_of ha hc e3, sgE_of hb ha (inv3 h hi hk ha hb e1), sgE_of hc hb (inv3 h hk hj hb hc e2), sgE_of hc ha (inv3 h hi hj ha hc e3), sgE_of ha ha ?_⟩
  rw [h.diag hi, rl_six a ha]
section
variable {n : Nat} {X : Mt} (h : Sc n X) {p q s : Nat} (hp : p < 2 * n) (hq : q < 2 * n) (hs : s < 2 * n)
theorem e_refl (h : Sc n X) (hp : p < 2 * n) : sgE X p p = 0 := by
  obtain ⟨x, y, z, _, _, _, _, _, _, e⟩ := ends3 h hp hp hp
  rw [e, sgn_zero]
theorem e_symm (h : Sc n X) (hp : p < 2 * n) (hq : q < 2 * n) (e : sgE X p q = 0) : sgE X q p = 0 := by
  obtain ⟨x, y, z, e1, _, _, e4, _, _, _⟩ := ends3 h hp hq hq
  rw [e1, sgn_zero] at e
  rw [e4, sgn_zero]; omega
theorem e_trans (h : Sc n X) (hp : p < 2 * n) (hq : q < 2 * n) (hs : s < 2 * n) (e : sgE X p q = 0) (f : sgE X q s = 0) : sgE X p s = 0 := by
  obtain ⟨x, y, z, e1, e2, e3, _, _, _, _⟩ := ends3 h hp hq hs
  rw [e1, sgn_zero] at e
  rw [e2, sgn_zero] at f
  rw [e3, sgn_zero]; omega
theorem b_trans (h : Sc n X) (hp : p < 2 * n) (hq : q < 2 * n) (hs : s < 2 * n) (e : 0 < sgE X p q) (f : 0 < sgE X q s) : 0 < sgE X p s := by
  obtain ⟨x, y, z, e1, e2, e3, _, _, _, _⟩ := ends3 h hp hq hs
  rw [e1, sgn_pos] at e
  rw [e2, sgn_pos] at f
  rw [e3, sgn_pos]; omega
theorem b_eq (h : Sc n X) (hp : p < 2 * n) (hq : q < 2 * n) (hs : s < 2 * n) (f : sgE X q s = 0) : 0 < sgE X p q ↔ 0 < sgE X p s := by
  obtain ⟨x, y, z, e1, e2, e3, _, _, _, _⟩ := ends3 h hp hq hs
  rw [e2, sgn_zero] at f
  rw [e1, e3, sgn_pos, sgn_pos]; omega
theorem eq_b (h : Sc n X) (hp : p < 2 * n) (hq : q < 2 * n) (hs : s < 2 * n) (f : sgE X p q = 0) : 0 < sgE X q s ↔ 0 < sgE X p s := by
  obtain ⟨x, y, z, e1, e2, e3, _, _, _, _⟩ := ends3 h hp hq hs
  rw [e1, sgn_zero] at f
  rw [e2, e3, sgn_pos, sgn_pos]; omega
theorem tri (h : Sc n X) (hp : p < 2 * n) (hq : q < 2 * n) : (0 < sgE X p q ∧ sgE X p q = 1) ∨ sgE X p q = 0 ∨ (0 < sgE X q p ∧ sgE X p q = -1) := by
  obtain ⟨x, y, z, e1, _, _, e4, _, _, _⟩ := ends3 h hp hq hq
  rw [e1, e4]
  unfold sgn
  split
  · right; right; exact ⟨by split <;> omega, rfl⟩
  · split
    · left; exact ⟨by omega, rfl⟩
    · right; left; rfl
end
theorem frs_iff {X : Mt} {o p : Nat} : frs X o p = true ↔ ∀ k, k < o → sgE X k p ≠ 0 := by
  unfold frs
  rw [List.all_eq_true]
  simp [List.mem_range]
theorem rep_any {n : Nat} {X : Mt} (h : Sc n X) : ∀ (p : Nat), p < 2 * n → ∃ k, k ≤ p ∧ frs X k k = true ∧ sgE X k p = 0 := by
  intro p
  induction p using Nat.strongRecOn with
  | ind p ih =>
    intro hp
    cases hf : frs X p p
    · have : ¬ ∀ k, k < p → sgE X k p ≠ 0 := fun hh => by rw [frs_iff.2 hh] at hf; cases hf
      simp only [Classical.not_forall] at this
      obtain ⟨k, hk, he⟩ := this
      have he : sgE X k p = 0 := Classical.not_not.1 he
      obtain ⟨r, h1, h2, h3⟩ := ih k hk (by omega)
      exact ⟨r, by omega, h2, e_trans h (by omega) (by omega) hp h3 he⟩
    · exact ⟨p, Nat.le_refl _, hf, e_refl h hp⟩
theorem count_mono {P Q : Nat → Bool} : ∀ (m : Nat), (∀ k, k < m → P k = true → Q k = true) → (List.range m).countP P ≤ (List.range m).countP Q := fun m hm => List.countP_mono_left fun k hk => hm k (List.mem_range.1 hk)
theorem count_lt {P Q : Nat → Bool} : ∀ (m : Nat), (∀ k, k < m → P k = true → Q k = true) → (∃ k, k < m ∧ P k = false ∧ Q k = true) → (List.range m).countP P < (List.range m).countP Q
  | 0, _, ⟨k, hk, _⟩ => by omega
  | m + 1, hm, ⟨k, hk, h1, h2⟩ => by
    rw [List.range_succ, List.countP_append, List.countP_append]
    have h3 := count_mono (P := P) (Q := Q) m (fun k hk => hm k (by omega))
    by_cases e : k = m
    · subst e
      rw [List.countP_singleton, List.countP_singleton, h1, h2]
      simp; omega
    · have h4 := count_lt (P := P) (Q := Q) m (fun k hk => hm k (by omega)) ⟨k, by omega, h1, h2⟩
      have h5 : [m].countP P ≤ [m].countP Q := List.countP_mono_left fun k hk => by
        obtain rfl := List.mem_singleton.1 hk
        exact hm _ (by omega)
      omega
theorem rank_eq {n : Nat} {X : Mt} (h : Sc n X) {p q : Nat} (hp : p < 2 * n) (hq : q < 2 * n) (e : sgE X p q = 0) : rank X n p = rank X n q := by
  unfold rank cntP
  refine List.countP_congr fun k hk => ?_
  have hk := List.mem_range.1 hk
  simp only [Bool.and_eq_true, decide_eq_true_eq]
  rw [b_eq h hk hp hq e]
theorem rank_lt {n : Nat} {X : Mt} (h : Sc n X) {p q : Nat} (hp : p < 2 * n) (hq : q < 2 * n) (e : 0 < sgE X p q) : rank X n p < rank X n q := by
  unfold rank cntP
  refine count_lt _ (fun k hk hh => ?_) ?_
  · simp only [Bool.and_eq_true, decide_eq_true_eq] at hh ⊢
    exact ⟨hh.1, b_trans h hk hp hq hh.2 e⟩
  · obtain ⟨k, h1, h2, h3⟩ := rep_any h p hp
    refine ⟨k, by omega, ?_, ?_⟩
    · rw [h2, h3]; rfl
    · rw [h2, decide_eq_true ((eq_b h (by omega) hp hq h3).1 e)]; rfl
theorem rank_bd {n : Nat} {X : Mt} (h : Sc n X) {q : Nat} (hq : q < 2 * n) : rank X n q < 2 * n := by
  have : (List.range (2 * n)).countP (fun k => frs X k k && decide (0 < sgE X k q)) < (List.range (2 * n)).countP (fun _ => true) := by
    refine count_lt _ (fun _ _ _ => rfl) ?_
    exact ⟨q, hq, by rw [e_refl h hq]; simp, rfl⟩
  rw [List.countP_true, List.length_range] at this
  exact this
theorem rank_sgn {n : Nat} {X : Mt} (h : Sc n X) {p q : Nat} (hp : p < 2 * n) (hq : q < 2 * n) : sgn ((rank X n q : Nat) : Int) ((rank X n p : Nat) : Int) = sgE X p q := by
  rcases tri h hp hq with ⟨h1, h2⟩ | h1 | ⟨h1, h2⟩
  · have := rank_lt h hp hq h1
    rw [h2]; unfold sgn
    rw [if_neg (by omega), if_pos (by omega)]
  · have := rank_eq h hp hq h1
    rw [h1, sgn_zero]; omega
  · have := rank_lt h hq hp h1
    rw [h2]; unfold sgn
    rw [if_pos (by omega)]
theorem spnL_get {X : Mt} {n i : Nat} (hi : i < n) : (spnL X n).getD i (0, 0) = (((rank X n (2 * i) : Nat) : Int), ((rank X n (2 * i + 1) : Nat) : Int)) := by
  unfold spnL
  rw [List.getD_eq_getElem?_getD, List.getElem?_map, List.getElem?_range hi]; rfl
theorem spnL_valid {n : Nat} {X : Mt} (h : Sc n X) (hn8 : n ≤ 8) : AllV (spnL X n) := fun i hi => by
  rw [spnL_len] at hi
  rw [spnL_get hi]
  have h1 : 0 < sgE X (2 * i) (2 * i + 1) := by
    rw [sgE_of (a := 0) (b := 0) (by omega) (by omega) (by rw [show 2 * i / 2 = i by omega, show (2 * i + 1) / 2 = i by omega, h.diag hi, rl_six 0 (by omega)]), sgn_pos, show 2 * i % 2 = 0 by omega, show (2 * i + 1) % 2 = 1 by omega]
    show enS 0 0 < enS 0 1
    decide
  have h2 := rank_lt h (by omega) (by omega) h1
  have h3 := rank_bd h (q := 2 * i + 1) (by omega)
  unfold validB Iv.lineB
  simp only [Bool.and_eq_true, decide_eq_true_eq]
  omega
theorem spnL_rel {n : Nat} {X : Mt} (h : Sc n X) (hn8 : n ≤ 8) {i j : Nat} (hi : i < n) (hj : j < n) : X i j = 2 ^ ofN (spnL X n) i j := by
  obtain ⟨a, b, c, ha, hb, hc, e1, e2, e3⟩ := loc3 h hi hj hj
  have hv := spnL_valid h hn8
  have v1 := hv i (by rw [spnL_len]; exact hi)
  have v2 := hv j (by rw [spnL_len]; exact hj)
  have s0 := fun e f (he : e < 2) (hf : f < 2) => (show sgn (enS b f) (enS a e) = sgn ((rank X n (2 * j + f) : Nat) : Int) ((rank X n (2 * i + e) : Nat) : Int) by
    rw [rank_sgn h (by omega) (by omega)]
    have := sgE_of (X := X) (p := 2 * i + e) (q := 2 * j + f) ha hb (by rw [show (2 * i + e) / 2 = i by omega, show (2 * j + f) / 2 = j by omega]; exact e1)
    rw [this, show (2 * i + e) % 2 = e by omega, show (2 * j + f) % 2 = f by omega])
  have flip : ∀ u v x y : Int, sgn u v = sgn x y → sgn v u = sgn y x := by
    intro u v x y hh
    unfold sgn at hh ⊢
    split at hh <;> split at hh <;> (try split at hh) <;> (try split at hh) <;> (repeat' split) <;> omega
  have key : ofZ ((spnL X n).getD i (0, 0)).1 ((spnL X n).getD i (0, 0)).2 ((spnL X n).getD j (0, 0)).1 ((spnL X n).getD j (0, 0)).2 = ofZ (spA a) (spB a) (spA b) (spB b) := by
    rw [spnL_get hi] at v1 ⊢
    rw [spnL_get hj] at v2 ⊢
    have w1 : validB (spA a) (spB a) = true := (show ∀ a < 15, validB (spA a) (spB a) = true from of_decide_eq_true (by kernel_rfl)) a ha
    have w2 : validB (spA b) (spB b) = true := (show ∀ a < 15, validB (spA a) (spB a) = true from of_decide_eq_true (by kernel_rfl)) b hb
    exact ofZ_sgn v1 v2 w1 w2 (flip _ _ _ _ (s0 1 0 (by omega) (by omega)).symm) (flip _ _ _ _ (s0 0 1 (by omega) (by omega)).symm) (flip _ _ _ _ (s0 0 0 (by omega) (by omega)).symm) (flip _ _ _ _ (s0 1 1 (by omega) (by omega)).symm)
  unfold ofN
  rw [key, (rl_all a ha b hb).1, Int.toNat_natCast]
  exact e1
/-- Intervals that lie to each other as a scenario says satisfy what the scenario satisfies. -/
theorem holds_of {n : Nat} {N : Mt} {S : List (Int × Int)} {l : List Rl} (hl : S.length = n) (hv : AllV S) (hN : ∀ a b, a < n → b < n → N a b = 2 ^ ofN S a b) (hok : ∀ r ∈ l, OkR n r) (hs : ∀ r ∈ l, SatR N r) : holdsN l S = true := by
  have b1 : S.any badP = false := List.any_eq_false.2 fun s hs => by
    obtain ⟨i, hi, rfl⟩ := List.mem_iff_getElem.1 hs
    have := hv i hi
    rw [List.getD_eq_getElem?_getD, List.getElem?_eq_getElem hi] at this
    have h2 : validB S[i].1 S[i].2 = true := this
    simp [badP, h2]
  have b2 : l.any (badH S) = false := List.any_eq_false.2 fun r hr => by
    obtain ⟨a, b, s, rfl, ha, hb, hs8⟩ := hok r hr
    have hsat := hs _ hr
    have hbit : s.testBit (ofN S a b) = true := by
      have h5 : Sub (N (a : Int).toNat (b : Int).toNat) (s : Int).toNat := hsat
      rw [Int.toNat_natCast, Int.toNat_natCast, Int.toNat_natCast, hN a b ha hb] at h5
      exact h5 _ Nat.testBit_two_pow_self
    have his : isSetB (s : Int) = true := by unfold isSetB; simp; omega
    have e1 : ¬ ((S.length : Nat) : Int) ≤ (a : Int) := by omega
    have e2 : ¬ ((S.length : Nat) : Int) ≤ (b : Int) := by omega
    unfold badH holdsB atG
    dsimp only
    rw [decide_eq_false (show ¬ (a : Int) < 0 by omega), decide_eq_false e1, decide_eq_false (show ¬ (b : Int) < 0 by omega), decide_eq_false e2, Int.toNat_natCast, Int.toNat_natCast, Int.toNat_natCast, his, hv a (by omega), hv b (by omega)]
    have h7 : (s.testBit (ofZ (S.getD a (0, 0)).1 (S.getD a (0, 0)).2 (S.getD b (0, 0)).1 (S.getD b (0, 0)).2).toNat) = true := hbit
    rw [h7]
    simp
  unfold holdsN
  rw [b1, b2]; rfl
end Go.Proofs.Ytoadihclmnjjnaa.Nw
