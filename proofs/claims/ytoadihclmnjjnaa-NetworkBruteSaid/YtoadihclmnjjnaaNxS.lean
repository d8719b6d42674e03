/-
  Networks: of at most three intervals, those between 0 and 5 are enough (plain; layer 46).
-/
import Derived.Test.YtoadihclmnjjnaaNxR
set_option linter.unusedSimpArgs false
set_option linter.unusedVariables false
set_option maxRecDepth 100000
namespace Go.Proofs.Ytoadihclmnjjnaa.Nw
open Go Go.RowKit Go.Proofs.Ytoadihclmnjjnaa.Al
open Go.Proofs.Ytoadihclmnjjnaa.Iv (validB ofZ)

/-- Intervals behind P that satisfy the network, with this relation. -/
def Ext (l : List Rl) (i j d : Nat) (P : List (Int × Int)) (c : Nat) : Prop := ∃ Q : List (Int × Int), Q.length = d ∧ (∀ s ∈ Q, s ∈ spL) ∧ holdsN l (P ++ Q) = true ∧ ofN (P ++ Q) i j = c
theorem fold_bit {l : List Rl} {i j d c : Nat} {P : List (Int × Int)} (h : ∀ (P : List (Int × Int)) (imp : Nat), (impB l i j d P imp).testBit c = true ↔ imp.testBit c = true ∨ Ext l i j d P c) : ∀ (L : List (Int × Int)) (imp : Nat),
    (L.foldl (fun o s => impB l i j d (P ++ [s]) o) imp).testBit c = true ↔ imp.testBit c = true ∨ ∃ s ∈ L, Ext l i j d (P ++ [s]) c
  | [], imp => by simp
  | s :: L, imp => by
    rw [List.foldl_cons, fold_bit h L, h]
    constructor
    · rintro ((h1 | h1) | ⟨t, h1, h2⟩)
      · exact Or.inl h1
      · exact Or.inr ⟨s, by simp, h1⟩
      · exact Or.inr ⟨t, by simp [h1], h2⟩
    · rintro (h1 | ⟨t, h1, h2⟩)
      · exact Or.inl (Or.inl h1)
      · rcases List.mem_cons.1 h1 with rfl | h1
        · exact Or.inl (Or.inr h2)
        · exact Or.inr ⟨t, h1, h2⟩
theorem impB_bit (l : List Rl) (i j c : Nat) : ∀ (d : Nat) (P : List (Int × Int)) (imp : Nat), (impB l i j d P imp).testBit c = true ↔ imp.testBit c = true ∨ Ext l i j d P c
  | 0, P, imp => by
    unfold impB Ext
    constructor
    · intro h
      by_cases hz : holdsN l P = true
      · rw [if_pos hz, Nat.testBit_or, Bool.or_eq_true] at h
        rcases h with h | h
        · exact Or.inl h
        · exact Or.inr ⟨[], rfl, nofun, by simpa using hz, by rw [List.append_nil]; exact (two_bit h).symm⟩
      · rw [if_neg hz] at h
        exact Or.inl h
    · rintro (h | ⟨Q, h1, _, h3, h4⟩)
      · split
        · rw [Nat.testBit_or, h]; rfl
        · exact h
      · obtain rfl := List.length_eq_zero_iff.1 h1
        rw [List.append_nil] at h3 h4
        rw [if_pos h3, Nat.testBit_or, h4, Nat.testBit_two_pow_self]
        simp
  | d + 1, P, imp => by
    show (spL.foldl (fun o s => impB l i j d (P ++ [s]) o) imp).testBit c = true ↔ _
    rw [fold_bit (fun P imp => impB_bit l i j c d P imp)]
    refine or_congr Iff.rfl ?_
    unfold Ext
    constructor
    · rintro ⟨s, hs, Q, h1, h2, h3, h4⟩
      refine ⟨s :: Q, by simp [h1], fun t ht => ?_, ?_, ?_⟩
      · rcases List.mem_cons.1 ht with rfl | ht
        · exact hs
        · exact h2 t ht
      · rwa [List.append_assoc] at h3
      · rwa [List.append_assoc] at h4
    · rintro ⟨Q, h1, h2, h3, h4⟩
      match Q, h1 with
      | s :: Q, h1 =>
        refine ⟨s, h2 s (by simp), Q, by simpa using h1, fun t ht => h2 t (List.mem_cons_of_mem _ ht), ?_, ?_⟩
        · rw [List.append_assoc]; exact h3
        · rw [List.append_assoc]; exact h4
theorem spL_valid : ∀ s ∈ spL, validB s.1 s.2 = true := by
  have h : (spL.all fun s => validB s.1 s.2) = true := by kernel_rfl
  exact fun s hs => (List.all_eq_true.1 h) s hs
theorem spL_mem {k : Nat} (h : k < 15) : spL.getD k (0, 0) ∈ spL := by
  rw [List.getD_eq_getElem?_getD, List.getElem?_eq_getElem (by rw [spL_len]; exact h)]
  exact List.getElem_mem _
theorem rl_diag : ∀ k < 15, rl k k = 6 := of_decide_eq_true (by kernel_rfl)
theorem rl_any : ∀ r < 13, ((List.range 15).any fun k => (List.range 15).any fun j => rl k j == r) = true := of_decide_eq_true (by kernel_rfl)
theorem rl_ex {r : Nat} (h : r < 13) : ∃ k j, k < 15 ∧ j < 15 ∧ rl k j = r := by
  have := rl_any r h
  rw [List.any_eq_true] at this
  obtain ⟨k, hk, h2⟩ := this
  rw [List.any_eq_true] at h2
  obtain ⟨j, hj, h3⟩ := h2
  exact ⟨k, j, List.mem_range.1 hk, List.mem_range.1 hj, by simpa using h3⟩
/-- A scenario of intervals of the list. -/
def Real (n : Nat) (N : Mt) (ks : List Nat) : Prop := ks.length = n ∧ (∀ k ∈ ks, k < 15) ∧ ∀ a b, a < n → b < n → N a b = 2 ^ rl (ks.getD a 0) (ks.getD b 0)
theorem two_ne {x y : Nat} (h : Sub (2 ^ x) (2 ^ y)) : x = y := two_bit (h x Nat.testBit_two_pow_self)
theorem real_any {n : Nat} {N : Mt} (hn : 0 < n) (hn3 : n ≤ 3) (h : Sc n N) : ∃ ks, Real n N ks := by
  have inv : ∀ a b r, a < n → b < n → r < 13 → N a b = 2 ^ r → N b a = 2 ^ (12 - r) := fun a b r ha hb hr e => by rw [h.2.2 a b ha hb, e, inv_pow r hr]
  have dg : ∀ a, a < n → N a a = 2 ^ 6 := fun a ha => h.diag ha
  rcases (show n = 1 ∨ n = 2 ∨ n = 3 by omega) with rfl | rfl | rfl
  · refine ⟨[0], rfl, by simp, fun a b ha hb => ?_⟩
    obtain rfl : a = 0 := by omega
    obtain rfl : b = 0 := by omega
    rw [dg 0 (by omega)]
    show 2 ^ 6 = 2 ^ rl 0 0
    rw [rl_diag 0 (by omega)]
  · obtain ⟨r, hr, e⟩ := h.1 0 1 (by omega) (by omega)
    obtain ⟨k, j, hk, hj, rfl⟩ := rl_ex hr
    refine ⟨[k, j], rfl, by simp; omega, fun a b ha hb => ?_⟩
    have e2 := inv 0 1 _ (by omega) (by omega) hr e
    rcases (show a = 0 ∨ a = 1 by omega) with rfl | rfl <;> rcases (show b = 0 ∨ b = 1 by omega) with rfl | rfl
    · show N 0 0 = 2 ^ rl k k
      rw [dg 0 (by omega), rl_diag k hk]
    · exact e
    · show N 1 0 = 2 ^ rl j k
      rw [e2, rl_inv k hk j hj]
    · show N 1 1 = 2 ^ rl j j
      rw [dg 1 (by omega), rl_diag j hj]
  · obtain ⟨p, hp, e1⟩ := h.1 0 1 (by omega) (by omega)
    obtain ⟨q, hq, e2⟩ := h.1 1 2 (by omega) (by omega)
    obtain ⟨c, hc, e3⟩ := h.1 0 2 (by omega) (by omega)
    have hs := h.2.1 0 2 1 (by omega) (by omega) (by omega) c (by rw [e3]; exact Nat.testBit_two_pow_self)
    rw [e1, e2, cmp_pow p q hp hq] at hs
    obtain ⟨k, j, m, hj, hm, hlt, rfl, rfl, rfl⟩ := (bas_iff p q c hp hq).1 hs
    have hk : k < 15 := by omega
    refine ⟨[k, j, m], rfl, by simp; omega, fun a b ha hb => ?_⟩
    have f1 := inv 0 1 _ (by omega) (by omega) hp e1
    have f2 := inv 1 2 _ (by omega) (by omega) hq e2
    have f3 := inv 0 2 _ (by omega) (by omega) hc e3
    rcases (show a = 0 ∨ a = 1 ∨ a = 2 by omega) with rfl | rfl | rfl <;> rcases (show b = 0 ∨ b = 1 ∨ b = 2 by omega) with rfl | rfl | rfl
    · show N 0 0 = 2 ^ rl k k
      rw [dg 0 (by omega), rl_diag k hk]
    · exact e1
    · exact e3
    · show N 1 0 = 2 ^ rl j k
      rw [f1, rl_inv k hk j hj]
    · show N 1 1 = 2 ^ rl j j
      rw [dg 1 (by omega), rl_diag j hj]
    · exact e2
    · show N 2 0 = 2 ^ rl m k
      rw [f3, rl_inv k hk m hm]
    · show N 2 1 = 2 ^ rl m j
      rw [f2, rl_inv j hj m hm]
    · show N 2 2 = 2 ^ rl m m
      rw [dg 2 (by omega), rl_diag m hm]
theorem spans_of {ks : List Nat} (hk : ∀ k ∈ ks, k < 15) {a : Nat} (ha : a < ks.length) : (ks.map fun k => spL.getD k (0, 0)).getD a (0, 0) = spL.getD (ks.getD a 0) (0, 0) := by
  rw [List.getD_eq_getElem?_getD, List.getElem?_map, List.getElem?_eq_getElem ha, List.getD_eq_getElem?_getD (l := ks), List.getElem?_eq_getElem ha]
  rfl
theorem brute_law {n : Nat} {l : List Rl} {i j : Nat} (hn : 0 < n) (hn3 : n ≤ 3) (hok : ∀ r ∈ l, OkR n r) (hi : i < n) (hj : j < n) : ImO n l i j 13 (impB l i j n [] 0) := by
  intro c
  rw [impB_bit l i j c n [] 0, Nat.zero_testBit]
  constructor
  · rintro (h | ⟨Q, h1, h2, h3, h4⟩)
    · cases h
    · rw [List.nil_append] at h3 h4
      obtain ⟨g1, g2⟩ := holds_parts h3
      have hv := allV_of g1
      have hs := sc_rel hv
      rw [h1] at hs
      refine ⟨by rw [← h4]; exact ofN_lt hv (by omega) (by omega), relM Q, hs, fun r hr => ?_⟩
      rcases List.mem_append.1 hr with hr | hr
      · exact sat_rel g2 r hr
      · obtain rfl := List.mem_singleton.1 hr
        show Sub (relM Q (i : Int).toNat (j : Int).toNat) ((2 ^ c : Nat) : Int).toNat
        rw [Int.toNat_natCast, Int.toNat_natCast, Int.toNat_natCast, ← h4]
        exact Sub.refl _
  · rintro ⟨hc, N, h1, h2⟩
    right
    obtain ⟨ks, hl, hk, hN⟩ := real_any hn hn3 h1
    have hget : ∀ a, a < n → (ks.map fun k => spL.getD k (0, 0)).getD a (0, 0) = spL.getD (ks.getD a 0) (0, 0) := fun a ha => spans_of hk (by omega)
    have hof : ∀ a b, a < n → b < n → N a b = 2 ^ ofN (ks.map fun k => spL.getD k (0, 0)) a b := fun a b ha hb => by
      rw [hN a b ha hb]
      unfold ofN
      rw [hget a ha, hget b hb]
      rfl
    have hmem : ∀ s ∈ (ks.map fun k => spL.getD k (0, 0)), s ∈ spL := fun s hs => by
      obtain ⟨k, hk1, rfl⟩ := List.mem_map.1 hs
      exact spL_mem (hk k hk1)
    have hval : ∀ a, a < n → validB ((ks.map fun k => spL.getD k (0, 0)).getD a (0, 0)).1 ((ks.map fun k => spL.getD k (0, 0)).getD a (0, 0)).2 = true := fun a ha => by
      rw [hget a ha]
      have hm : ks.getD a 0 < 15 := by
        rw [List.getD_eq_getElem?_getD, List.getElem?_eq_getElem (by omega)]
        exact hk _ (List.getElem_mem _)
      exact spL_valid _ (spL_mem hm)
    have hlen : (ks.map fun k => spL.getD k (0, 0)).length = n := by rw [List.length_map, hl]
    refine ⟨ks.map fun k => spL.getD k (0, 0), hlen, hmem, ?_, ?_⟩
    · rw [List.nil_append]
      have b1 : (ks.map fun k => spL.getD k (0, 0)).any badP = false := List.any_eq_false.2 fun s hs => by
        have := spL_valid s (hmem s hs)
        simp [badP, this]
      have b2 : l.any (badH (ks.map fun k => spL.getD k (0, 0))) = false := List.any_eq_false.2 fun r hr => by
        obtain ⟨a, b, s, rfl, ha, hb, hs⟩ := hok r hr
        have hsat := h2 _ (List.mem_append_left _ hr)
        have hbit : s.testBit (ofN (ks.map fun k => spL.getD k (0, 0)) a b) = true := by
          have h5 : Sub (N (a : Int).toNat (b : Int).toNat) (s : Int).toNat := hsat
          rw [Int.toNat_natCast, Int.toNat_natCast, Int.toNat_natCast, hof a b ha hb] at h5
          exact h5 _ Nat.testBit_two_pow_self
        have his : isSetB (s : Int) = true := by unfold isSetB; simp; omega
        have e1 : ¬ (((ks.map fun k => spL.getD k (0, 0)).length : Nat) : Int) ≤ (a : Int) := by rw [hlen]; omega
        have e2 : ¬ (((ks.map fun k => spL.getD k (0, 0)).length : Nat) : Int) ≤ (b : Int) := by rw [hlen]; omega
        unfold badH holdsB atG
        dsimp only
        rw [decide_eq_false (show ¬ (a : Int) < 0 by omega), decide_eq_false e1, decide_eq_false (show ¬ (b : Int) < 0 by omega), decide_eq_false e2, Int.toNat_natCast, Int.toNat_natCast, Int.toNat_natCast, his, hval a ha, hval b hb]
        have h7 : (s.testBit (ofZ ((ks.map fun k => spL.getD k (0, 0)).getD a (0, 0)).1 ((ks.map fun k => spL.getD k (0, 0)).getD a (0, 0)).2 ((ks.map fun k => spL.getD k (0, 0)).getD b (0, 0)).1 ((ks.map fun k => spL.getD k (0, 0)).getD b (0, 0)).2).toNat) = true := hbit
        rw [h7]
        simp
      unfold holdsN
      rw [b1, b2]; rfl
    · rw [List.nil_append]
      have h5 : Sub (N (i : Int).toNat (j : Int).toNat) ((2 ^ c : Nat) : Int).toNat := h2 _ (List.mem_append_right _ (List.mem_singleton.2 rfl))
      rw [Int.toNat_natCast, Int.toNat_natCast, Int.toNat_natCast, hof i j hi hj] at h5
      exact two_ne h5
theorem ImO.ne {n : Nat} {l : List Rl} {i j out : Nat} (h : ImO n l i j 13 out) (hi : i < n) (hj : j < n) : out ≠ 0 ↔ SatL n l := by
  constructor
  · intro h0
    obtain ⟨c, hc⟩ := Nat.exists_testBit_of_ne_zero h0
    exact ((h c).1 hc).2.mono fun r hr => List.mem_append_left _ hr
  · rintro ⟨N, h1, h2⟩ h0
    obtain ⟨c, hc, e⟩ := h1.1 i j hi hj
    have : out.testBit c = true := (h c).2 ⟨hc, N, h1, fun r hr => by
      rcases List.mem_append.1 hr with hr | hr
      · exact h2 r hr
      · obtain rfl := List.mem_singleton.1 hr
        show Sub (N (i : Int).toNat (j : Int).toNat) ((2 ^ c : Nat) : Int).toNat
        rw [Int.toNat_natCast, Int.toNat_natCast, Int.toNat_natCast, e]
        exact Sub.refl _⟩
    rw [h0, Nat.zero_testBit] at this
    cases this
end Go.Proofs.Ytoadihclmnjjnaa.Nw
