/-
  Plain laws of Possible: each interval stands in one relation; the lengths add up.
-/
import Derived.Test.YtmkgddgdeffllaaPosL
import Derived.Test.YtmkgddgdeffllaaPl3
set_option linter.unusedSimpArgs false
set_option linter.unusedVariables false
namespace Go.Proofs.Ytmkgddgdeffllaa.Al
open Go Go.RowKit Go.Proofs.Ytmkgddgdeffllaa.Bt Go.Proofs.Ytmkgddgdeffllaa.Sl
open Go.Proofs.Ytmkgddgdeffllaa.Iv (of_any valid_any ofZ validB lineB sgn_bd sgn_cases tab sgn)

theorem row_mem {lo : Int} {k j : Nat} {p : Int × Int} (h : p ∈ row lo k j) : p.1 = lo + (k : Int) ∧ ∃ y : Nat, k < y ∧ y < j ∧ p.2 = lo + (y : Int) := by
  unfold row at h
  obtain ⟨d, hd, rfl⟩ := List.mem_map.1 h
  have := List.mem_range.1 hd
  exact ⟨rfl, k + 1 + d, by omega, by omega, rfl⟩
theorem allTo_mem {lo : Int} {n : Nat} {p : Int × Int} (h : p ∈ allTo lo n n (n + 1)) : lo ≤ p.1 ∧ p.2 ≤ lo + (n : Int) ∧ p.1 < p.2 := by
  unfold allTo at h
  rcases List.mem_append.1 h with h | h
  · obtain ⟨x, hx, h⟩ := List.mem_flatMap.1 h
    have := List.mem_range.1 hx
    obtain ⟨h1, y, h2, h3, h4⟩ := row_mem h
    omega
  · obtain ⟨h1, y, h2, h3, h4⟩ := row_mem h
    omega
theorem allTo_count (lo : Int) (n : Nat) : 2 * (allTo lo n n (n + 1)).length = n * (n + 1) := by
  have h : ∀ k, k ≤ n → 2 * ((List.range k).flatMap (fun x => row lo x (n + 1))).length + k * k = k * (2 * n + 1) := by
    intro k
    induction k with
    | zero => intro _; simp
    | succ k ih =>
      intro hk
      have := ih (by omega)
      rw [List.range_succ, List.flatMap_append, List.length_append]
      have e : ([k].flatMap (fun x => row lo x (n + 1))).length = n + 1 - (k + 1) := by simp [row_len]
      rw [e]
      have e1 : (k + 1) * (k + 1) = k * k + 2 * k + 1 := by rw [Nat.add_mul, Nat.mul_add]; omega
      have e2 : (k + 1) * (2 * n + 1) = k * (2 * n + 1) + (2 * n + 1) := by rw [Nat.add_mul]; omega
      omega
  have h1 := h n (Nat.le_refl _)
  unfold allTo
  rw [List.length_append, row_len]
  have e1 : n * (2 * n + 1) = n * n + n * n + n := by rw [Nat.mul_add, Nat.two_mul, Nat.mul_add]; omega
  have e2 : n * (n + 1) = n * n + n := by rw [Nat.mul_add]; omega
  omega
theorem validB_mk {x y : Int} (h1 : -4398046511104 ≤ x) (h2 : y ≤ 4398046511104) (h3 : x < y) : validB x y = true := by rw [valid_iff]; simp; omega
/-- What a member of Possible is. -/
theorem poss_mem {m a0 a1 lo hi : Int} {p : Int × Int} (h : p ∈ poss m a0 a1 lo hi) : lo ≤ p.1 ∧ p.2 ≤ hi ∧ p.1 < p.2 ∧ holdsB m p.1 p.2 a0 a1 = true := by
  unfold poss at h
  split at h
  · rename_i hp
    simp only [posB, Bool.and_eq_true, decide_eq_true_eq] at hp
    unfold keep at h
    obtain ⟨h1, h2⟩ := List.mem_filter.1 h
    have := allTo_mem h1
    exact ⟨this.1, by omega, this.2.2, h2⟩
  · cases h
theorem holdsB_one (r : Nat) (hr : r < 13) {x y a0 a1 : Int} (h : holdsB ((pw r : Nat) : Int) x y a0 a1 = true) : ofZ x y a0 a1 = ((r : Nat) : Int) := by
  unfold holdsB at h
  simp only [Bool.and_eq_true] at h
  obtain ⟨⟨⟨_, h1⟩, h2⟩, h3⟩ := h
  have hb := ofZ_bd x y a0 a1 h1 h2
  simp only [Int.toNat_natCast, pw, Nat.testBit_two_pow, decide_eq_true_eq] at h3
  omega
/-- The count of those in a set. -/
def cnt (m : Nat) (a0 a1 : Int) (l : List (Int × Int)) : Nat := l.countP fun p => m.testBit (ofZ p.1 p.2 a0 a1).toNat
theorem keep_cnt (m : Nat) (hm : m < 8192) (a0 a1 : Int) (ha : validB a0 a1 = true) (l : List (Int × Int)) (hl : ∀ p ∈ l, validB p.1 p.2 = true) : (keep (m : Int) a0 a1 l).length = cnt m a0 a1 l := by
  unfold keep cnt
  rw [← List.countP_eq_length_filter]
  refine List.countP_congr fun p hp => ?_
  have his : isSetB (m : Int) = true := by simp [isSetB]; omega
  unfold holdsB
  rw [his, hl p hp, ha]
  simp
theorem cnt_all (m : Nat) (hm : m < 8192) (a0 a1 : Int) (ha : validB a0 a1 = true) : ∀ l : List (Int × Int), (∀ p ∈ l, validB p.1 p.2 = true) → cnt m a0 a1 l + cnt (8191 - m) a0 a1 l = l.length
  | [], _ => rfl
  | p :: l, hl => by
    have ih := cnt_all m hm a0 a1 ha l (fun q hq => hl q (by simp [hq]))
    have hb := ofZ_bd p.1 p.2 a0 a1 (hl p (by simp)) ha
    unfold cnt at *
    rw [List.countP_cons, List.countP_cons, List.length_cons]
    have e : (8191 - m).testBit (ofZ p.1 p.2 a0 a1).toNat = !m.testBit (ofZ p.1 p.2 a0 a1).toNat := by
      have := Nat.testBit_two_pow_sub_succ (n := 13) (x := m) (by omega) (ofZ p.1 p.2 a0 a1).toNat
      rw [show 2 ^ 13 - (m + 1) = 8191 - m by omega] at this
      rw [this]
      have : (ofZ p.1 p.2 a0 a1).toNat < 13 := by omega
      simp [this]
    rw [e]
    cases m.testBit (ofZ p.1 p.2 a0 a1).toNat <;> simp <;> omega
theorem sum_one (L : List (Fin 13)) (hn : L.Nodup) (t : Nat) : (L.map fun x => if (2 ^ x.val).testBit t then 1 else 0).sum = if L.any (fun x => x.val == t) then 1 else 0 := by
  induction L with
  | nil => rfl
  | cons x L ih =>
    have hx := List.nodup_cons.1 hn
    rw [List.map_cons, List.sum_cons, ih hx.2, List.any_cons, Nat.testBit_two_pow]
    by_cases e : x.val = t
    · have : L.any (fun y => y.val == t) = false := by
        rw [List.any_eq_false]
        intro y hy hyt
        have : y = x := Fin.ext (by have : y.val = t := by simpa using hyt
                                    omega)
        exact hx.1 (this ▸ hy)
      simp [e, this]
    · simp [e]
theorem sum_cnt (L : List (Fin 13)) (hn : L.Nodup) (a0 a1 : Int) : ∀ l : List (Int × Int), (L.map fun x => cnt (2 ^ x.val) a0 a1 l).sum = l.countP fun p => L.any fun x => x.val == (ofZ p.1 p.2 a0 a1).toNat
  | [] => by
    simp only [cnt, List.countP_nil]
    clear hn
    induction L with
    | nil => rfl
    | cons x L ih => rw [List.map_cons, List.sum_cons, ih]
  | p :: l => by
    have ih := sum_cnt L hn a0 a1 l
    have h1 := sum_one L hn (ofZ p.1 p.2 a0 a1).toNat
    rw [List.countP_cons, ← ih, ← h1]
    clear ih h1 hn
    induction L with
    | nil => simp
    | cons x L ih =>
      simp only [List.map_cons, List.sum_cons]
      rw [ih]
      unfold cnt
      rw [List.countP_cons]
      omega
theorem singF_nodup (m : Nat) : (singF m).Nodup := List.Pairwise.filter _ (List.nodup_finRange 13)
theorem any_singF (m t : Nat) (ht : t < 13) : ((singF m).any fun x => x.val == t) = m.testBit t := by
  rw [Bool.eq_iff_iff, List.any_eq_true]
  constructor
  · rintro ⟨x, hx, he⟩
    have : x.val = t := by simpa using he
    rw [← this]; exact (mem_singF m x).1 hx
  · intro h
    exact ⟨⟨t, ht⟩, (mem_singF m _).2 h, by simp⟩

/-- The lengths of the parts. -/
def partLen (a0 a1 lo hi : Int) (x : Fin 13) : Nat := (poss ((pw x.val : Nat) : Int) a0 a1 lo hi).length
theorem parts_sum (m : Nat) (hm : m < 8192) (a0 a1 lo hi : Int) (h : posB (m : Int) a0 a1 lo hi = true) : ((singF m).map (partLen a0 a1 lo hi)).sum = (poss (m : Int) a0 a1 lo hi).length ∧ 2 * ((poss (m : Int) a0 a1 lo hi).length + (poss ((8191 - m : Nat) : Int) a0 a1 lo hi).length) = (hi - lo).toNat * ((hi - lo).toNat + 1) := by
  have h' := h
  simp only [posB, Bool.and_eq_true, decide_eq_true_eq] at h'
  obtain ⟨⟨⟨⟨⟨h1, h2⟩, h3⟩, h4⟩, h5⟩, h6⟩ := h'
  have b3 : -4398046511104 ≤ lo ∧ lo ≤ 4398046511104 := by simpa [lineB] using h3
  have b4 : -4398046511104 ≤ hi ∧ hi ≤ 4398046511104 := by simpa [lineB] using h4
  obtain ⟨n, rfl⟩ : ∃ n : Nat, hi = lo + (n : Int) := ⟨(hi - lo).toNat, by omega⟩
  have en : (lo + (n : Int) - lo).toNat = n := by omega
  have hl : ∀ p ∈ allTo lo n n (n + 1), validB p.1 p.2 = true := fun p hp => by
    have := allTo_mem hp
    exact validB_mk (by omega) (by omega) this.2.2
  have key : ∀ q : Nat, q < 8192 → (poss (q : Int) a0 a1 lo (lo + (n : Int))).length = cnt q a0 a1 (allTo lo n n (n + 1)) := fun q hq => by
    have : posB (q : Int) a0 a1 lo (lo + (n : Int)) = true := by
      simp only [posB, Bool.and_eq_true, decide_eq_true_eq]
      exact ⟨⟨⟨⟨⟨by simp [isSetB]; omega, h2⟩, h3⟩, h4⟩, h5⟩, h6⟩
    unfold poss
    rw [this, if_pos rfl, en, keep_cnt q hq a0 a1 h2 _ hl]
  constructor
  · rw [key m hm, show (singF m).map (partLen a0 a1 lo (lo + (n : Int))) = (singF m).map fun x => cnt (2 ^ x.val) a0 a1 (allTo lo n n (n + 1)) from List.map_congr_left fun x _ => key (pw x.val) (pow_lt _ (by omega)), sum_cnt _ (singF_nodup m)]
    unfold cnt
    refine List.countP_congr fun p hp => ?_
    have hb := ofZ_bd p.1 p.2 a0 a1 (hl p hp) h2
    rw [any_singF m _ (by omega)]
  · rw [key m hm, key (8191 - m) (by omega), cnt_all m hm a0 a1 h2 _ hl, en, allTo_count]
end Go.Proofs.Ytmkgddgdeffllaa.Al
