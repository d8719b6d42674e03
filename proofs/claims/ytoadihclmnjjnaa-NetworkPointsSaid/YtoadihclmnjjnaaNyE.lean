/-
  Networks: the reference's signs of a set, plain (layer 46).
-/
import Derived.Test.YtoadihclmnjjnaaNyB
import Derived.Test.YtoadihclmnjjnaaNyC
set_option linter.unusedSimpArgs false
set_option linter.unusedVariables false
set_option maxRecDepth 100000
namespace Go.Proofs.Ytoadihclmnjjnaa.Nw
open Go Go.RowKit Go.Proofs.Ytoadihclmnjjnaa.Al

/-- The signs of the relations below m of a set. -/
def dRf (s : Nat) : Nat → Nat → Nat
  | 0, _ => 0
  | m + 1, p => if s.testBit m = true then dRf s m p ||| 2 ^ sg1 m p else dRf s m p
theorem dRf_all (s p : Nat) : dRf s 13 p = dTo (singF s) p := by
  unfold dTo singF
  rw [List.foldl_filter]
  have e : List.finRange 13 = [0, 1, 2, 3, 4, 5, 6, 7, 8, 9, 10, 11, 12] := by decide
  rw [e]
  rfl
theorem dTo_bit (L : List (Fin 13)) (p c : Nat) : (dTo L p).testBit c = L.any fun k => sg1 k.val p == c := by
  unfold dTo
  rw [foldl_bit]
  simp
theorem expd_bit (d : Nat → Nat) (c : Nat) : ∀ m, (expd d m).testBit c = true ↔ c < m ∧ insd d c 4 = true
  | 0 => by unfold expd; simp
  | m + 1 => by
    have ih := expd_bit d c m
    unfold expd
    by_cases h : insd d m 4 = true
    · rw [if_pos h, Nat.testBit_or, Bool.or_eq_true, ih]
      by_cases e : c = m
      · subst e
        rw [Nat.testBit_two_pow_self]
        exact ⟨fun _ => ⟨by omega, h⟩, fun _ => Or.inr rfl⟩
      · rw [Nat.testBit_two_pow_of_ne (Ne.symm e)]
        exact ⟨fun h => h.elim (fun ⟨a, b⟩ => ⟨by omega, b⟩) nofun, fun ⟨a, b⟩ => Or.inl ⟨by omega, b⟩⟩
    · rw [if_neg h, ih]
      refine ⟨fun ⟨a, b⟩ => ⟨by omega, b⟩, fun ⟨a, b⟩ => ⟨?_, b⟩⟩
      by_cases e : c = m
      · subst e; exact (h b).elim
      · omega
theorem own_inside {s k : Nat} (hk : k < 13) (h : s.testBit k = true) : insd (dTo (singF s)) k 4 = true := by
  unfold insd
  rw [List.all_eq_true]
  intro p _
  rw [dTo_bit]
  exact List.any_eq_true.2 ⟨⟨k, hk⟩, (mem_singF s ⟨k, hk⟩).2 h, by simp⟩
theorem expr_iff {s : Nat} (hs : s < 8192) : (expd (dTo (singF s)) 13 == s) = true ↔ ∀ k, k < 13 → insd (dTo (singF s)) k 4 = true → s.testBit k = true := by
  rw [beq_iff_eq]
  constructor
  · intro h k hk hi
    rw [← h]
    exact (expd_bit _ k 13).2 ⟨hk, hi⟩
  · intro h
    refine ext13 (expd_lt _ 13 (Nat.le_refl _)) hs fun c hc => ?_
    rw [Bool.eq_iff_iff, expd_bit]
    exact ⟨fun ⟨a, b⟩ => h c a b, fun b => ⟨hc, own_inside hc b⟩⟩
/-- Four numbers in a slice's block. -/
def DR (w : World) (D : Nat) (d : Nat → Nat) : Prop := w.heap[D]? = some (.cells ((List.range 4).map fun p => Value.int .i64 ((d p : Nat) : Int)).toArray 3 (0, 0))
theorem DR.cell {w : World} {D : Nat} {d : Nat → Nat} (h : DR w D d) {p : Nat} (hp : p < 4) : w.cell? ⟨D, p, none⟩ = some (.int .i64 ((d p : Nat) : Int)) := by
  rw [cell_of_row _ _ p _ _ _ h]
  simp [List.getElem?_range hp, hp]
theorem DR.frozen {w : World} {D : Nat} {d : Nat → Nat} (h : DR w D d) (p : Nat) : w.frozen? ⟨D, p, none⟩ = false := frozen_of_row w D p _ _ h
theorem DR.lt {w : World} {D : Nat} {d : Nat → Nat} (h : DR w D d) : D < w.heap.size := (Array.getElem?_eq_some_iff.1 h).1
theorem DR.congr {w : World} {D : Nat} {d e : Nat → Nat} (h : DR w D d) (he : ∀ p, p < 4 → e p = d p) : DR w D e := by
  have : ((List.range 4).map fun p => Value.int .i64 ((e p : Nat) : Int)) = ((List.range 4).map fun p => Value.int .i64 ((d p : Nat) : Int)) := List.map_congr_left fun p hp => by rw [he p (List.mem_range.1 hp)]
  unfold DR
  rw [this]; exact h
theorem DR.at {w w' : World} {D : Nat} {d : Nat → Nat} (h : DR w D d) (hb : w'.heap[D]? = w.heap[D]?) : DR w' D d := hb.trans h
theorem DR.set {w : World} {D : Nat} {d : Nat → Nat} (h : DR w D d) {p : Nat} (hp : p < 4) (x : Nat) : DR (w.setCell ⟨D, p, none⟩ (.int .i64 ((x : Nat) : Int))) D (fun k => if k = p then x else d k) := by
  unfold DR
  rw [heap_setCell_same _ _ _ _ _ _ h]
  congr 3
  rcases (show p = 0 ∨ p = 1 ∨ p = 2 ∨ p = 3 by omega) with rfl | rfl | rfl | rfl <;> rfl
theorem rg_cell {w : World} {g r : Nat} (h : w.heap[g]? = some (.cells #[.int .i64 ((sg1 r 0 : Nat) : Int), .int .i64 ((sg1 r 1 : Nat) : Int), .int .i64 ((sg1 r 2 : Nat) : Int), .int .i64 ((sg1 r 3 : Nat) : Int)] 3 (0, 0))) {p : Nat} (hp : p < 4) : w.cell? ⟨g, p, none⟩ = some (.int .i64 ((sg1 r p : Nat) : Int)) := by
  rw [cell_of_row _ _ p _ _ _ h]
  rcases (show p = 0 ∨ p = 1 ∨ p = 2 ∨ p = 3 by omega) with rfl | rfl | rfl | rfl <;> rfl
theorem dRf_lt (s : Nat) {p : Nat} (hp : p < 4) : ∀ m, m ≤ 13 → dRf s m p < 8
  | 0, _ => by unfold dRf; omega
  | m + 1, h => by
    unfold dRf
    have ih := dRf_lt s hp m (by omega)
    split
    · exact Nat.or_lt_two_pow (n := 3) ih (Nat.pow_lt_pow_right (by omega) (show sg1 m p < 3 by have := (sg1_bd m (by omega) p hp).2; omega))
    · exact ih
theorem bit_zer (m k : Nat) (hm : m < 2 ^ 63) : (bits .and .i64 ((m : Int) / 2 ^ k) 1 == 0) = !m.testBit k := by
  have h1 : ((m : Int) / 2 ^ k) = ((m / 2 ^ k : Nat) : Int) := by simp
  have h2 := Bt.bits_and (m / 2 ^ k) 1 (Nat.lt_of_le_of_lt (Nat.div_le_self _ _) hm) (by omega)
  rw [h1, show (1 : Int) = ((1 : Nat) : Int) from rfl, h2, Nat.testBit, Nat.shiftRight_eq_div_pow, Nat.and_comm 1]
  rcases Nat.mod_two_eq_zero_or_one (m / 2 ^ k) with h | h
  · simp [Nat.and_one_is_mod, h]
  · simp [Nat.and_one_is_mod, h]
end Go.Proofs.Ytoadihclmnjjnaa.Nw
