/-
  Networks: Points, as the law NetworkEnds needs it (layer 46). Written by gen_nyp.py.
-/
import Derived.Test.YtoadihclmnjjnaaNyB
set_option linter.unusedSimpArgs false
set_option linter.unusedVariables false
set_option maxRecDepth 100000
namespace Go.Proofs.Ytoadihclmnjjnaa.Nw
open Go Go.RowKit Go.ChangeShapes Go.WideShapes Go.Proofs.Ytoadihclmnjjnaa.Sl Go.Proofs.Ytoadihclmnjjnaa.Al Go.Lib
open Go.Proofs.Ytoadihclmnjjnaa.Iv (validB ofZ sgn)

theorem dTo_bit (L : List (Fin 13)) (p c : Nat) : (dTo L p).testBit c = L.any fun k => sg1 k.val p == c := by
  unfold dTo
  rw [foldl_bit]
  simp
theorem expd_bit (d : Nat → Nat) (c : Nat) : ∀ m, (expd d m).testBit c = true ↔ c < m ∧ insd d c 4 = true
  | 0 => by unfold expd; simp
  | m + 1 => by
    have ih := expd_bit d c m
    unfold expd
    by_cases h : insd d m 4 = true
    · rw [if_pos h, Nat.testBit_or, Bool.or_eq_true, ih]
      by_cases e : c = m
      · subst e
        rw [Nat.testBit_two_pow_self]
        exact ⟨fun _ => ⟨by omega, h⟩, fun _ => Or.inr rfl⟩
      · rw [Nat.testBit_two_pow_of_ne (Ne.symm e)]
        exact ⟨fun h => h.elim (fun ⟨a, b⟩ => ⟨by omega, b⟩) nofun, fun ⟨a, b⟩ => Or.inl ⟨by omega, b⟩⟩
    · rw [if_neg h, ih]
      refine ⟨fun ⟨a, b⟩ => ⟨by omega, b⟩, fun ⟨a, b⟩ => ⟨?_, b⟩⟩
      by_cases e : c = m
      · subst e; exact (h b).elim
      · omega
theorem own_inside {s k : Nat} (hk : k < 13) (h : s.testBit k = true) : insd (dTo (singF s)) k 4 = true := by
  unfold insd
  rw [List.all_eq_true]
  intro p _
  rw [dTo_bit]
  exact List.any_eq_true.2 ⟨⟨k, hk⟩, (mem_singF s ⟨k, hk⟩).2 h, by simp⟩
theorem expr_iff {s : Nat} (hs : s < 8192) : (expd (dTo (singF s)) 13 == s) = true ↔ ∀ k, k < 13 → insd (dTo (singF s)) k 4 = true → s.testBit k = true := by
  rw [beq_iff_eq]
  constructor
  · intro h k hk hi
    rw [← h]
    exact (expd_bit _ k 13).2 ⟨hk, hi⟩
  · intro h
    refine ext13 (expd_lt _ 13 (Nat.le_refl _)) hs fun c hc => ?_
    rw [Bool.eq_iff_iff, expd_bit]
    exact ⟨fun ⟨a, b⟩ => h c a b, fun b => ⟨hc, own_inside hc b⟩⟩
theorem cellsR_get {w : World} {v : Value} {l : List Rl} (h : Sl w v l.length 3 (cellsR l)) (h0 : l.length ≠ 0) : ∃ g off cap, v = .slice (some ⟨g, off, none⟩) l.length cap ∧ ∀ (k : Nat) (r : Rl), l[k]? = some r →
    w.cell? ⟨g, off + k * 3, none⟩ = some (.int .i64 r.i) ∧ w.cell? ⟨g, off + k * 3 + 1, none⟩ = some (.int .i64 r.j) ∧ w.cell? ⟨g, off + k * 3 + 2, none⟩ = some (.int .i64 r.s) := by
  obtain ⟨g, off, cap, rfl, hc⟩ := h.open h0
  refine ⟨g, off, cap, rfl, fun k r hr => ?_⟩
  obtain ⟨h1, h2, h3⟩ := cellsR_at l k r hr
  exact ⟨hc _ _ h1, hc _ _ h2, hc _ _ h3⟩
theorem chL_ps {w : World} {g : Nat} (h : w.heap[g]? = some (.cells chL 48 (0, 0))) : Ps w (.slice (some ⟨g, 0, none⟩) 2 2) [(-4398046511104, 0), (1, 4398046511104)] := by
  refine ⟨Sl.mk rfl (fun j u hu => ?_), by decide⟩
  rw [Nat.zero_add, cell_of_row _ _ j _ _ _ h, ← Array.getElem?_toList]
  exact hu
theorem cellsC_at : ∀ (l : List Cc) (k : Nat) (c : Cc), l[k]? = some c → (cellsC l)[k * 3]? = some (.int .i64 c.1.1) ∧ (cellsC l)[k * 3 + 1]? = some (.int .i64 c.1.2) ∧ (cellsC l)[k * 3 + 2]? = some (.slice (some ⟨c.2, 0, none⟩) 2 2)
  | [], k, c, h => by simp at h
  | q :: l, 0, c, h => by
    simp at h; subst h
    exact ⟨rfl, rfl, rfl⟩
  | q :: l, k + 1, c, h => by
    have := cellsC_at l k c (by simpa using h)
    have e : cellsC (q :: l) = .int .i64 q.1.1 :: .int .i64 q.1.2 :: .slice (some ⟨q.2, 0, none⟩) 2 2 :: cellsC l := rfl
    rw [e, show (k + 1) * 3 = k * 3 + 3 by omega]
    exact this
/-- The slice v holds choices with these ends. -/
def Chs (w : World) (v : Value) (l : List (Int × Int)) : Prop := ∃ cs : List Cc, cs.map (·.1) = l ∧ Sl w v l.length 3 (cellsC cs) ∧ ∀ c ∈ cs, w.heap[c.2]? = some (.cells chL 48 (0, 0))
theorem Chs.below {w w' : World} {v : Value} {l : List (Int × Int)} (h : Chs w v l) (hb : Below w.heap.size w w') : Chs w' v l := by
  obtain ⟨cs, h1, h2, h3⟩ := h
  exact ⟨cs, h1, h2.below hb, fun c hc => (hb.block _ (Array.getElem?_eq_some_iff.1 (h3 c hc)).1).trans (h3 c hc)⟩
theorem Chs.form {w : World} {v : Value} {l : List (Int × Int)} (h : Chs w v l) : ∃ a c, v = .slice a l.length c := by
  obtain ⟨cs, h1, h2, h3⟩ := h
  exact h2.form
theorem Chs.get {w : World} {v : Value} {l : List (Int × Int)} (h : Chs w v l) (h0 : l.length ≠ 0) : ∃ g off cap, v = .slice (some ⟨g, off, none⟩) l.length cap ∧ ∀ (k : Nat) (p : Int × Int), l[k]? = some p → ∃ b,
    w.cell? ⟨g, off + k * 3, none⟩ = some (.int .i64 p.1) ∧ w.cell? ⟨g, off + k * 3 + 1, none⟩ = some (.int .i64 p.2) ∧ w.cell? ⟨g, off + k * 3 + 2, none⟩ = some (.slice (some ⟨b, 0, none⟩) 2 2) ∧ w.heap[b]? = some (.cells chL 48 (0, 0)) := by
  obtain ⟨cs, h1, h2, h3⟩ := h
  obtain ⟨g, off, cap, rfl, hc⟩ := h2.open h0
  refine ⟨g, off, cap, rfl, fun k p hp => ?_⟩
  rw [← h1, List.getElem?_map] at hp
  obtain ⟨c, hc1, rfl⟩ := Option.map_eq_some_iff.1 hp
  obtain ⟨e1, e2, e3⟩ := cellsC_at cs k c hc1
  exact ⟨c.2, hc _ _ e1, hc _ _ e2, hc _ _ e3, h3 c (List.mem_of_getElem? hc1)⟩
def ptX (l : List Rl) : Int := if l.any (fun r => r.s == 0) = true then 17 else if (l.any fun r => !expr r) = true then 18 else 0
def ptB (n : Nat) (l : List Rl) : List Rl := if ptX l = 0 then allB n l else []
def ptC (l : List Rl) : List (Int × Int) := if ptX l = 0 then allC l else []
theorem PtE.flat {n : Nat} {l : List Rl} {w w' : World} {e : Ending} (h : PtE n l w e w') : ∃ v7 v9, e = .returned (.tuple #[v7, v9, .int .i64 (ptX l)]) ∧ Below w.heap.size w w' ∧ Sl w' v7 (ptB n l).length 3 (cellsR (ptB n l)) ∧ Chs w' v9 (ptC l) := by
  obtain ⟨hb, ⟨h1, rfl⟩ | ⟨h1, h2, rfl⟩ | ⟨h1, h2, v7, v9, rfl, hB, hC⟩⟩ := h
  · have e0 : ptX l = 17 := by unfold ptX; rw [if_pos h1]
    refine ⟨_, _, by rw [e0], hb, ?_, ?_⟩
    · unfold ptB; rw [e0, if_neg (by decide)]; exact Sl.mk0 _ _ _ _
    · unfold ptC; rw [e0, if_neg (by decide)]; exact ⟨[], rfl, Sl.mk0 _ _ _ _, nofun⟩
  · have e0 : ptX l = 18 := by unfold ptX; rw [if_neg (by rw [h1]; simp), if_pos h2]
    refine ⟨_, _, by rw [e0], hb, ?_, ?_⟩
    · unfold ptB; rw [e0, if_neg (by decide)]; exact Sl.mk0 _ _ _ _
    · unfold ptC; rw [e0, if_neg (by decide)]; exact ⟨[], rfl, Sl.mk0 _ _ _ _, nofun⟩
  · have e0 : ptX l = 0 := by unfold ptX; rw [if_neg (by rw [h1]; simp), if_neg (by rw [h2]; simp)]
    refine ⟨v7, v9, by rw [e0], hb, ?_, ?_⟩
    · unfold ptB; rw [if_pos e0]; exact Sl.of_owns hB.1
    · unfold ptC
      rw [if_pos e0]
      obtain ⟨cs, g1, g2, g3, g4⟩ := hC
      exact ⟨cs, g1, by have := Sl.of_owns g2; rwa [show cs.length = (allC l).length by rw [← g1, List.length_map]] at this, g4⟩
theorem ptB_len (n : Nat) (l : List Rl) (hn : n ≤ 8) (hl : l.length ≤ 200) : (ptB n l).length ≤ 1000000 := by
  unfold ptB
  split
  · have := allB_len n l 0 ⟨0, 0, 0⟩
    simp [rlB] at this
    omega
  · simp
theorem ptC_len (l : List Rl) (hl : l.length ≤ 200) : (ptC l).length ≤ 1000000 := by
  unfold ptC
  split
  · have := allC_len l 0 ⟨0, 0, 0⟩
    simp [rlC] at this
    omega
  · simp
end Go.Proofs.Ytoadihclmnjjnaa.Nw
