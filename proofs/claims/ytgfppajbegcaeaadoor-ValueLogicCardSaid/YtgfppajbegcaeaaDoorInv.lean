/-
  A region that draws its order, by an invariant: whatever comes up next, the invariant is kept; one operation comes last (nothing of the program).
-/
import Derived.OrdersHeld
import Derived.Deep.RegionHeld
namespace Go.Proofs.YtgfppajbegcaeaaDoor.Inv
open Go

variable {P : Program} {ops : Array Oper} {Q : Exit → Act → World → Prop} {md : Region.Mode} {S : World → Prop}

/-- How many are still to come. -/
def cnt (l : Array Bool) : Nat := (l.toList.filter (!·)).length
theorem cntL_set : ∀ (l : List Bool) (i : Nat), l[i]? = some false → ((l.set i true).filter (!·)).length + 1 = (l.filter (!·)).length
  | [], i, h => by simp at h
  | b :: l, 0, h => by
    simp at h
    subst h
    simp
  | b :: l, i + 1, h => by
    have ih := cntL_set l i (by simpa using h)
    rw [List.set_cons_succ, List.filter_cons, List.filter_cons]
    cases b <;> simp <;> omega
theorem cnt_set (l : Array Bool) (i : Nat) (h : l.getD i true = false) : cnt (l.setIfInBounds i true) + 1 = cnt l := by
  have h1 : l.toList[i]? = some false := by
    rw [Array.getElem?_toList]
    rcases Nat.lt_or_ge i l.size with hl | hl
    · rw [Array.getElem?_eq_getElem hl]
      simp [hl] at h
      rw [h]
    · simp [hl] at h
  unfold cnt
  rw [Array.toList_setIfInBounds]
  exact cntL_set _ _ h1
theorem cnt_pos (l : Array Bool) (i : Nat) (h : l.getD i true = false) : 1 ≤ cnt l := by have := cnt_set l i h; omega
/-- What an operation waits for has come up. -/
theorem dep {l : Array Bool} {i j : Nat} (h : i ∈ Region.ready md ops l) (hj : ((ops[i]?).map fun o => o.after.any fun e => Region.binds md e && e.on == j) = some true) : l.getD j false = true := by
  obtain ⟨_, o, ho, hall⟩ := mem_ready.1 h
  rw [ho] at hj
  simp only [Option.map_some, Option.some.injEq, Array.any_eq_true] at hj
  obtain ⟨k, hk, hb⟩ := hj
  rw [Bool.and_eq_true, beq_iff_eq] at hb
  have := hall o.after[k] (Array.getElem_mem hk) hb.1
  rw [hb.2] at this
  exact this
theorem ready_not {l : Array Bool} {i : Nat} (h : i ∈ Region.ready md ops l) : l.getD i true = false := (mem_ready.1 h).1
/-- Edges lead back. -/
def back (md : Region.Mode) (ops : Array Oper) : Bool := (List.range ops.size).all fun i => ((ops[i]?).map fun o => o.after.all fun e => !Region.binds md e || decide (e.on < i)).getD true
theorem ready_some (hb : back md ops = true) (l : Array Bool) (hs : l.size = ops.size) (i : Nat) (h : l.getD i true = false) : Region.ready md ops l ≠ [] := by
  induction i using Nat.strongRecOn with
  | _ i ih =>
    by_cases hex : ∃ j, j < i ∧ l.getD j true = false
    · obtain ⟨j, hj, hl⟩ := hex
      exact ih j hj hl
    · have hi : i < ops.size := by
        rcases Nat.lt_or_ge i l.size with hl | hl
        · omega
        · simp [hl] at h
      have hm : i ∈ Region.ready md ops l := by
        refine mem_ready.2 ⟨h, ops[i], Array.getElem?_eq_getElem hi, fun e he hbe => ?_⟩
        have h1 := List.all_eq_true.1 hb i (List.mem_range.2 hi)
        rw [Array.getElem?_eq_getElem hi] at h1
        simp only [Option.map_some, Option.getD_some] at h1
        have h2 := Array.all_eq_true'.1 h1 e he
        rw [hbe] at h2
        simp at h2
        have hon : e.on < l.size := by omega
        cases hq : l.getD e.on true with
        | false => exact absurd ⟨e.on, h2, hq⟩ hex
        | true =>
          simp [hon] at hq ⊢
          exact hq
      intro h0
      rw [h0] at hm
      cases hm
theorem wpAnyH_inv {last : Nat} (I : Array Bool → Act → World → Prop) (hb : back md ops = true) (hsz : ∀ l a w, I l a w → l.size = ops.size) (hlast : ∀ l a w, I l a w → l.getD last true = false)
    (step : ∀ l a w i, I l a w → i ∈ Region.ready md ops l → i ≠ last → wpOp P ops Q i (fun a' w' => S w' ∧ I (l.setIfInBounds i true) a' w') a w)
    (fin : ∀ fuel l a w, I l a w → cnt l ≤ fuel + 1 → last ∈ Region.ready md ops l → wpOp P ops Q last (fun a' w' => S w' ∧ wpAnyH P md ops Q S fuel (l.setIfInBounds last true) a' w') a w) :
    ∀ fuel l a w, I l a w → cnt l ≤ fuel → wpAnyH P md ops Q S fuel l a w := by
  intro fuel
  induction fuel with
  | zero =>
    intro l a w hI hc
    have := cnt_pos l last (hlast l a w hI)
    omega
  | succ fuel ih =>
    intro l a w hI hc
    refine ⟨fun h => absurd h (ready_some hb l (hsz l a w hI) last (hlast l a w hI)), fun i hi => ?_⟩
    by_cases hl : i = last
    · subst hl
      exact fin fuel l a w hI hc hi
    · refine wpOp_mono (fun a' w' h => ⟨h.1, ih _ _ _ h.2 ?_⟩) (step l a w i hI hi hl)
      have := cnt_set l i (ready_not hi)
      omega
end Go.Proofs.YtgfppajbegcaeaaDoor.Inv
