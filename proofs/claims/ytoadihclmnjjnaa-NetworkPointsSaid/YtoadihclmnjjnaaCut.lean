/-
  A region that draws its order, cut in two: the first operations quiet, the others, each of which waits for the last of the first, whatever they are (plain lemmas; nothing of the program).
-/
import Derived.Test.YtoadihclmnjjnaaLast
import Derived.OrdersHeld
set_option linter.unusedSimpArgs false
set_option linter.unusedVariables false
namespace Go.Proofs.Ytoadihclmnjjnaa.Lst
open Go Go.RowKit Go.Sort

theorem getD_app_lt (L F : Array Bool) (d : Bool) (i : Nat) (h : i < L.size) : (L ++ F).getD i d = L.getD i d := by
  rw [Array.getD_eq_getD_getElem?, Array.getD_eq_getD_getElem?, Array.getElem?_append_left h]
theorem set_app (L F : Array Bool) (v : Bool) (i : Nat) (h : i < L.size) : (L ++ F).setIfInBounds i v = L.setIfInBounds i v ++ F := by
  apply Array.ext
  · simp
  · intro j h1 h2
    have hs : (L ++ F).size = L.size + F.size := Array.size_append
    rw [Array.getElem_setIfInBounds (by simpa using h1)]
    by_cases hj : j < L.size
    · rw [Array.getElem_append_left hj, Array.getElem_append_left (by simpa using hj), Array.getElem_setIfInBounds (by simpa using hj)]
    · rw [if_neg (by omega), Array.getElem_append_right (by omega), Array.getElem_append_right (by simp; omega)]
      simp

/-- Each of r waits for the last of l. -/
def RestB (l r : Array Oper) : Prop := ∀ (k : Nat) (o : Oper), r[k]? = some o → ∃ e ∈ o.after, Region.binds .any e = true ∧ e.on = l.size - 1

theorem ready_app {l r : Array Oper} {o : Oper} (hB : lastB l o = true) (ho : ∀ e ∈ o.after, e.on = l.size - 1) (hr : RestB l r) (L : Array Bool) (hL : L.size = l.size) (inv : Inv l L) (hrest : ∃ i, i < l.size ∧ L.getD i true = false) :
    Region.ready .any (l ++ r) (L ++ Array.replicate r.size false) = Region.ready .any l L := by
  obtain ⟨i, hi, hf⟩ := hrest
  obtain ⟨e, he, hb, hlt, hun⟩ := last_waits hB L hL inv _ i rfl hi hf
  rw [ho e he] at hun
  unfold Region.ready
  rw [Array.size_append, List.range_add, List.filter_append]
  rw [show (List.filter _ ((List.range r.size).map fun x => l.size + x)) = [] from ?_, List.append_nil]
  · refine List.filter_congr fun i hi => ?_
    have hi := List.mem_range.1 hi
    obtain ⟨_, _, h3⟩ := lastB_spec hB
    have hg : (l ++ r)[i]? = l[i]? := Array.getElem?_append_left hi
    rw [getD_app_lt _ _ _ _ (by omega), hg]
    congr 1
    cases hp : l[i]? with
    | none => rfl
    | some p =>
      simp only [Option.map_some, Option.getD_some]
      rw [Bool.eq_iff_iff, Array.all_eq_true_iff_forall_mem, Array.all_eq_true_iff_forall_mem]
      have h4 := (h3 i p hp).1
      constructor
      · intro h e he
        have := h e he
        cases hb : Region.binds .any e
        · rfl
        · rw [hb] at this
          rwa [getD_app_lt _ _ _ _ (by have := h4 e he hb; omega)] at this
      · intro h e he
        have := h e he
        cases hb : Region.binds .any e
        · rfl
        · rw [hb] at this
          rw [getD_app_lt _ _ _ _ (by have := h4 e he hb; omega)]
          exact this
  · refine List.filter_eq_nil_iff.2 fun j hj => ?_
    obtain ⟨k, hk, rfl⟩ := List.mem_map.1 hj
    have hk := List.mem_range.1 hk
    have hg : (l ++ r)[l.size + k]? = some r[k] := by
      rw [Array.getElem?_append_right (by omega), show l.size + k - l.size = k by omega, Array.getElem?_eq_getElem hk]
    obtain ⟨e2, he2, hb2, hon⟩ := hr k r[k] (Array.getElem?_eq_getElem hk)
    rw [hg]
    simp only [Option.map_some, Option.getD_some, Bool.and_eq_true, not_and]
    intro _ hall
    have := (Array.all_eq_true_iff_forall_mem.1 hall) e2 he2
    rw [hb2, hon, getD_app_lt _ _ _ _ (by omega), getD_any (by omega) false true, hun] at this
    cases this

theorem wpOp_app {P : Program} {l r : Array Oper} {o : Oper} {Q Q' : Exit → Act → World → Prop} (hB : lastB l o = true) (hQ : ∀ e a w, e ≠ .normal → Q' e a w → Q e a w) {i : Nat} (hi : i < l.size) {K : Act → World → Prop} {a : Act} {w : World}
    (h : wpOp P l Q' i K a w) : wpOp P (l ++ r) Q i K a w := by
  have hg : (l ++ r)[i]? = l[i]? := Array.getElem?_append_left hi
  unfold wpOp at *
  rw [hg]
  cases hp : l[i]? with
  | none => rw [hp] at h; exact h
  | some p =>
    rw [hp] at h
    have hgd : ∀ j b, p.guard = some (j, b) → j < l.size := ((lastB_spec hB).2.2 i p hp).2
    have hw : Region.wanted p (yielded (l ++ r) a.tmps) = Region.wanted p (yielded l a.tmps) := by
      unfold Region.wanted
      cases hgu : p.guard with
      | none => rfl
      | some jb =>
        obtain ⟨j, b⟩ := jb
        have := hgd j b hgu
        simp only [yielded, Array.getElem?_append_left this]
    simp only [hw]
    simp only at h
    split
    · rename_i hwt
      rw [if_pos hwt] at h
      refine h.imp (fun h1 => ?_) (fun h1 => ⟨h1.1, ?_⟩)
      · unfold Oper.wp at *
        generalize (execOp a.eval p).run P w = r at *
        cases r with
        | ok n w' =>
          cases n <;> simp only [Oper.upon] at h1 ⊢ <;> try exact h1
          refine Calls.mono h1 fun e w'' he => ?_
          cases e with
          | returned u => exact he
          | panicked c => exact hQ _ _ _ (by simp) he
          | outgrown => obtain ⟨a2, w2, h2⟩ := he; exact ⟨a2, w2, hQ _ _ _ (by simp) h2⟩
        | halt x w' =>
          cases x <;> simp only [Oper.upon] at h1 ⊢ <;> try exact h1
          exact hQ _ _ _ (by simp) h1
      · obtain ⟨a2, w2, h2⟩ := h1.2; exact ⟨a2, w2, hQ _ _ _ (by simp) h2⟩
    · rename_i hwt
      rw [if_neg hwt] at h
      exact h

theorem wpAny_more {P : Program} {ops : Array Oper} {Q : Exit → Act → World → Prop} : ∀ (fuel : Nat) (L : Array Bool) (a : Act) (w : World), wpAny P .any ops Q fuel L a w → wpAny P .any ops Q (fuel + 1) L a w
  | 0, L, a, w, h => ⟨fun _ => h.2, fun i hi => by rw [h.1] at hi; cases hi⟩
  | fuel + 1, L, a, w, h => ⟨h.1, fun i hi => wpOp_mono (fun a' w' h' => wpAny_more fuel _ a' w' h') (h.2 i hi)⟩
theorem wpAny_add {P : Program} {ops : Array Oper} {Q : Exit → Act → World → Prop} {fuel : Nat} {L : Array Bool} {a : Act} {w : World} (h : wpAny P .any ops Q fuel L a w) : ∀ k, wpAny P .any ops Q (k + fuel) L a w
  | 0 => by rw [Nat.zero_add]; exact h
  | k + 1 => by rw [Nat.succ_add]; exact wpAny_more _ _ _ _ (wpAny_add h k)

/-- What is asked behind l: the rest. -/
def thenRest (P : Program) (l r : Array Oper) (Q : Exit → Act → World → Prop) : Exit → Act → World → Prop
  | .normal, a, w => wpAny P .any (l ++ r) Q r.size (Array.replicate l.size true ++ Array.replicate r.size false) a w
  | e, a, w => Q e a w

theorem wpAny_app {P : Program} {l r : Array Oper} {o : Oper} {Q : Exit → Act → World → Prop} (hB : lastB l o = true) (ho : ∀ e ∈ o.after, e.on = l.size - 1) (hr : RestB l r) : ∀ (fuel : Nat) (L : Array Bool) (a : Act) (w : World), L.size = l.size → Inv l L →
    wpAny P .any l (thenRest P l r Q) fuel L a w → wpAny P .any (l ++ r) Q (fuel + r.size) (L ++ Array.replicate r.size false) a w := by
  have hQ : ∀ e a w, e ≠ .normal → thenRest P l r Q e a w → Q e a w := by
    intro e a w he h
    cases e <;> first | exact absurd rfl he | exact h
  have fin : ∀ (fuel : Nat) (L : Array Bool) (a : Act) (w : World), L.size = l.size → (∀ i, i < l.size → L.getD i true = true) → thenRest P l r Q .normal a w → wpAny P .any (l ++ r) Q (fuel + r.size) (L ++ Array.replicate r.size false) a w := by
    intro fuel L a w hL hall h
    have e : L = Array.replicate l.size true := by
      apply Array.ext
      · simp [hL]
      · intro i h1 h2
        have := hall i (by omega)
        rw [Array.getD_eq_getD_getElem?, Array.getElem?_eq_getElem h1] at this
        simpa using this
    rw [e]
    exact wpAny_add h fuel
  intro fuel
  induction fuel with
  | zero =>
    intro L a w hL inv h
    refine fin 0 L a w hL (fun i hi => ?_) h.2
    cases hc : L.getD i true with
    | true => rfl
    | false => exact absurd h.1 (ready_nonempty hB L hL i hi hc)
  | succ f ih =>
    intro L a w hL inv h
    by_cases hall : ∀ i, i < l.size → L.getD i true = true
    · exact fin (f + 1) L a w hL hall (h.1 (ready_last hB L hL hall).1)
    · simp only [Classical.not_forall, Bool.not_eq_true] at hall
      obtain ⟨i, hi, hf⟩ := hall
      have hrd := ready_app hB ho hr L hL inv ⟨i, hi, hf⟩
      have hne := ready_nonempty hB L hL i hi hf
      rw [Nat.succ_add]
      refine ⟨fun h0 => absurd (hrd ▸ h0) hne, fun j hj => ?_⟩
      rw [hrd] at hj
      have hjl := ready_lt hj
      refine wpOp_mono (fun a' w' h' => ?_) (wpOp_app hB hQ hjl (h.2 j hj))
      rw [set_app _ _ _ _ (by omega)]
      exact ih _ a' w' (by simpa using hL) (inv.set hB hL hj) h'

/-- **A region that draws its order, cut behind its first n operations**: these quiet; each of the others waits for the n-th. -/
theorem wp_region_below_cut {P : Program} {id : Nat} {Q : Exit → Act → World → Prop} {a : Act} {w : World} {ops : List Oper} (n : Nat) (o : Oper) (hg : ops[n]? = some o) (hn : (ops.take n).length = n) (hm : P.follows .mixedOrders = true) (hB : Region.lexB .any (ops.take n).toArray = true) (hl : lastB (ops.take n).toArray o = true)
    (ho : (o.after.all fun e => e.on == n - 1) = true) (hr : ((ops.drop n).all fun o => o.after.any fun e => Region.binds .any e && e.on == n - 1) = true)
    (h : wpQuiet P (ops.take n).toArray (fun w' => ∃ p : Regrown, w' = grow (redrawn w p.d) p.os) (fun a' => ∀ w', Below w.heap.size w w' → wpAny P .any ops.toArray Q (ops.drop n).length (Array.replicate n true ++ Array.replicate (ops.drop n).length false) a' w') (ops.take n) a) : (Code.region id ops.toArray true).wp P Q a w := by
  have hp : ops.toArray = (ops.take n).toArray ++ (ops.drop n).toArray := by rw [List.append_toArray, List.take_append_drop]
  have hsz : (ops.take n).toArray.size = n := by simpa using hn
  have hsr : (ops.drop n).toArray.size = (ops.drop n).length := by simp
  refine wp_region_any hm ?_
  rw [hp]
  have hrep : Array.replicate ((ops.take n).toArray ++ (ops.drop n).toArray).size false = Array.replicate (ops.take n).toArray.size false ++ Array.replicate (ops.drop n).toArray.size false := by
    rw [Array.size_append, ← Array.replicate_append_replicate]
  rw [hrep, Array.size_append]
  refine wpAny_app hl (fun e he => ?_) (fun k q hq => ?_) _ _ _ _ (by simp) ?_ ?_
  · rw [hsz]
    have := (Array.all_eq_true_iff_forall_mem.1 ho) e he
    simpa using this
  · rw [hsz]
    have hq2 : q ∈ ops.drop n := List.mem_of_getElem? (i := k) (by simpa using hq)
    have := List.all_eq_true.1 hr q hq2
    rw [Array.any_eq_true] at this
    obtain ⟨j, hj, he⟩ := this
    simp only [Bool.and_eq_true, beq_iff_eq] at he
    exact ⟨_, Array.getElem_mem hj, he.1, he.2⟩
  · intro j p hp hj
    have hj2 := (Array.getElem?_eq_some_iff.1 hp).1
    simp [Array.getD, hj2] at hj
    simp at hj2
    omega
  simp only [Region.lexB, Bool.and_eq_true] at hB
  refine wpAny_of_quiet (C := fun w' => ∃ p : Regrown, w' = grow (redrawn w p.d) p.os) (Q := fun a' => ∀ w', Below w.heap.size w w' → wpAny P .any ops.toArray Q (ops.drop n).length (Array.replicate n true ++ Array.replicate (ops.drop n).length false) a' w') (fun a' w' hw' h' => ?_) _ _ _ _ ⟨⟨w.drawn + 1, #[]⟩, by rw [grow_empty]; rfl⟩ ?_
  · obtain ⟨p, rfl⟩ := hw'
    have := h' _ (below_regrown w p.d p.os)
    show wpAny P .any _ Q _ _ _ _
    rw [hsz, hsr, ← hp]
    exact this
  · have := wpAnyQ_lex (C := fun w' => ∃ p : Regrown, w' = grow (redrawn w p.d) p.os) (md := .any) hB.1 (ops.take n) 0 (Array.replicate (ops.take n).toArray.size false) a (by simp) (by simpa using hB.2) h
    simpa using this
theorem getD_app_ge (L : Array Bool) (m i : Nat) (h : L.size ≤ i) : (L ++ Array.replicate m false).getD i false = false := by
  rw [Array.getD_eq_getD_getElem?, Array.getElem?_append_right h, Array.getElem?_replicate]
  split <;> rfl
/-- Each of r but the first waits for one of r. -/
def RestC (l r : Array Oper) : Prop := ∀ (k : Nat) (o : Oper), 0 < k → r[k]? = some o → ∃ e ∈ o.after, Region.binds .any e = true ∧ l.size ≤ e.on
theorem ready_app2 {l r : Array Oper} {o : Oper} (hB : lastB l o = true) (hr0 : r[0]? = some o) (hr : RestC l r) (L : Array Bool) (hL : L.size = l.size) (inv : Inv l L) (hrest : ∃ i, i < l.size ∧ L.getD i true = false) :
    Region.ready .any (l ++ r) (L ++ Array.replicate r.size false) = Region.ready .any l L := by
  obtain ⟨i, hi, hf⟩ := hrest
  obtain ⟨e, he, hb, hlt, hun⟩ := last_waits hB L hL inv _ i rfl hi hf
  unfold Region.ready
  rw [Array.size_append, List.range_add, List.filter_append]
  rw [show (List.filter _ ((List.range r.size).map fun x => l.size + x)) = [] from ?_, List.append_nil]
  · refine List.filter_congr fun i hi => ?_
    have hi := List.mem_range.1 hi
    obtain ⟨_, _, h3⟩ := lastB_spec hB
    have hg : (l ++ r)[i]? = l[i]? := Array.getElem?_append_left hi
    rw [getD_app_lt _ _ _ _ (by omega), hg]
    congr 1
    cases hp : l[i]? with
    | none => rfl
    | some p =>
      simp only [Option.map_some, Option.getD_some]
      rw [Bool.eq_iff_iff, Array.all_eq_true_iff_forall_mem, Array.all_eq_true_iff_forall_mem]
      have h4 := (h3 i p hp).1
      constructor
      · intro h e he
        have := h e he
        cases hb : Region.binds .any e
        · rfl
        · rw [hb] at this
          rwa [getD_app_lt _ _ _ _ (by have := h4 e he hb; omega)] at this
      · intro h e he
        have := h e he
        cases hb : Region.binds .any e
        · rfl
        · rw [hb] at this
          rw [getD_app_lt _ _ _ _ (by have := h4 e he hb; omega)]
          exact this
  · refine List.filter_eq_nil_iff.2 fun j hj => ?_
    obtain ⟨k, hk, rfl⟩ := List.mem_map.1 hj
    have hk := List.mem_range.1 hk
    have hg : (l ++ r)[l.size + k]? = some r[k] := by
      rw [Array.getElem?_append_right (by omega), show l.size + k - l.size = k by omega, Array.getElem?_eq_getElem hk]
    rw [hg]
    simp only [Option.map_some, Option.getD_some, Bool.and_eq_true, not_and]
    intro _ hall
    by_cases hk0 : k = 0
    · subst hk0
      have hro : r[0] = o := by
        have := Array.getElem?_eq_getElem hk
        rw [hr0] at this
        exact (Option.some.inj this).symm
      have := (Array.all_eq_true_iff_forall_mem.1 hall) e (by rw [hro]; exact he)
      rw [hb, getD_app_lt _ _ _ _ (by omega), getD_any (by omega) false true, hun] at this
      cases this
    · obtain ⟨e2, he2, hb2, hon⟩ := hr k r[k] (by omega) (Array.getElem?_eq_getElem hk)
      have := (Array.all_eq_true_iff_forall_mem.1 hall) e2 he2
      rw [hb2, getD_app_ge _ _ _ (by omega)] at this
      cases this

theorem wpAny_app2 {P : Program} {l r : Array Oper} {o : Oper} {Q : Exit → Act → World → Prop} (hB : lastB l o = true) (hr0 : r[0]? = some o) (hr : RestC l r) : ∀ (fuel : Nat) (L : Array Bool) (a : Act) (w : World), L.size = l.size → Inv l L →
    wpAny P .any l (thenRest P l r Q) fuel L a w → wpAny P .any (l ++ r) Q (fuel + r.size) (L ++ Array.replicate r.size false) a w := by
  have hQ : ∀ e a w, e ≠ .normal → thenRest P l r Q e a w → Q e a w := by
    intro e a w he h
    cases e <;> first | exact absurd rfl he | exact h
  have fin : ∀ (fuel : Nat) (L : Array Bool) (a : Act) (w : World), L.size = l.size → (∀ i, i < l.size → L.getD i true = true) → thenRest P l r Q .normal a w → wpAny P .any (l ++ r) Q (fuel + r.size) (L ++ Array.replicate r.size false) a w := by
    intro fuel L a w hL hall h
    have e : L = Array.replicate l.size true := by
      apply Array.ext
      · simp [hL]
      · intro i h1 h2
        have := hall i (by omega)
        rw [Array.getD_eq_getD_getElem?, Array.getElem?_eq_getElem h1] at this
        simpa using this
    rw [e]
    exact wpAny_add h fuel
  intro fuel
  induction fuel with
  | zero =>
    intro L a w hL inv h
    refine fin 0 L a w hL (fun i hi => ?_) h.2
    cases hc : L.getD i true with
    | true => rfl
    | false => exact absurd h.1 (ready_nonempty hB L hL i hi hc)
  | succ f ih =>
    intro L a w hL inv h
    by_cases hall : ∀ i, i < l.size → L.getD i true = true
    · exact fin (f + 1) L a w hL hall (h.1 (ready_last hB L hL hall).1)
    · simp only [Classical.not_forall, Bool.not_eq_true] at hall
      obtain ⟨i, hi, hf⟩ := hall
      have hrd := ready_app2 hB hr0 hr L hL inv ⟨i, hi, hf⟩
      have hne := ready_nonempty hB L hL i hi hf
      rw [Nat.succ_add]
      refine ⟨fun h0 => absurd (hrd ▸ h0) hne, fun j hj => ?_⟩
      rw [hrd] at hj
      have hjl := ready_lt hj
      refine wpOp_mono (fun a' w' h' => ?_) (wpOp_app hB hQ hjl (h.2 j hj))
      rw [set_app _ _ _ _ (by omega)]
      exact ih _ a' w' (by simpa using hL) (inv.set hB hL hj) h'

/-- **A region that draws its order, cut behind its first n operations**: these quiet; the next waits for all of them, each of the others for one behind them. -/
theorem wp_region_below_cut2 {P : Program} {id : Nat} {Q : Exit → Act → World → Prop} {a : Act} {w : World} {ops : List Oper} (n : Nat) (o : Oper) (hg : ops[n]? = some o) (hn : (ops.take n).length = n) (hm : P.follows .mixedOrders = true) (hB : Region.lexB .any (ops.take n).toArray = true) (hl : lastB (ops.take n).toArray o = true)
    (hr : ((List.range (ops.drop n).length).all fun k => k == 0 || (match (ops.drop n)[k]? with | none => true | some p => p.after.any fun e => Region.binds .any e && decide (n ≤ e.on))) = true)
    (h : wpQuiet P (ops.take n).toArray (fun w' => ∃ p : Regrown, w' = grow (redrawn w p.d) p.os) (fun a' => ∀ w', Below w.heap.size w w' → wpAny P .any ops.toArray Q (ops.drop n).length (Array.replicate n true ++ Array.replicate (ops.drop n).length false) a' w') (ops.take n) a) : (Code.region id ops.toArray true).wp P Q a w := by
  have hp : ops.toArray = (ops.take n).toArray ++ (ops.drop n).toArray := by rw [List.append_toArray, List.take_append_drop]
  have hsz : (ops.take n).toArray.size = n := by simpa using hn
  have hsr : (ops.drop n).toArray.size = (ops.drop n).length := by simp
  refine wp_region_any hm ?_
  rw [hp]
  have hrep : Array.replicate ((ops.take n).toArray ++ (ops.drop n).toArray).size false = Array.replicate (ops.take n).toArray.size false ++ Array.replicate (ops.drop n).toArray.size false := by
    rw [Array.size_append, ← Array.replicate_append_replicate]
  rw [hrep, Array.size_append]
  refine wpAny_app2 hl ?_ (fun k q hk hq => ?_) _ _ _ _ (by simp) ?_ ?_
  · simpa using hg
  · rw [hsz]
    have hq2 : (ops.drop n)[k]? = some q := by simpa using hq
    have hkl := (List.getElem?_eq_some_iff.1 hq2).1
    have := List.all_eq_true.1 hr k (List.mem_range.2 hkl)
    rw [hq2] at this
    simp only [Bool.or_eq_true, beq_iff_eq] at this
    rcases this with h0 | h1
    · omega
    · rw [Array.any_eq_true] at h1
      obtain ⟨j, hj, he⟩ := h1
      simp only [Bool.and_eq_true, decide_eq_true_eq] at he
      exact ⟨_, Array.getElem_mem hj, he.1, he.2⟩
  · intro j p hp hj
    have hj2 := (Array.getElem?_eq_some_iff.1 hp).1
    simp [Array.getD, hj2] at hj
    simp at hj2
    omega
  simp only [Region.lexB, Bool.and_eq_true] at hB
  refine wpAny_of_quiet (C := fun w' => ∃ p : Regrown, w' = grow (redrawn w p.d) p.os) (Q := fun a' => ∀ w', Below w.heap.size w w' → wpAny P .any ops.toArray Q (ops.drop n).length (Array.replicate n true ++ Array.replicate (ops.drop n).length false) a' w') (fun a' w' hw' h' => ?_) _ _ _ _ ⟨⟨w.drawn + 1, #[]⟩, by rw [grow_empty]; rfl⟩ ?_
  · obtain ⟨p, rfl⟩ := hw'
    have := h' _ (below_regrown w p.d p.os)
    show wpAny P .any _ Q _ _ _ _
    rw [hsz, hsr, ← hp]
    exact this
  · have := wpAnyQ_lex (C := fun w' => ∃ p : Regrown, w' = grow (redrawn w p.d) p.os) (md := .any) hB.1 (ops.take n) 0 (Array.replicate (ops.take n).toArray.size false) a (by simp) (by simpa using hB.2) h
    simpa using this
end Go.Proofs.Ytoadihclmnjjnaa.Lst
