/-
  A region that draws its order and whose last operation waits for all others: the others quiet, the last one (a store, an append) whatever it is (plain lemmas; nothing of the program).
-/
import Derived.WalkKit
import Derived.Lib.QuietBelow
import Derived.Deep.QuietTactic
set_option linter.unusedSimpArgs false
set_option linter.unusedVariables false
namespace Go.Proofs.Ytoadihclmnjjnaa.Lst
open Go Go.RowKit Go.Sort

/-- The last operation waits for all of l; in l an operation waits for earlier ones alone, and its guard looks at l. -/
def lastB (l : Array Oper) (o : Oper) : Bool :=
  (List.range l.size).all (fun i => (o.after.any fun e => Region.binds .any e && e.on == i) || (List.range l.size).any fun j => match l[j]? with
    | none => false
    | some p => p.after.any fun e => Region.binds .any e && e.on == i) &&
  o.after.all (fun e => decide (e.on < l.size)) &&
  (List.range l.size).all (fun i => match l[i]? with
    | none => false
    | some p => (p.after.all fun e => !Region.binds .any e || decide (e.on < i)) && (match p.guard with | none => true | some (j, _) => decide (j < l.size)))

theorem getD_push_lt (L : Array Bool) (b d : Bool) (i : Nat) (h : i < L.size) : (L.push b).getD i d = L.getD i d := by
  simp [Array.getD, h, Nat.lt_succ_of_lt h, Array.getElem_push_lt h]
theorem getD_push_eq (L : Array Bool) (b d : Bool) : (L.push b).getD L.size d = b := by simp [Array.getD]
theorem set_push (L : Array Bool) (b v : Bool) (i : Nat) (h : i < L.size) : (L.push b).setIfInBounds i v = (L.setIfInBounds i v).push b := by
  apply Array.ext_getElem?
  intro j
  simp only [Array.getElem?_setIfInBounds, Array.getElem?_push, Array.size_push, Array.size_setIfInBounds]
  by_cases hij : i = j
  · subst hij; simp [h, Nat.lt_succ_of_lt h, Nat.ne_of_lt h]
  · simp [hij]

theorem ready_lt {l : Array Oper} {L : Array Bool} {i : Nat} (h : i ∈ Region.ready .any l L) : i < l.size := by
  unfold Region.ready at h
  exact List.mem_range.1 (List.mem_filter.1 h).1

theorem lastB_spec {l : Array Oper} {o : Oper} (hB : lastB l o = true) : (∀ i, i < l.size → (∃ e ∈ o.after, Region.binds .any e = true ∧ e.on = i) ∨ ∃ (j : Nat) (p : Oper), l[j]? = some p ∧ ∃ e ∈ p.after, Region.binds .any e = true ∧ e.on = i) ∧ (∀ e ∈ o.after, e.on < l.size) ∧
    (∀ (i : Nat) (p : Oper), l[i]? = some p → (∀ e ∈ p.after, Region.binds .any e = true → e.on < i) ∧ ∀ j b, p.guard = some (j, b) → j < l.size) := by
  unfold lastB at hB
  simp only [Bool.and_eq_true, List.all_eq_true, List.mem_range, Array.all_eq_true_iff_forall_mem, decide_eq_true_eq] at hB
  obtain ⟨⟨h1, h2⟩, h3⟩ := hB
  refine ⟨fun i hi => ?_, h2, fun i p hp => ?_⟩
  · have := h1 i hi
    rw [Bool.or_eq_true] at this
    rcases this with this | this
    · rw [Array.any_eq_true] at this
      obtain ⟨k, hk, he⟩ := this
      simp only [Bool.and_eq_true, beq_iff_eq] at he
      exact .inl ⟨_, Array.getElem_mem hk, he.1, he.2⟩
    · rw [List.any_eq_true] at this
      obtain ⟨j, _, hj⟩ := this
      cases hp : l[j]? with
      | none => rw [hp] at hj; cases hj
      | some p =>
        rw [hp] at hj
        simp only at hj
        rw [Array.any_eq_true] at hj
        obtain ⟨k, hk, he⟩ := hj
        simp only [Bool.and_eq_true, beq_iff_eq] at he
        exact .inr ⟨j, p, hp, _, Array.getElem_mem hk, he.1, he.2⟩
  · have hi : i < l.size := (Array.getElem?_eq_some_iff.1 hp).1
    have := h3 i hi
    rw [hp] at this
    simp only [Bool.and_eq_true, Array.all_eq_true_iff_forall_mem, decide_eq_true_eq] at this
    refine ⟨fun e he hb => (by have h := this.1 e he; simpa [hb] using h), fun j b hg => ?_⟩
    have h := this.2
    rw [hg] at h
    simpa using h

theorem getD_any {L : Array Bool} {i : Nat} (h : i < L.size) (d d' : Bool) : L.getD i d = L.getD i d' := by simp [Array.getD, h]

/-- The operations of l that may come up are the same ones. -/
theorem filter_push {l : Array Oper} {o : Oper} (hB : lastB l o = true) (L : Array Bool) (hL : L.size = l.size) :
    ((List.range l.size).filter fun i => !(L.push false).getD i true && (((l.push o)[i]?).map (·.after.all fun e => !Region.binds .any e || (L.push false).getD e.on false)).getD false) = Region.ready .any l L := by
  unfold Region.ready
  refine List.filter_congr fun i hi => ?_
  have hi := List.mem_range.1 hi
  obtain ⟨_, _, h3⟩ := lastB_spec hB
  have hg : (l.push o)[i]? = l[i]? := by rw [Array.getElem?_push, if_neg (by omega)]
  rw [getD_push_lt _ _ _ _ (by omega), hg]
  congr 1
  cases hp : l[i]? with
  | none => rfl
  | some p =>
    simp only [Option.map_some, Option.getD_some]
    rw [Bool.eq_iff_iff, Array.all_eq_true_iff_forall_mem, Array.all_eq_true_iff_forall_mem]
    have h4 := (h3 i p hp).1
    constructor
    · intro h e he
      have := h e he
      cases hb : Region.binds .any e
      · rfl
      · rw [hb] at this
        rwa [getD_push_lt _ _ _ _ (by have := h4 e he hb; omega)] at this
    · intro h e he
      have := h e he
      cases hb : Region.binds .any e
      · rfl
      · rw [hb] at this
        rw [getD_push_lt _ _ _ _ (by have := h4 e he hb; omega)]
        exact this
theorem ready_split {l : Array Oper} {o : Oper} (hB : lastB l o = true) (L : Array Bool) (hL : L.size = l.size) :
    Region.ready .any (l.push o) (L.push false) = Region.ready .any l L ++ (if (o.after.all fun e => !Region.binds .any e || (L.push false).getD e.on false) = true then [l.size] else []) := by
  rw [← filter_push hB L hL]
  conv => lhs; unfold Region.ready
  rw [Array.size_push, List.range_succ, List.filter_append]
  congr 1
  have hn : (L.push false).getD l.size true = false := by rw [← hL]; exact getD_push_eq _ _ _
  have hg : (l.push o)[l.size]? = some o := by simp
  rw [List.filter_cons, List.filter_nil, hn, hg]
  simp only [Bool.not_false, Bool.true_and, Option.map_some, Option.getD_some]

/-- What has come up has its grounds behind it. -/
def Inv (l : Array Oper) (L : Array Bool) : Prop := ∀ (j : Nat) (p : Oper), l[j]? = some p → L.getD j true = true → ∀ e ∈ p.after, Region.binds .any e = true → L.getD e.on false = true
theorem last_waits {l : Array Oper} {o : Oper} (hB : lastB l o = true) (L : Array Bool) (hL : L.size = l.size) (inv : Inv l L) : ∀ (d i : Nat), l.size - i = d → i < l.size → L.getD i true = false → ∃ e ∈ o.after, Region.binds .any e = true ∧ e.on < l.size ∧ L.getD e.on true = false := by
  intro d
  induction d using Nat.strongRecOn with
  | _ d ih =>
    intro i hd hi hf
    rcases (lastB_spec hB).1 i hi with ⟨e, he, hb, hon⟩ | ⟨j, p, hp, e, he, hb, hon⟩
    · exact ⟨e, he, hb, by omega, by rw [hon]; exact hf⟩
    · have hlt := ((lastB_spec hB).2.2 j p hp).1 e he hb
      have hj : j < l.size := (Array.getElem?_eq_some_iff.1 hp).1
      cases hc : L.getD j true with
      | true =>
        have := inv j p hp hc e he hb
        rw [hon, getD_any (by omega) false true, hf] at this
        cases this
      | false => exact ih (l.size - j) (by omega) j rfl hj hc
theorem Inv.set {l : Array Oper} {o : Oper} (hB : lastB l o = true) {L : Array Bool} (hL : L.size = l.size) (inv : Inv l L) {i : Nat} (hi : i ∈ Region.ready .any l L) : Inv l (L.setIfInBounds i true) := by
  have hil := ready_lt hi
  unfold Region.ready at hi
  have hm := (List.mem_filter.1 hi).2
  have key : ∀ k d, (L.setIfInBounds i true).getD k d = if i = k then true else L.getD k d := by
    intro k d
    rw [Array.getD_eq_getD_getElem?, Array.getD_eq_getD_getElem?, Array.getElem?_setIfInBounds]
    by_cases h : i = k
    · subst h; simp [hL, hil]
    · simp [h]
  intro j p hp hj e he hb
  have hlt := ((lastB_spec hB).2.2 j p hp).1 e he hb
  rw [key]
  split
  · rfl
  · rw [key] at hj
    by_cases hij : i = j
    · subst hij
      rw [hp] at hm
      simp only [Option.map_some, Option.getD_some, Bool.and_eq_true] at hm
      have := (Array.all_eq_true_iff_forall_mem.1 hm.2) e he
      simpa [hb] using this
    · rw [if_neg hij] at hj
      exact inv j p hp hj e he hb

/-- While something of l is left, the same operations may come up. -/
theorem ready_push {l : Array Oper} {o : Oper} (hB : lastB l o = true) (L : Array Bool) (hL : L.size = l.size) (inv : Inv l L) (hrest : ∃ i, i < l.size ∧ L.getD i true = false) : Region.ready .any (l.push o) (L.push false) = Region.ready .any l L := by
  obtain ⟨i, hi, hf⟩ := hrest
  obtain ⟨e, he, hb, hlt, hun⟩ := last_waits hB L hL inv _ i rfl hi hf
  rw [ready_split hB L hL, if_neg, List.append_nil]
  intro h
  have := (Array.all_eq_true_iff_forall_mem.1 h) e he
  rw [hb, getD_push_lt _ _ _ _ (by omega), getD_any (by omega) false true, hun] at this
  cases this
theorem ready_nonempty {l : Array Oper} {o : Oper} (hB : lastB l o = true) (L : Array Bool) (hL : L.size = l.size) : ∀ i, i < l.size → L.getD i true = false → Region.ready .any l L ≠ [] := by
  intro i
  induction i using Nat.strongRecOn with
  | _ i ih =>
    intro hi hf hr
    obtain ⟨p, hp⟩ : ∃ p, l[i]? = some p := ⟨l[i], by simp [hi]⟩
    have h4 := ((lastB_spec hB).2.2 i p hp).1
    by_cases hall : ∀ e ∈ p.after, Region.binds .any e = true → L.getD e.on false = true
    · have hm : i ∈ Region.ready .any l L := by
        unfold Region.ready
        refine List.mem_filter.2 ⟨List.mem_range.2 hi, ?_⟩
        rw [hf, hp]
        simp only [Bool.not_false, Bool.true_and, Option.map_some, Option.getD_some]
        rw [Array.all_eq_true_iff_forall_mem]
        intro e he
        cases hb : Region.binds .any e
        · rfl
        · rw [hall e he hb]; rfl
      rw [hr] at hm; cases hm
    · simp only [Classical.not_forall] at hall
      obtain ⟨e, he, hb, hn⟩ := hall
      have hlt := h4 e he hb
      exact ih e.on hlt (by omega) (by rw [getD_any (by omega) true false]; simpa using hn) hr
theorem ready_last {l : Array Oper} {o : Oper} (hB : lastB l o = true) (L : Array Bool) (hL : L.size = l.size) (hall : ∀ i, i < l.size → L.getD i true = true) : Region.ready .any l L = [] ∧ Region.ready .any (l.push o) (L.push false) = [l.size] := by
  have h0 : Region.ready .any l L = [] := by
    unfold Region.ready
    refine List.filter_eq_nil_iff.2 fun i hi => ?_
    rw [hall i (List.mem_range.1 hi)]
    simp
  refine ⟨h0, ?_⟩
  rw [ready_split hB L hL, h0, List.nil_append, if_pos]
  rw [Array.all_eq_true_iff_forall_mem]
  intro e he
  have := (lastB_spec hB).2.1 e he
  rw [getD_push_lt _ _ _ _ (by omega), getD_any (by omega) false true, hall _ this, Bool.or_true]
theorem ready_end {l : Array Oper} {o : Oper} (L : Array Bool) (hL : L.size = l.size) (hall : ∀ i, i < l.size → L.getD i true = true) : Region.ready .any (l.push o) ((L.push false).setIfInBounds l.size true) = [] := by
  unfold Region.ready
  refine List.filter_eq_nil_iff.2 fun i hi => ?_
  have hi := List.mem_range.1 hi
  rw [Array.size_push] at hi
  have : ((L.push false).setIfInBounds l.size true).getD i true = true := by
    rw [Array.getD_eq_getD_getElem?, Array.getElem?_setIfInBounds]
    by_cases h : i = l.size
    · subst h; simp [hL]
    · have h1 := hall i (by omega)
      rw [Array.getD_eq_getD_getElem?] at h1
      rw [if_neg (by omega), Array.getElem?_push, if_neg (by omega)]
      exact h1
  rw [this]
  simp

theorem wpOp_push {P : Program} {l : Array Oper} {o : Oper} {Q Q' : Exit → Act → World → Prop} (hB : lastB l o = true) (hQ : ∀ e a w, e ≠ .normal → Q' e a w → Q e a w) {i : Nat} (hi : i < l.size) {K : Act → World → Prop} {a : Act} {w : World}
    (h : wpOp P l Q' i K a w) : wpOp P (l.push o) Q i K a w := by
  have hg : (l.push o)[i]? = l[i]? := by rw [Array.getElem?_push, if_neg (by omega)]
  unfold wpOp at *
  rw [hg]
  cases hp : l[i]? with
  | none => rw [hp] at h; exact h
  | some p =>
    rw [hp] at h
    have hgd : ∀ j b, p.guard = some (j, b) → j < l.size := ((lastB_spec hB).2.2 i p hp).2
    have hw : Region.wanted p (yielded (l.push o) a.tmps) = Region.wanted p (yielded l a.tmps) := by
      unfold Region.wanted
      cases hgu : p.guard with
      | none => rfl
      | some jb =>
        obtain ⟨j, b⟩ := jb
        have := hgd j b hgu
        simp only [yielded, Array.getElem?_push, if_neg (by omega : ¬ j = l.size)]
    simp only [hw]
    simp only at h
    split
    · rename_i hwt
      rw [if_pos hwt] at h
      refine h.imp (fun h1 => ?_) (fun h1 => ⟨h1.1, ?_⟩)
      · unfold Oper.wp at *
        generalize (execOp a.eval p).run P w = r at *
        cases r with
        | ok n w' =>
          cases n <;> simp only [Oper.upon] at h1 ⊢ <;> try exact h1
          refine Calls.mono h1 fun e w'' he => ?_
          cases e with
          | returned u => exact he
          | panicked c => exact hQ _ _ _ (by simp) he
          | outgrown => obtain ⟨a2, w2, h2⟩ := he; exact ⟨a2, w2, hQ _ _ _ (by simp) h2⟩
        | halt x w' =>
          cases x <;> simp only [Oper.upon] at h1 ⊢ <;> try exact h1
          exact hQ _ _ _ (by simp) h1
      · obtain ⟨a2, w2, h2⟩ := h1.2; exact ⟨a2, w2, hQ _ _ _ (by simp) h2⟩
    · rename_i hwt
      rw [if_neg hwt] at h
      exact h

/-- What is asked behind l: the last operation. -/
def thenLast (P : Program) (l : Array Oper) (o : Oper) (Q : Exit → Act → World → Prop) : Exit → Act → World → Prop
  | .normal, a, w => wpOp P (l.push o) Q l.size (Q .normal) a w
  | e, a, w => Q e a w

theorem wpAny_push {P : Program} {l : Array Oper} {o : Oper} {Q : Exit → Act → World → Prop} (hB : lastB l o = true) : ∀ (fuel : Nat) (L : Array Bool) (a : Act) (w : World), L.size = l.size → Inv l L →
    wpAny P .any l (thenLast P l o Q) fuel L a w → wpAny P .any (l.push o) Q (fuel + 1) (L.push false) a w := by
  have hQ : ∀ e a w, e ≠ .normal → thenLast P l o Q e a w → Q e a w := by
    intro e a w he h
    cases e <;> first | exact absurd rfl he | exact h
  have fin : ∀ (fuel : Nat) (L : Array Bool) (a : Act) (w : World), L.size = l.size → (∀ i, i < l.size → L.getD i true = true) → thenLast P l o Q .normal a w → wpAny P .any (l.push o) Q (fuel + 1) (L.push false) a w := by
    intro fuel L a w hL hall h
    have hr := (ready_last hB L hL hall).2
    have he := ready_end (o := o) L hL hall
    refine ⟨fun h0 => (by rw [hr] at h0; cases h0), fun i hi => ?_⟩
    rw [hr, List.mem_singleton] at hi
    subst hi
    refine wpOp_mono (fun a' w' h' => ?_) h
    cases fuel with
    | zero => exact ⟨he, h'⟩
    | succ f => exact ⟨fun _ => h', fun i hi => by rw [he] at hi; cases hi⟩
  intro fuel
  induction fuel with
  | zero =>
    intro L a w hL inv h
    refine fin 0 L a w hL (fun i hi => ?_) h.2
    cases hc : L.getD i true with
    | true => rfl
    | false => exact absurd h.1 (ready_nonempty hB L hL i hi hc)
  | succ f ih =>
    intro L a w hL inv h
    by_cases hall : ∀ i, i < l.size → L.getD i true = true
    · exact fin (f + 1) L a w hL hall (h.1 (ready_last hB L hL hall).1)
    · simp only [Classical.not_forall, Bool.not_eq_true] at hall
      obtain ⟨i, hi, hf⟩ := hall
      have hr := ready_push hB L hL inv ⟨i, hi, hf⟩
      have hne := ready_nonempty hB L hL i hi hf
      refine ⟨fun h0 => absurd (hr ▸ h0) hne, fun j hj => ?_⟩
      rw [hr] at hj
      have hjl := ready_lt hj
      refine wpOp_mono (fun a' w' h' => ?_) (wpOp_push hB hQ hjl (h.2 j hj))
      rw [set_push _ _ _ _ (by omega)]
      exact ih _ a' w' (by simpa using hL) (inv.set hB hL hj) h'

theorem wpQuiet_mono {P : Program} {ops : Array Oper} {C : World → Prop} {K K' : Act → Prop} (h : ∀ a, K a → K' a) : ∀ (l : List Oper) (a : Act), wpQuiet P ops C K l a → wpQuiet P ops C K' l a
  | [], a, hh => h a hh
  | o :: l, a, hh => by
    unfold wpQuiet at *
    split
    · rename_i hw
      rw [if_pos hw] at hh
      exact Oper.quiet_mono (fun a' => wpQuiet_mono h l a') hh
    · rename_i hw
      rw [if_neg hw] at hh
      exact wpQuiet_mono h l _ hh

/-- **A region that draws its order: all but its last operation quiet (of what was there nothing turns; callees may lay blocks); the last one, which waits for all others, whatever it is.** -/
theorem wp_region_below_last {P : Program} {id : Nat} {Q : Exit → Act → World → Prop} {a : Act} {w : World} {ops : List Oper} {o : Oper} (l : List Oper) (hops : ops = l ++ [o]) (hm : P.follows .mixedOrders = true) (hB : Region.lexB .any l.toArray = true) (hl : lastB l.toArray o = true)
    (h : wpQuiet P l.toArray (fun w' => ∃ p : Regrown, w' = grow (redrawn w p.d) p.os) (fun a' => ∀ w', Below w.heap.size w w' → wpOp P ops.toArray Q l.length (Q .normal) a' w') l a) : (Code.region id ops.toArray true).wp P Q a w := by
  subst hops
  have hp : (l ++ [o]).toArray = l.toArray.push o := by simp
  rw [hp] at h ⊢
  refine wp_region_any hm ?_
  have hrep : Array.replicate (l.toArray.push o).size false = (Array.replicate l.toArray.size false).push false := by simp [Array.replicate_succ]
  rw [hrep, Array.size_push]
  refine wpAny_push hl _ _ _ _ (by simp) ?_ ?_
  · intro j p hp hj
    have hj2 := (Array.getElem?_eq_some_iff.1 hp).1
    simp [Array.getD, hj2] at hj
    simp at hj2
    omega
  simp only [Region.lexB, Bool.and_eq_true] at hB
  refine wpAny_of_quiet (C := fun w' => ∃ p : Regrown, w' = grow (redrawn w p.d) p.os) (Q := fun a' => ∀ w', Below w.heap.size w w' → wpOp P (l.toArray.push o) Q l.length (Q .normal) a' w') (fun a' w' hw' h' => ?_) _ _ _ _ ⟨⟨w.drawn + 1, #[]⟩, by rw [grow_empty]; rfl⟩ ?_
  · obtain ⟨p, rfl⟩ := hw'
    have := h' _ (below_regrown w p.d p.os)
    simpa [thenLast] using this
  · have := wpAnyQ_lex (C := fun w' => ∃ p : Regrown, w' = grow (redrawn w p.d) p.os) (md := .any) hB.1 l 0 (Array.replicate l.toArray.size false) a (by simp) (by simpa using hB.2) h
    simpa using this
/-- The same, l being the first n of the operations as they are written. -/
theorem wp_region_below_lastN {P : Program} {id : Nat} {Q : Exit → Act → World → Prop} {a : Act} {w : World} {ops : List Oper} {o : Oper} (n : Nat) (hops : ops = ops.take n ++ [o]) (hn : (ops.take n).length = n) (hm : P.follows .mixedOrders = true) (hB : Region.lexB .any (ops.take n).toArray = true) (hl : lastB (ops.take n).toArray o = true)
    (h : wpQuiet P (ops.take n).toArray (fun w' => ∃ p : Regrown, w' = grow (redrawn w p.d) p.os) (fun a' => ∀ w', Below w.heap.size w w' → Region.wanted o (yielded ops.toArray a'.tmps) = true ∧ o.wp P a' w' (Q .normal) Q) (ops.take n) a) : (Code.region id ops.toArray true).wp P Q a w := by
  refine wp_region_below_last (ops.take n) hops hm hB hl ?_
  have hgo : ops.toArray[(ops.take n).length]? = some o := by
    have h1 : (ops.take n ++ [o])[(ops.take n).length]? = some o := by rw [List.getElem?_append_right (Nat.le_refl _)]; simp
    rw [List.getElem?_toArray]
    rw [← hops] at h1
    exact h1
  have e : (fun a' : Act => ∀ w', Below w.heap.size w w' → wpOp P ops.toArray Q (ops.take n).length (Q .normal) a' w') = fun a' => ∀ w', Below w.heap.size w w' → (if Region.wanted o (yielded ops.toArray a'.tmps) then o.wp P a' w' (Q .normal) Q ∨ (o.asks P a' w' ∧ LetsOut Q) else Q .normal (a'.put o.dst undef) w') := by
    funext a'
    unfold wpOp
    rw [hgo]
  rw [e]
  refine wpQuiet_mono (fun a' h' w' hb => ?_) _ _ h
  have := h' w' hb
  rw [if_pos this.1]
  exact .inl this.2
end Go.Proofs.Ytoadihclmnjjnaa.Lst
