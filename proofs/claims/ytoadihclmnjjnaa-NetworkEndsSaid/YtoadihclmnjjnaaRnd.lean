/-
  Regions that draw their order inside a round of a loop over a function: the plain laws carried into the round (plain lemmas; nothing of the program).
-/
import Derived.Test.YtoadihclmnjjnaaLast
import Derived.Test.YtoadihclmnjjnaaRf
import Derived.OrdersHeld
set_option linter.unusedSimpArgs false
set_option linter.unusedVariables false
namespace Go.Proofs.Ytoadihclmnjjnaa.Lst
open Go Go.RowKit Go.Sort

theorem operIn_of_wp {P : Program} {o : Oper} {a : Act} {w : World} {l n : Nat} {K K' : Act → World → Prop} {Q Q' : Exit → Act → World → Prop} (hd : ∀ c, o.op ≠ .defer c) (hk : ∀ a w, K a w → K' a w) (hq : ∀ e a w, Q' e a w → Q e a w)
    (h : o.wp P a w K Q') : o.wpIn (Fence.wide.inRound l) n P a w K' Q := by
  refine ⟨fun _ _ => trivial, ?_⟩
  rw [show (Fence.wide.inRound l).round = some l from rfl, Oper.semAt_some _ _ _ hd]
  unfold Oper.wp at h
  generalize (execOp a.eval o).run P w = r at *
  cases r with
  | ok m w' =>
    cases m <;> simp only [Oper.upon, Oper.uponIn] at h ⊢ <;> try exact hk _ _ h
    · refine ⟨fun hh => (by cases hh), ?_⟩
      refine callsIn_wide.2 (Calls.mono h fun e w'' he => ?_)
      cases e with
      | returned u => exact hk _ _ he
      | panicked c => exact hq _ _ _ he
      | outgrown => obtain ⟨a2, w2, h2⟩ := he; exact ⟨a2, w2, hq _ _ _ h2⟩
    · refine ⟨fun hh => (by cases hh), fun c cs _ => ?_⟩
      obtain ⟨v, w2, r, s⟩ := h c cs
      exact ⟨v, w2, hk _ _ r, stepsIn_wide.2 s⟩
  | halt x w' =>
    cases x <;> simp only [Oper.upon, Oper.uponIn] at h ⊢ <;> try exact h
    exact hq _ _ _ h

theorem wpAnyIn_of_wpAny {P : Program} {ops : Array Oper} {md : Region.Mode} {l n : Nat} {Q Q' : Exit → Act → World → Prop} (hd : ∀ (i : Nat) (o : Oper), ops[i]? = some o → ∀ c, o.op ≠ .defer c) (hq : ∀ e a w, Q' e a w → Q e a w) (hl : ¬ LetsOut Q') :
    ∀ (fuel : Nat) (L : Array Bool) (a : Act) (w : World), wpAny P md ops Q' fuel L a w → wpAnyIn (Fence.wide.inRound l) n P md ops Q fuel L a w := by
  intro fuel
  induction fuel with
  | zero => intro L a w h; exact ⟨h.1, hq _ _ _ h.2⟩
  | succ f ih =>
    intro L a w h
    refine ⟨fun h0 => hq _ _ _ (h.1 h0), fun i hi => ?_⟩
    have h1 := h.2 i hi
    unfold wpOp at h1
    unfold wpOpIn
    cases ho : ops[i]? with
    | none => rw [ho] at h1; exact ih _ _ _ h1
    | some o =>
      rw [ho] at h1
      simp only at h1 ⊢
      split
      · rename_i hw
        rw [if_pos hw] at h1
        rcases h1 with h1 | ⟨_, h2⟩
        · exact operIn_of_wp (hd i o ho) (fun a w h => ih _ a w h) hq h1
        · exact absurd h2 hl
      · rename_i hw
        rw [if_neg hw] at h1
        exact ⟨fun _ _ => trivial, ih _ _ _ h1⟩
/-- No operation defers a call. -/
def noDefer (ops : Array Oper) : Bool := ops.all fun o => match o.op with | .defer _ => false | _ => true
theorem noDefer_spec {ops : Array Oper} (h : noDefer ops = true) (i : Nat) (o : Oper) (ho : ops[i]? = some o) (c : Call) : o.op ≠ .defer c := by
  intro e
  unfold noDefer at h
  rw [Array.all_eq_true_iff_forall_mem] at h
  have := h o (Array.mem_of_getElem? ho)
  rw [e] at this
  cases this
/-- What is asked behind a region in a round: it ends as it should. -/
def only (Q : Exit → Act → World → Prop) : Exit → Act → World → Prop := fun e a w => e = .normal ∧ Q .normal a w
theorem only_le {Q : Exit → Act → World → Prop} (e : Exit) (a : Act) (w : World) (h : only Q e a w) : Q e a w := by obtain ⟨rfl, h⟩ := h; exact h
theorem only_lets (Q : Exit → Act → World → Prop) : ¬ LetsOut (only Q) := by rintro ⟨a, w, h, _⟩; cases h
theorem wpIn_region_round {P : Program} {ops : Array Oper} {id l n : Nat} {Q : Exit → Act → World → Prop} {a : Act} {w : World} (hm : P.follows .mixedOrders = true) (hd : noDefer ops = true)
    (h : wpAny P .any ops (only Q) ops.size (Array.replicate ops.size false) a { w with drawn := w.drawn + 1 }) : (Code.region id ops true).wpIn (Fence.wide.inRound l) n P Q a w :=
  wpIn_region_any hm (wpAnyIn_of_wpAny (noDefer_spec hd) only_le (only_lets Q) _ _ _ _ h)

/-- The last operation waits for all others; the others by 'wpAnyH'. -/
theorem wpAny_held_last {P : Program} {Q : Exit → Act → World → Prop} {a : Act} {w : World} {ops : List Oper} {o : Oper} (S : World → Prop) (l : List Oper) (hops : ops = l ++ [o]) (hl : lastB l.toArray o = true)
    (h : wpAnyH P .any l.toArray (thenLast P l.toArray o Q) S l.length (Array.replicate l.length false) a w) : wpAny P .any ops.toArray Q ops.toArray.size (Array.replicate ops.toArray.size false) a w := by
  subst hops
  have hp : (l ++ [o]).toArray = l.toArray.push o := by simp
  rw [hp]
  have hrep : Array.replicate (l.toArray.push o).size false = (Array.replicate l.toArray.size false).push false := by simp [Array.replicate_succ]
  rw [hrep, Array.size_push]
  refine wpAny_push hl _ _ _ _ (by simp) ?_ ?_
  · intro j p hp hj
    have hj2 := (Array.getElem?_eq_some_iff.1 hp).1
    simp [Array.getD, hj2] at hj
    simp at hj2
    omega
  · have := wpAny_of_held _ _ _ _ h
    simpa using this
theorem thenLast_of {P : Program} {l : Array Oper} {o : Oper} {Q : Exit → Act → World → Prop} {a : Act} {w : World} (hw : Region.wanted o (yielded (l.push o) a.tmps) = true) (h : o.wp P a w (Q .normal) Q) : thenLast P l o Q .normal a w := by
  unfold thenLast wpOp
  have hg : (l.push o)[l.size]? = some o := by simp
  rw [hg]
  simp only [hw, if_true]
  exact .inl h
/-- The one operation that may come up. -/
theorem wpAnyH_one {P : Program} {md : Region.Mode} {ops : Array Oper} {S : World → Prop} {Q : Exit → Act → World → Prop} (i : Nat) {o : Oper} {fuel : Nat} {listed : Array Bool} {a : Act} {w : World} (hr : Region.ready md ops listed = [i]) (hi : ops[i]? = some o) (hw : Region.wanted o (yielded ops a.tmps) = true)
    (h : ∀ K : Act → World → Prop, (∀ a w, S w → wpAnyH P md ops Q S fuel (listed.setIfInBounds i true) a w → K a w) → o.wp P a w K Q) : wpAnyH P md ops Q S (fuel + 1) listed a w := by
  refine wpAnyH_all hr (by simp) fun j hj => ?_
  rw [List.mem_singleton] at hj
  subst hj
  unfold wpOp
  rw [hi]
  simp only [hw, if_true]
  exact .inl (h _ fun a w hs hh => ⟨hs, hh⟩)
end Go.Proofs.Ytoadihclmnjjnaa.Lst
