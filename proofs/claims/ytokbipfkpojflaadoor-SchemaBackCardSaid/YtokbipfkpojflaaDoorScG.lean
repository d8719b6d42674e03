/-
  The walk of the law's own great (layer 34).
-/
import Derived.Test.YtokbipfkpojflaaDoorScN
import Derived.Test.YtokbipfkpojflaaDoorScY
set_option linter.unusedSimpArgs false
set_option linter.unusedVariables false
namespace Go.Proofs.YtokbipfkpojflaaDoor.Sc
open Go Go.RowKit Go.ChangeShapes Go.WideShapes Go.Proofs.YtokbipfkpojflaaDoor.Sl Go.Lib
open Go.Proofs.YtokbipfkpojflaaDoor.Va (Cl flatC flatC_len flatC_snoc Cs bdrew)

def grF (f : Fr) : Bool := decide (20 < f.cols.length)
def grS (s : Sch) : Bool := decide (20 < s.cols.length) || decide (20 < s.frn.length) || s.frn.any grF
def grL (l : List Sch) : Bool := decide (12 < l.length) || l.any grS
theorem enter_g1 (args : Array Value) (w : World) : (callFunc 17 args).run Tryd.prog w = .ok (.enter 17 args) w := by simp [go_sem, Tryd.func17]
theorem enter_g2 (args : Array Value) (w : World) : (callFunc 19 args).run Tryd.prog w = .ok (.enter 19 args) w := by simp [go_sem, Tryd.func19]
theorem grF_any (n : Nat) (a1 : Option Addr) (c1 : Nat) (tab : ByteArray) (w : World) : Calls Tryd.prog 19 #[.agg #[.slice a1 n c1, .string tab]] w fun e w' => e = .returned (.bool (decide (20 < n))) ∧ Below w.heap.size w w' := by
  by_cases h : 20 < n
  · have h2 : (20 : Int) < (n : Int) := by omega
    rw [decide_eq_true h]
    go_enter Tryd.func19, Tryd.ntmps19
    go_wp2
    go_ret
    exact ⟨by first | rfl | simp [h2], by go_grown⟩
  · have h2 : ¬ (20 : Int) < (n : Int) := by omega
    rw [decide_eq_false h]
    go_enter Tryd.func19, Tryd.ntmps19
    go_wp2
    go_ret
    exact ⟨by first | rfl | simp [h2], by go_grown⟩
set_option maxRecDepth 20000 in
theorem grS_any (s : Sch) (a1 a2 : Option Addr) (c1 c2 : Nat) (w : World) (hf : FsAt w (.slice a2 s.frn.length c2) s.frn) :
    Calls Tryd.prog 17 #[agS s.name (.slice a1 s.cols.length c1) s.key (.slice a2 s.frn.length c2)] w fun e w' => e = .returned (.bool (grS s)) ∧ Below w.heap.size w w' := by
  have HA := fun W (h : Below w.heap.size w W) (hl : s.frn.length ≤ 1000000) => has_frn0 19 enter_g2 grF (fun _ => True) (fun _ _ _ _ => trivial) s.frn (fun W f a1 c1 _ _ _ => grF_any _ a1 c1 f.tab W) hl _ W (hf.below (fun r x hx => hx.below h) h) trivial
  unfold grS
  generalize s.frn.any grF = y at HA ⊢
  generalize s.cols.length = m1 at *
  generalize s.frn.length = m2 at *
  clear hf
  by_cases h1 : 20 < m1
  · have h2 : (20 : Int) < (m1 : Int) := by omega
    rw [decide_eq_true h1]
    go_enter Tryd.func17, Tryd.ntmps17
    go_wp2
    go_ret
    exact ⟨by first | rfl | simp [h2], by go_grown⟩
  · have h2 : ¬ (20 : Int) < (m1 : Int) := by omega
    by_cases h3 : 20 < m2
    · have h4 : (20 : Int) < (m2 : Int) := by omega
      rw [decide_eq_false h1, decide_eq_true h3]
      go_enter Tryd.func17, Tryd.ntmps17
      go_wp2
      go_ret
      exact ⟨by first | rfl | simp [h2, h4], by go_grown⟩
    · have h4 : ¬ (20 : Int) < (m2 : Int) := by omega
      rw [decide_eq_false h1, decide_eq_false h3]
      have HA2 := fun W h => HA W h (by omega)
      clear HA
      go_enter Tryd.func17, Tryd.ntmps17
      go_wp2_with (go_at_call 18; (with_reducible refine (HA2 _ (by go_grown)).mono ?_); rintro e w2 ⟨rfl, hb⟩; have hw2 : Below w.heap.size w w2 := bstep (by go_grown) hb)
      go_ret
      exact ⟨by first | rfl | simp [h2, h4], hw2⟩
set_option maxRecDepth 20000 in
theorem great_any (l : List Sch) (s : Value) (w : World) (hs : LsAt w s l) : Calls Tryd.prog 6 #[s] w fun e w' => e = .returned (.bool (grL l)) ∧ Below w.heap.size w w' := by
  have HA := fun (hl : l.length ≤ 1000000) => has_sch0 17 enter_g1 grS (fun _ => True) (fun _ _ _ _ => trivial) l (fun W x a1 a2 c1 c2 _ _ _ hf => grS_any x a1 a2 c1 c2 W hf) hl s w hs trivial
  obtain ⟨ad, cap, rfl, _⟩ := Nest.form hs
  unfold grL
  generalize l.any grS = y at HA ⊢
  generalize l.length = n at *
  clear hs
  by_cases h1 : 12 < n
  · have h2 : (12 : Int) < (n : Int) := by omega
    rw [decide_eq_true h1]
    go_enter Tryd.func6, Tryd.ntmps6
    go_wp2
    go_ret
    exact ⟨by first | rfl | simp [h2], by go_grown⟩
  · have h2 : ¬ (12 : Int) < (n : Int) := by omega
    have HA2 := HA (by omega)
    rw [decide_eq_false h1]
    clear HA
    go_enter Tryd.func6, Tryd.ntmps6
    go_wp2_with (go_at_call 16; (with_reducible refine HA2.mono ?_); rintro e w2 ⟨rfl, hb⟩)
    go_ret
    exact ⟨by first | rfl | simp [h2], hb⟩
theorem one_ls {w : World} {cs : List Value} {t : TypeId} {s : Sch} (h : ScAt w cs s) (W : World) (hb : Below w.heap.size w W) : LsAt (W.alloc (.cells cs.toArray t)) (.slice (some ⟨W.heap.size, 0, none⟩) 1 1) [s] := by
  have hlen : cs.length = 4 := by obtain ⟨a, b, rfl, _⟩ := h; rfl
  refine ⟨[cs], rfl, ⟨Sl.mk (by simp [hlen]) fun j u hu => ?_, Cap.mk (Nat.le_refl _)⟩, fun r hr => by rw [List.mem_singleton.1 hr]; exact hlen, fun i r x hr hx => ?_⟩
  · rw [Nat.zero_add]
    exact (Bx.new W t cs.toArray).cell j u (by simpa using hu)
  · match i, hr, hx with
    | 0, hr, hx =>
      simp at hr hx
      subst hr hx
      exact (h.below hb).below ((Below.refl _ W).alloc (Nat.le_refl _) _)
    | i + 1, hr, hx => simp at hr
end Go.Proofs.YtokbipfkpojflaaDoor.Sc
