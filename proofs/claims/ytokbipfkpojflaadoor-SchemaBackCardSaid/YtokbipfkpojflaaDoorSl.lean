/-
  A slice that can be read, its cells in order (plain lemmas; nothing of the program).
-/
import Derived.WalkKit
import Derived.ProofKit
import Derived.Handy
import Derived.Laws.AppendOwn
import Derived.Deep.Draws
import Derived.Deep.AppendLies
import Derived.Laws.OwnMore
namespace Go.Proofs.YtokbipfkpojflaaDoor.Sl
open Go Go.RowKit

/-- The slice value v has n elements of 'size' cells each; its cells hold xs. -/
def Sl (w : World) (v : Value) (n size : Nat) (xs : List Value) : Prop :=
  xs.length = n * size ∧ ∃ ad cap, v = .slice ad n cap ∧ (n ≠ 0 → ∃ g off, ad = some ⟨g, off, none⟩ ∧ ∀ j u, xs[j]? = some u → w.cell? ⟨g, off + j, none⟩ = some u)

theorem block_of_cell {w : World} {g o : Nat} {u : Value} (h : w.cell? ⟨g, o, none⟩ = some u) : g < w.heap.size := by
  rcases Nat.lt_or_ge g w.heap.size with h' | h'
  · exact h'
  · simp [World.cell?, Array.getElem?_eq_none h'] at h

theorem Sl.below {w w' : World} {v : Value} {n size : Nat} {xs : List Value} (h : Sl w v n size xs) (hb : Below w.heap.size w w') : Sl w' v n size xs := by
  obtain ⟨h1, ad, cap, rfl, h2⟩ := h
  refine ⟨h1, ad, cap, rfl, fun hn => ?_⟩
  obtain ⟨g, off, rfl, h3⟩ := h2 hn
  refine ⟨g, off, rfl, fun j u hu => ?_⟩
  have := h3 j u hu
  rw [hb.cell (p := ⟨g, off + j, none⟩) (block_of_cell this)]
  exact this

theorem Sl.mk0 (w : World) (ad : Option Addr) (cap size : Nat) : Sl w (.slice ad 0 cap) 0 size [] := ⟨by simp, ad, cap, rfl, fun h => (h rfl).elim⟩
theorem Sl.mk {w : World} {g off n cap size : Nat} {xs : List Value} (h : xs.length = n * size) (hc : ∀ j u, xs[j]? = some u → w.cell? ⟨g, off + j, none⟩ = some u) : Sl w (.slice (some ⟨g, off, none⟩) n cap) n size xs :=
  ⟨h, _, _, rfl, fun _ => ⟨g, off, rfl, hc⟩⟩

theorem Sl.of_owns {w : World} {base n size : Nat} {e : TypeId} {v : Value} {xs : List Value} (h : w.ownsRow base e size v n xs) : Sl w v n size xs := by
  rcases h with ⟨h1, h2⟩
  rcases h2 with ⟨rfl, rfl⟩ | ⟨g, cap, cur, rfl, hb, hg, hn, hm, hs, ht⟩
  · have : xs = [] := by simpa using h1
    subst this
    exact Sl.mk0 ..
  · refine Sl.mk h1 fun j u hu => ?_
    have := World.ownsRow.cells (v := .slice (some ⟨g, 0, none⟩) n cap) (⟨h1, .inr ⟨g, cap, cur, rfl, hb, hg, hn, hm, hs, ht⟩⟩ : w.ownsRow base e size _ n xs) rfl j u hu
    have hadd : (⟨g, 0, none⟩ : Addr).add j = ⟨g, j, none⟩ := by unfold Addr.add; split <;> simp_all
    rw [hadd] at this
    simpa using this

/-- The shape of a slice with elements. -/
theorem Sl.open {w : World} {v : Value} {n size : Nat} {xs : List Value} (h : Sl w v n size xs) (hn : n ≠ 0) : ∃ g off cap, v = .slice (some ⟨g, off, none⟩) n cap ∧ ∀ j u, xs[j]? = some u → w.cell? ⟨g, off + j, none⟩ = some u := by
  obtain ⟨h1, ad, cap, rfl, h2⟩ := h
  obtain ⟨g, off, rfl, h3⟩ := h2 hn
  exact ⟨g, off, cap, rfl, h3⟩
theorem Sl.form {w : World} {v : Value} {n size : Nat} {xs : List Value} (h : Sl w v n size xs) : ∃ ad cap, v = .slice ad n cap := by
  obtain ⟨h1, ad, cap, rfl, h2⟩ := h
  exact ⟨ad, cap, rfl⟩

theorem bcell {W w1 : World} (hb : Below W.heap.size W w1) : (∀ b o, b < W.heap.size → w1.cell? ⟨b, o, none⟩ = W.cell? ⟨b, o, none⟩) ∧ (∀ b o, b < W.heap.size → w1.frozen? ⟨b, o, none⟩ = W.frozen? ⟨b, o, none⟩) :=
  ⟨fun b o h => hb.cell (p := ⟨b, o, none⟩) h, fun b o h => hb.frozen (p := ⟨b, o, none⟩) h⟩
theorem bstep {w wa w1 : World} (h : Below w.heap.size w wa) (hb : Below wa.heap.size wa w1) : Below w.heap.size w w1 := h.trans (hb.mono h.size)
theorem bdrewN {B : Nat} {a w : World} (h : Below B a w) (n : Nat) : Below B a (w.drewN n) := ⟨h.os, h.tape, h.output, h.size, h.block⟩
theorem cells_new (w : World) (cs : List Value) (t : TypeId) : ∀ j u, cs[j]? = some u → (w.alloc (.cells cs.toArray t)).cell? ((⟨w.heap.size, 0, none⟩ : Addr).add j) = some u := by
  intro j u hu
  have hadd : (⟨w.heap.size, 0, none⟩ : Addr).add j = ⟨w.heap.size, j, none⟩ := by unfold Addr.add; split <;> simp_all
  rw [hadd, cell_of_row _ _ j cs.toArray t (0, 0) (heap_alloc_new w _)]
  simpa using hu
theorem grow_step {W0 w w2 : World} {row : Option Nat} (h : Below W0.heap.size W0 w) (hg : w.grownBy w2 row) (hr : ∀ k, row = some k → W0.heap.size ≤ k) : Below W0.heap.size W0 w2 := h.grown hg h.size hr
theorem Sl.cast {w : World} {v : Value} {n n' size : Nat} {xs xs' : List Value} (h : Sl w v n size xs) (hn : n = n') (hx : xs = xs') : Sl w v n' size xs' := hn ▸ hx ▸ h
/-- append(s, x) of ONE element (x lies in the block that the literal has just laid), s nil or the call's own: the world in the walk's own chain 'hL'. -/
theorem wpList_app1 {P : Program} {ops : Array Oper} {rest : List Oper} {o : Oper} {a : Act} {Q : Exit → Act → World → Prop} {W0 wX : World} (hX : Below W0.heap.size W0 wX) (hgd : o.guard = none) (s x : Operand) (t : TypeId)
    (ho : o.op = .call { callee := .builtin .append, args := #[s, x], argTypes := #[t, t] })
    (e : TypeId) {i : TypeInfo} {z : Value} {size bytes : Nat} (ht : P.underlying t = some (.slice e)) (hi : P.info? e = some i) (hz : i.zero = some z)
    (hsize : i.size = size) (hby : i.bytes = bytes) (hzs : z.cells.size = size) (hsz : 0 < size)
    (v : Value) (n : Nat) (xs : List Value) (hs : a.eval s = v) (cs : List Value) (te : TypeId) (hown : wX.ownsRow W0.heap.size e size v n xs)
    {H : Nat} (hx : a.eval x = .slice (some ⟨H, 0, none⟩) 1 1) (hH : wX.heap.size = H) (hl : cs.length = size) (h1 : ∀ u ∈ cs, u.oneCell' = true)
    (h63 : n + 1 ≤ maxLen) (hbytes : (n + 1) * bytes ≤ 140737488355328)
    (h : ∀ g cap w', w'.ownsRow W0.heap.size e size (.slice (some ⟨g, 0, none⟩) (n + 1) cap) (n + 1) (xs ++ cs) → Below W0.heap.size W0 w' → wpList P ops Q rest (a.put o.dst (.slice (some ⟨g, 0, none⟩) (n + 1) cap)) w') :
    wpList P ops Q (o :: rest) a (wX.alloc (.cells cs.toArray te)) := by
  subst hH
  refine wpList_append_lies _ hgd s x t ho W0.heap.size e i z size bytes ht hi hz hsize hby hzs hsz v n xs hs (hown.alloc _) ⟨wX.heap.size, 0, none⟩ 1 1 cs hx (by omega) (cells_new wX cs te) h1 (by omega) h63 hbytes (by have := hX.size; simp; omega) (wX.heap.size + 1) (by simp) ?_
  intro g cap w' h2 h3 _ _
  refine h g cap w' h2 (grow_step (hX.alloc hX.size _) h3 (fun k hk => (World.ownsRow.lt (hown.alloc (.cells cs.toArray te)) k hk).1))
/-- What a region that draws its order keeps: of what was there when the call began nothing has turned; these cells hold these values. -/
def Kp (w : World) (cs : List (Nat × Nat × Value)) (w' : World) : Prop := Below w.heap.size w w' ∧ ∀ c ∈ cs, w'.cell? ⟨c.1, c.2.1, none⟩ = some c.2.2
theorem cell_kept {w w1 : World} {b o : Nat} {u : Value} (h : w.cell? ⟨b, o, none⟩ = some u) (hb : Below w.heap.size w w1) : w1.cell? ⟨b, o, none⟩ = some u := by
  rw [hb.cell (p := ⟨b, o, none⟩) (block_of_cell h)]; exact h
theorem Kp.step {w wa wb : World} {cs : List (Nat × Nat × Value)} (h : Kp w cs wa) (hb : Below wa.heap.size wa wb) : Kp w cs wb := ⟨bstep h.1 hb, fun c hc => cell_kept (h.2 c hc) hb⟩
theorem Kp.drew {w wa : World} {cs : List (Nat × Nat × Value)} (h : Kp w cs wa) : Kp w cs wa.drew := h.step ⟨rfl, rfl, rfl, Nat.le_refl _, fun _ _ => rfl⟩
theorem Kp.alloc {w wa : World} {cs : List (Nat × Nat × Value)} (h : Kp w cs wa) (o : Obj) : Kp w cs (wa.alloc o) := h.step ((Below.refl _ _).alloc (Nat.le_refl _) o)
theorem Kp.add {w wa : World} {cs : List (Nat × Nat × Value)} (h : Kp w cs wa) (b o : Nat) (u : Value) (hc : wa.cell? ⟨b, o, none⟩ = some u) : Kp w ((b, o, u) :: cs) wa := ⟨h.1, fun c hm => by
  rcases List.mem_cons.1 hm with rfl | hm
  · exact hc
  · exact h.2 c hm⟩
theorem Kp.start {w wa : World} (h : Below w.heap.size w wa) : Kp w [] wa := ⟨h, fun c hm => by cases hm⟩
theorem Kp.at0 {w wa : World} {b o : Nat} {u : Value} {cs : List (Nat × Nat × Value)} (h : Kp w ((b, o, u) :: cs) wa) : wa.cell? ⟨b, o, none⟩ = some u := h.2 (b, o, u) (by simp)
theorem Kp.tl {w wa : World} {c : Nat × Nat × Value} {cs : List (Nat × Nat × Value)} (h : Kp w (c :: cs) wa) : Kp w cs wa := ⟨h.1, fun c hm => h.2 c (by simp [hm])⟩
end Go.Proofs.YtokbipfkpojflaaDoor.Sl
