/-
  A buffer of bytes that a call builds by appends, beside boxes of other types (nothing of the program's functions).
-/
import Derived.Test.YtgfppajbegcaeaaDoorVaF
import Derived.Test.YtgfppajbegcaeaaDoorVaX
import Derived.Lib.AppendStr
set_option linter.unusedSimpArgs false
set_option linter.unusedVariables false
namespace Go.Proofs.YtgfppajbegcaeaaDoor.Va
open Go.RowKit Go.ChangeShapes Go.WideShapes Go.Proofs.YtgfppajbegcaeaaDoor.Sl

/-- Bytes as cells. -/
abbrev bcs (b : List UInt8) : List Value := b.map fun c => .int .u8 c.toNat
theorem infoB : (Tryd.prog.info? 5).map (fun i => (i.zero, i.size, i.bytes)) = some (some (.int .u8 0), 1, 1) := by kernel_rfl
theorem bcs_app (a b : List UInt8) : bcs (a ++ b) = bcs a ++ bcs b := List.map_append ..
theorem bcs_len (b : List UInt8) : (bcs b).length = b.length := List.length_map ..
/-- The slice v is the call's own and holds the bytes b; of what was there in W0 nothing has turned. -/
def Bf (W0 w : World) (v : Value) (b : List UInt8) : Prop := w.ownsRow W0.heap.size 5 1 v b.length (bcs b) ∧ Below W0.heap.size W0 w
/-- Boxes of another type are as they were. -/
def KeepT (w w' : World) : Prop := w.heap.size ≤ w'.heap.size ∧ ∀ (P : Nat) (cs : Array Value) (T : TypeId), T ≠ 5 → w.heap[P]? = some (Obj.cells cs T (0, 0)) → w'.heap[P]? = some (Obj.cells cs T (0, 0))
theorem KeepT.refl (w : World) : KeepT w w := ⟨Nat.le_refl _, fun _ _ _ _ h => h⟩
theorem KeepT.trans {a b c : World} (h : KeepT a b) (h2 : KeepT b c) : KeepT a c := ⟨Nat.le_trans h.1 h2.1, fun P cs T hT hP => h2.2 P cs T hT (h.2 P cs T hT hP)⟩
theorem KeepT.alloc (w : World) (o : Obj) : KeepT w (w.alloc o) := ⟨by simp, fun P cs T _ hP => by
  have hlt : P < w.heap.size := (Array.getElem?_eq_some_iff.1 hP).1
  rw [((Below.refl w.heap.size w).alloc (Nat.le_refl _) o).block P hlt]; exact hP⟩
theorem KeepT.below {w w' : World} (h : Below w.heap.size w w') : KeepT w w' := ⟨h.size, fun P cs T _ hP => by
  rw [h.block P (Array.getElem?_eq_some_iff.1 hP).1]; exact hP⟩
theorem KeepT.of_grown {w w' : World} {base : Nat} {v : Value} {n : Nat} {xs : List Value} (hown : w.ownsRow base 5 1 v n xs) (hg : w.grownBy w' v.ownBlock) : KeepT w w' := ⟨hg.size, fun P cs T hT hP => by
  rw [hg.block P (Array.getElem?_eq_some_iff.1 hP).1 ?_]
  · exact hP
  · intro he
    rcases hown.2 with ⟨rfl, _⟩ | ⟨g, cap, cur, rfl, _, hgg, _⟩
    · cases he
    · have : P = g := Option.some.inj he
      subst this
      rw [hP] at hgg
      simp only [Option.some.injEq, Obj.cells.injEq] at hgg
      exact hT hgg.2.1⟩
theorem Bf.alloc {W0 w : World} {v : Value} {b : List UInt8} (h : Bf W0 w v b) (o : Obj) : Bf W0 (w.alloc o) v b := ⟨h.1.alloc o, h.2.alloc h.2.size o⟩
theorem Bf.below {W0 w w' : World} {v : Value} {b : List UInt8} (h : Bf W0 w v b) (hb : Below w.heap.size w w') : Bf W0 w' v b := by
  refine ⟨?_, bstep h.2 hb⟩
  obtain ⟨h1, h2⟩ := h.1
  refine ⟨h1, ?_⟩
  rcases h2 with ⟨rfl, h0⟩ | ⟨g, cap, cur, rfl, hg, hh, h3⟩
  · exact .inl ⟨rfl, h0⟩
  · refine .inr ⟨g, cap, cur, rfl, hg, ?_, h3⟩
    rw [hb.block g (Array.getElem?_eq_some_iff.1 hh).1]; exact hh
theorem Bf.sl {W0 w : World} {v : Value} {b : List UInt8} (h : Bf W0 w v b) : Sl w v b.length 1 (bcs b) := Sl.of_owns h.1
theorem box_cell {w : World} {P : Nat} {cs : Array Value} {T : TypeId} (h : w.heap[P]? = some (Obj.cells cs T (0, 0))) (j : Nat) (u : Value) (hj : cs[j]? = some u) : w.cell? ⟨P, j, none⟩ = some u := by
  rw [cell_of_row _ _ j cs T (0, 0) h]; exact hj
theorem box3 {w : World} {P : Nat} {x y z : Value} {T : TypeId} (h : w.heap[P]? = some (Obj.cells #[x, y, z] T (0, 0))) :
    w.cell? ⟨P, 0, none⟩ = some x ∧ w.cell? ⟨P, 1, none⟩ = some y ∧ w.cell? ⟨P, 2, none⟩ = some z := ⟨box_cell h 0 _ rfl, box_cell h 1 _ rfl, box_cell h 2 _ rfl⟩
theorem box_new (w : World) (cs : Array Value) (T : TypeId) : (w.alloc (.cells cs T)).heap[w.heap.size]? = some (Obj.cells cs T (0, 0)) := heap_alloc_new w _

/-- append(v, c). -/
theorem wp_byte {ops : Array Oper} {rest : List Oper} {o : Oper} {a : Act} {Q : Exit → Act → World → Prop} {W0 w : World} {v : Value} {b : List UInt8} (hB : Bf W0 w v b) (hgd : o.guard = none) (s x : Operand)
    (ho : o.op = .call { callee := .builtin .append, args := #[s, x], argTypes := #[23, 23] }) (hs : a.eval s = v) {H : Nat} (te : TypeId)
    (hx : a.eval x = .slice (some ⟨H, 0, none⟩) 1 1) (hH : w.heap.size = H) (z : Int) (c : UInt8) (hz : z = c.toNat) (hlen : b.length ≤ 1000000)
    (h : ∀ v' w', Bf W0 w' v' (b ++ [c]) → KeepT w w' → wpList Tryd.prog ops Q rest (a.put o.dst v') w') : wpList Tryd.prog ops Q (o :: rest) a (w.alloc (.cells #[.int .u8 z] te)) := by
  obtain ⟨i0, hi, hz0, hz1, hz2⟩ := info_parts infoB
  subst hz hH
  have ho1 := hB.1.alloc (.cells #[.int .u8 c.toNat] te)
  refine wpList_append_lies _ hgd s x _ ho W0.heap.size _ i0 (.int .u8 0) 1 1 Tryd.underlying23 hi hz0 hz1 hz2 rfl (by decide) v b.length (bcs b) hs ho1 ⟨w.heap.size, 0, none⟩ 1 1 [.int .u8 c.toNat] hx rfl (cells_new w [.int .u8 c.toNat] te) (by intro u hu; simp at hu; rcases hu with rfl; rfl) (by omega) (by unfold maxLen; omega) (by omega) (by have := hB.2.size; simp; omega) (w.heap.size + 1) (by simp) ?_
  intro g cap w' h2 h3 _ _
  refine h _ w' ⟨?_, (hB.2.alloc hB.2.size _).grown h3 (by have := hB.2.size; simp; omega) (fun k hk => (ho1.lt k hk).1)⟩ ((KeepT.alloc _ _).trans (KeepT.of_grown ho1 h3))
  rw [bcs_app, List.length_append]
  exact h2
/-- append(v, s...), s a text. -/
theorem wp_text {ops : Array Oper} {rest : List Oper} {o : Oper} {a : Act} {Q : Exit → Act → World → Prop} {W0 w : World} {v : Value} {b : List UInt8} (hB : Bf W0 w v b) (hgd : o.guard = none) (s x : Operand)
    (ho : o.op = .call { callee := .builtin .append, args := #[s, x], argTypes := #[23, 9] }) (hs : a.eval s = v)
    (t : ByteArray) (hx : a.eval x = .string t) (hlen : b.length ≤ 1000000) (ht : t.size ≤ 1000000)
    (h : ∀ v' w', Bf W0 w' v' (b ++ t.data.toList) → KeepT w w' → wpList Tryd.prog ops Q rest (a.put o.dst v') w') : wpList Tryd.prog ops Q (o :: rest) a w := by
  obtain ⟨i0, hi, hz0, hz1, hz2⟩ := info_parts infoB
  refine Lib.wpList_append_own_string _ hgd s x _ _ ho W0.heap.size _ i0 Tryd.underlying23 Tryd.underlying9 hi hz0 hz1 hz2 v b.length (bcs b) hs hB.1 t hx (by unfold maxLen; omega) (by omega) hB.2.size ?_
  intro v' w' h2 h3 _
  refine h _ w' ⟨?_, hB.2.grown h3 hB.2.size (fun k hk => (hB.1.lt k hk).1)⟩ (KeepT.of_grown hB.1 h3)
  have hl : t.data.toList.length = t.size := Array.length_toList
  rw [bcs_app, List.length_append, hl]
  exact h2
end Go.Proofs.YtgfppajbegcaeaaDoor.Va
