/-
  The walk of layer 18's Lines, of the program civiltime.
-/
import Derived.Test.YtokbipfkpojflaaDoorLxS
import Derived.Test.YtokbipfkpojflaaDoorLxQ
set_option linter.unusedSimpArgs false
set_option linter.unusedVariables false
namespace Go.Proofs.YtokbipfkpojflaaDoor.Lx
open Go.RowKit Go.ChangeShapes Go.WideShapes Go.Proofs.YtokbipfkpojflaaDoor.Sl

def linV (v : Value) (p : Nat × Nat) (e : Nat) : Value := .tuple #[v, .agg #[.int .i64 p.1, .int .i64 p.2], .int .i64 e]

theorem linesR_ok (s : ByteArray) (hs : s.size ≤ 65536) (PB : List ByteArray) (h : PB.map (·.data.toList) = splitL 10 s.data.toList) : linesR s = linOut (linesZ 0 (PB.map (·.data.toList)) []) := by
  unfold linesR
  rw [if_neg (by omega), h]
theorem start_facts (w w1 : World) (PB : List ByteArray) (hw : w1 = (w.alloc (.cells #[.int .i64 0, .int .i64 0] 33)).alloc (.cells (PB.map Value.string).toArray 9)) :
    Below w.heap.size w w1 ∧ w1.heap.size = w.heap.size + 2 ∧ (∀ (j : Nat) (p : ByteArray), PB[j]? = some p → w1.cell? ⟨w.heap.size + 1, j, none⟩ = some (.string p)) ∧
    w1.cell? ⟨w.heap.size, 0, none⟩ = some (.int .i64 0) ∧ w1.cell? ⟨w.heap.size, 1, none⟩ = some (.int .i64 0) ∧ ∀ j : Nat, w1.frozen? ⟨w.heap.size, j, none⟩ = false := by
  have hh : w1.heap[w.heap.size]? = some (.cells #[.int .i64 0, .int .i64 0] 33 (0, 0)) := by
    rw [hw, Below.heap_alloc _ _ _ (by simp)]; exact Go.heap_alloc_new w _
  refine ⟨by rw [hw]; go_grown, by rw [hw]; simp, fun j p h => ?_, ?_, ?_, fun j => ?_⟩
  · rw [hw]
    have := cells_str (w.alloc (.cells #[.int .i64 0, .int .i64 0] 33)) PB 9 j p h
    simpa using this
  · rw [cell_of_row _ _ _ _ _ _ hh]; rfl
  · rw [cell_of_row _ _ _ _ _ _ hh]; rfl
  · simp [World.frozen?, hh]
theorem splitL_len (c : UInt8) : ∀ (l : List UInt8) (q : List UInt8), q ∈ splitL c l → q.length ≤ l.length
  | [], q, h => by simp [splitL] at h; subst h; exact Nat.le_refl _
  | x :: xs, q, h => by
    unfold splitL at h
    split at h
    · rcases List.mem_cons.1 h with rfl | h
      · exact Nat.zero_le _
      · have := splitL_len c xs q h; simp; omega
    · rcases List.mem_cons.1 h with rfl | h
      · have hm : (splitL c xs).headD [] ∈ splitL c xs := by
          cases hs : splitL c xs with
          | nil => exact absurd hs (splitL_ne c xs)
          | cons a b => simp
        have := splitL_len c xs _ hm; simp only [List.length_cons]; omega
      · have := splitL_len c xs q (List.mem_of_mem_tail h); simp; omega
theorem piece_le (s : ByteArray) (PB : List ByteArray) (h : PB.map (·.data.toList) = splitL 10 s.data.toList) (j : Nat) (p : ByteArray) (hp : PB[j]? = some p) : p.size ≤ s.size := by
  have hm : p.data.toList ∈ splitL 10 s.data.toList := by rw [← h]; exact List.mem_map.2 ⟨p, List.mem_of_getElem? hp, rfl⟩
  have := splitL_len 10 _ _ hm
  have e1 : p.data.toList.length = p.size := Array.length_toList
  have e2 : s.data.toList.length = s.size := Array.length_toList
  omega

/-- What holds of the gathered lines. -/
def Out (W w : World) (v : Value) (acc : List (List Tok)) : Prop :=
  ∃ hs : List Value, w.ownsRow W.heap.size 60 1 v acc.length hs ∧ ∀ (j : Nat) (h : Value) (l : List Tok), hs[j]? = some h → acc[j]? = some l → w.ownsRow W.heap.size 71 3 h l.length (cellsT l) ∧ (h.ownBlock = none ∨ h.ownBlock ≠ v.ownBlock)

theorem own_below {B : Nat} {w w' : World} {e : TypeId} {size : Nat} {v : Value} {n : Nat} {xs : List Value} (h : w.ownsRow B e size v n xs) (hb : Below w.heap.size w w') : w'.ownsRow B e size v n xs := by
  obtain ⟨h1, h2⟩ := h
  refine ⟨h1, ?_⟩
  rcases h2 with ⟨rfl, rfl⟩ | ⟨g, cap, cur, rfl, hg, hh, h3⟩
  · exact .inl ⟨rfl, rfl⟩
  · refine .inr ⟨g, cap, cur, rfl, hg, ?_, h3⟩
    rw [hb.block g (Array.getElem?_eq_some_iff.1 hh).1]; exact hh
theorem own_base {B C : Nat} {w : World} {e : TypeId} {size : Nat} {v : Value} {n : Nat} {xs : List Value} (h : w.ownsRow B e size v n xs) (hb : C ≤ B) : w.ownsRow C e size v n xs := by
  obtain ⟨h1, h2⟩ := h
  refine ⟨h1, ?_⟩
  rcases h2 with h2 | ⟨g, cap, cur, rfl, hg, h3⟩
  · exact .inl h2
  · exact .inr ⟨g, cap, cur, rfl, Nat.le_trans hb hg, h3⟩
theorem Out.below {W w w' : World} {v : Value} {acc : List (List Tok)} (h : Out W w v acc) (hb : Below w.heap.size w w') : Out W w' v acc := by
  obtain ⟨hs, h1, h2⟩ := h
  exact ⟨hs, own_below h1 hb, fun j x l hx hl => ⟨own_below (h2 j x l hx hl).1 hb, (h2 j x l hx hl).2⟩⟩
theorem Out.nil (W w : World) : Out W w (.slice none 0 0) [] := ⟨[], World.ownsRow_nil _ _ _ _, fun j h l hj => by simp at hj⟩
theorem Out.ls {W w : World} {v : Value} {acc : List (List Tok)} (h : Out W w v acc) : Ls w v acc := by
  obtain ⟨hs, h1, h2⟩ := h
  exact ⟨hs, Sl.of_owns h1, fun j x l hx hl => Sl.of_owns (h2 j x l hx hl).1⟩
/-- One line more. -/
theorem Out.app {W w w' : World} {v u : Value} {acc : List (List Tok)} {l : List Tok} {hs : List Value} {g cap : Nat}
    (h2 : ∀ (j : Nat) (h : Value) (l : List Tok), hs[j]? = some h → acc[j]? = some l → w.ownsRow W.heap.size 71 3 h l.length (cellsT l) ∧ (h.ownBlock = none ∨ h.ownBlock ≠ v.ownBlock))
    (hl : hs.length = acc.length) (hu : w.ownsRow W.heap.size 71 3 u l.length (cellsT l)) (hne : u.ownBlock = none ∨ u.ownBlock ≠ v.ownBlock)
    (hown : w'.ownsRow W.heap.size 60 1 (.slice (some ⟨g, 0, none⟩) (acc.length + 1) cap) (acc.length + 1) (hs ++ [u])) (hg : w.grownBy w' v.ownBlock) (hG : v.ownBlock = some g ∨ w.heap.size ≤ g) :
    Out W w' (.slice (some ⟨g, 0, none⟩) (acc.length + 1) cap) (acc ++ [l]) := by
  have key : ∀ (x : Value) (q : List Tok), w.ownsRow W.heap.size 71 3 x q.length (cellsT q) → (x.ownBlock = none ∨ x.ownBlock ≠ v.ownBlock) →
      w'.ownsRow W.heap.size 71 3 x q.length (cellsT q) ∧ (x.ownBlock = none ∨ x.ownBlock ≠ some g) := by
    intro x q hx hq
    refine ⟨hx.kept hg hq, ?_⟩
    rcases hq with hq | hq
    · exact .inl hq
    · rcases hG with hG | hG
      · exact .inr (by rw [← hG]; exact hq)
      · right
        intro e
        have := (hx.lt g e).2
        omega
  refine ⟨hs ++ [u], by simpa using hown, fun j x q hx hq => ?_⟩
  by_cases hj : j < acc.length
  · rw [List.getElem?_append_left (by omega)] at hx
    rw [List.getElem?_append_left hj] at hq
    have := h2 j x q hx hq
    exact key x q this.1 this.2
  · have hj2 : j = acc.length := by
      have := (List.getElem?_eq_some_iff.1 hq).1
      simp at this; omega
    subst hj2
    rw [List.getElem?_append_right (by omega)] at hx hq
    simp [hl] at hx hq
    subst hx; subst hq
    exact key _ _ hu hne

theorem own_set {B R : Nat} {w : World} {e : TypeId} {size : Nat} {v : Value} {n : Nat} {xs : List Value} (h : w.ownsRow B e size v n xs) (hR : R < B) (j : Nat) (u : Value) : (w.setCell ⟨R, j, none⟩ u).ownsRow B e size v n xs := by
  obtain ⟨h1, h2⟩ := h
  refine ⟨h1, ?_⟩
  rcases h2 with ⟨rfl, rfl⟩ | ⟨g, cap, cur, rfl, hg, hh, h3⟩
  · exact .inl ⟨rfl, rfl⟩
  · refine .inr ⟨g, cap, cur, rfl, hg, ?_, h3⟩
    rw [Below.heap_setCell _ _ _ _ (by show g ≠ R; omega)]; exact hh
theorem Out.set {W w : World} {v : Value} {acc : List (List Tok)} {R : Nat} (h : Out W w v acc) (hR : R < W.heap.size) (j : Nat) (u : Value) : Out W (w.setCell ⟨R, j, none⟩ u) v acc := by
  obtain ⟨hs, h1, h2⟩ := h
  exact ⟨hs, own_set h1 hR j u, fun j' x l hx hl => ⟨own_set (h2 j' x l hx hl).1 hR j u, (h2 j' x l hx hl).2⟩⟩

theorem pos_cells (w : World) (R : Nat) (a b x y : Value) (h0 : w.cell? ⟨R, 0, none⟩ = some x) (h1 : w.cell? ⟨R, 1, none⟩ = some y) (f0 : w.frozen? ⟨R, 0, none⟩ = false) (f1 : w.frozen? ⟨R, 1, none⟩ = false) :
    ∀ o : Obj, ((((w.setCell ⟨R, 0, none⟩ a).setCell ⟨R, 1, none⟩ b).alloc o).cell? ⟨R, 0, none⟩ = some a) ∧ ((((w.setCell ⟨R, 0, none⟩ a).setCell ⟨R, 1, none⟩ b).alloc o).cell? ⟨R, 1, none⟩ = some b) := by
  have hR := block_of_cell h0
  intro o
  constructor
  · rw [World.cell?_alloc_old _ _ _ (by simp; omega)]; simp [go_sem, h0, h1, f0, f1]
  · rw [World.cell?_alloc_old _ _ _ (by simp; omega)]; simp [go_sem, h0, h1, f0, f1]

/-- append(s, x) of ONE element, with what stays of other blocks. -/
theorem wpList_app2 {P : Program} {ops : Array Oper} {rest : List Oper} {o : Oper} {a : Act} {Q : Exit → Act → World → Prop} {W0 wX : World} (hX : Below W0.heap.size W0 wX) (hgd : o.guard = none) (s x : Operand) (t : TypeId)
    (ho : o.op = .call { callee := .builtin .append, args := #[s, x], argTypes := #[t, t] })
    (e : TypeId) {i : TypeInfo} {z : Value} {size bytes : Nat} (ht : P.underlying t = some (.slice e)) (hi : P.info? e = some i) (hz : i.zero = some z)
    (hsize : i.size = size) (hby : i.bytes = bytes) (hzs : z.cells.size = size) (hsz : 0 < size)
    (v : Value) (n : Nat) (xs : List Value) (hs : a.eval s = v) (cs : List Value) (te : TypeId) (hown : wX.ownsRow W0.heap.size e size v n xs)
    {H : Nat} (hx : a.eval x = .slice (some ⟨H, 0, none⟩) 1 1) (hH : wX.heap.size = H) (hl : cs.length = size) (h1 : ∀ u ∈ cs, u.oneCell' = true)
    (h63 : n + 1 ≤ maxLen) (hbytes : (n + 1) * bytes ≤ 140737488355328)
    (h : ∀ g cap w', w'.ownsRow W0.heap.size e size (.slice (some ⟨g, 0, none⟩) (n + 1) cap) (n + 1) (xs ++ cs) → Below W0.heap.size W0 w' → wX.grownBy w' v.ownBlock → (v.ownBlock = some g ∨ wX.heap.size ≤ g) → wpList P ops Q rest (a.put o.dst (.slice (some ⟨g, 0, none⟩) (n + 1) cap)) w') :
    wpList P ops Q (o :: rest) a (wX.alloc (.cells cs.toArray te)) := by
  subst hH
  refine wpList_append_lies _ hgd s x t ho W0.heap.size e i z size bytes ht hi hz hsize hby hzs hsz v n xs hs (hown.alloc _) ⟨wX.heap.size, 0, none⟩ 1 1 cs hx (by omega) (cells_new wX cs te) h1 (by omega) h63 hbytes (by have := hX.size; simp; omega) (wX.heap.size + 1) (by simp) ?_
  intro g cap w' h2 h3 h4 _
  refine h g cap w' h2 (grow_step (hX.alloc hX.size _) h3 (fun k hk => (World.ownsRow.lt (hown.alloc (.cells cs.toArray te)) k hk).1)) ?_ ?_
  · have ha := World.grownBy_alloc wX (.cells cs.toArray te) v.ownBlock
    exact ⟨h3.os.trans ha.os, h3.tape.trans ha.tape, h3.output.trans ha.output, Nat.le_trans ha.size h3.size, fun k hk hne => (h3.block k (Nat.lt_of_lt_of_le hk ha.size) hne).trans (ha.block k hk hne)⟩
  · rcases h4 with h4 | h4
    · exact .inl h4
    · exact .inr (by omega)

theorem info_tok : (Tryd.prog.info? 71).map (fun i => (i.zero, i.size, i.bytes)) = some (some (.agg #[.string ⟨#[]⟩, .int .i64 0, .int .i64 0]), 3, 32) := by kernel_rfl
theorem info_toks : (Tryd.prog.info? 60).map (fun i => (i.zero, i.size, i.bytes)) = some (some (.slice none 0 0), 1, 24) := by kernel_rfl

end Go.Proofs.YtokbipfkpojflaaDoor.Lx
