/-
  The reference's reading of lines, byte by byte (plain lemmas), and what its loop keeps of memory.
-/
import Derived.Test.YtcpfbemmlmdcaaaDoorLxL
set_option linter.unusedSimpArgs false
set_option linter.unusedVariables false
namespace Go.Proofs.YtcpfbemmlmdcaaaDoor.Lx
open Go.RowKit Go.ChangeShapes Go.WideShapes Go.Proofs.YtcpfbemmlmdcaaaDoor.Sl

def lineRun : List UInt8 → Nat → Nat → St → List (List Tok) → (Nat × Nat) ⊕ List (List Tok)
  | [], _, _, st, acc => .inr (addLine acc st.words)
  | c :: r, k, q, st, acc => if c = 10 then lineRun r (k + 1) 0 ⟨[], false, false⟩ (addLine acc st.words) else if badC c = true then .inl (k + 1, q + 1) else lineRun r k (q + 1) (stepC (k + 1) q c st) acc

theorem lineRun_is : ∀ (l : List UInt8) (k q : Nat) (st : St) (acc : List (List Tok)), lineRun l k q st acc = (match scanL (k + 1) q ((splitL 10 l).headD []) st with
    | .inl c => .inl (k + 1, c)
    | .inr st' => linesZ (k + 1) (splitL 10 l).tail (addLine acc st'.words))
  | [], k, q, st, acc => rfl
  | c :: r, k, q, st, acc => by
    by_cases hc : c = 10
    · rw [lineRun, if_pos hc, lineRun_is r, splitL, if_pos hc]
      cases hs : splitL 10 r with
      | nil => exact absurd hs (splitL_ne 10 r)
      | cons p ps => rfl
    · rw [lineRun, if_neg hc, splitL, if_neg hc]
      simp only [List.headD_cons, List.tail_cons]
      rw [scanL]
      by_cases hb : badC c = true
      · rw [if_pos hb, if_pos hb]
      · rw [if_neg hb, if_neg hb, lineRun_is r]
theorem lineRun_lines (s : ByteArray) (hs : s.size ≤ 65536) : linesR s = linOut (lineRun s.data.toList 0 0 ⟨[], false, false⟩ []) := by
  unfold linesR
  rw [if_neg (by omega), lineRun_is]
  cases h : splitL 10 s.data.toList with
  | nil => exact absurd h (splitL_ne 10 _)
  | cons p ps => rfl

/-- Where the place stands. -/
def PosAt (w : World) (P : Nat) (a b : Int) : Prop := w.cell? ⟨P, 0, none⟩ = some (.int .i64 a) ∧ w.cell? ⟨P, 1, none⟩ = some (.int .i64 b) ∧ w.frozen? ⟨P, 0, none⟩ = false ∧ w.frozen? ⟨P, 1, none⟩ = false
theorem PosAt.kept {w w' : World} {P : Nat} {a b : Int} {row : Option Nat} (h : PosAt w P a b) (hg : w.grownBy w' row) (hne : some P ≠ row) : PosAt w' P a b := by
  obtain ⟨h0, h1, f0, f1⟩ := h
  have hP := block_of_cell h0
  exact ⟨by rw [hg.cell_far ⟨P, 0, none⟩ hP hne]; exact h0, by rw [hg.cell_far ⟨P, 1, none⟩ hP hne]; exact h1, by rw [hg.frozen_far ⟨P, 0, none⟩ hP hne]; exact f0, by rw [hg.frozen_far ⟨P, 1, none⟩ hP hne]; exact f1⟩
theorem PosAt.col {w : World} {P : Nat} {a b : Int} (h : PosAt w P a b) (c : Int) : PosAt (w.setCell ⟨P, 1, none⟩ (.int .i64 c)) P a c := by
  obtain ⟨h0, h1, f0, f1⟩ := h
  refine ⟨?_, ?_, ?_, ?_⟩
  · simp [go_sem, h0, h1, f0, f1]
  · simp [go_sem, h0, h1, f0, f1]
  · simp [go_sem, h0, h1, f0, f1]
  · simp [go_sem, h0, h1, f0, f1]
theorem PosAt.both {w : World} {P : Nat} {a b : Int} (h : PosAt w P a b) (c d : Int) : PosAt ((w.setCell ⟨P, 0, none⟩ (.int .i64 c)).setCell ⟨P, 1, none⟩ (.int .i64 d)) P c d := by
  obtain ⟨h0, h1, f0, f1⟩ := h
  refine ⟨?_, ?_, ?_, ?_⟩
  · simp [go_sem, h0, h1, f0, f1]
  · simp [go_sem, h0, h1, f0, f1]
  · simp [go_sem, h0, h1, f0, f1]
  · simp [go_sem, h0, h1, f0, f1]

theorem gp_refl (w : World) (r : Option Nat) : w.grownBy w r := ⟨rfl, rfl, rfl, Nat.le_refl _, fun _ _ _ => rfl⟩
theorem gp_alloc {w w1 : World} {r : Option Nat} (h : w.grownBy w1 r) (o : Obj) : w.grownBy (w1.alloc o) r := h.trans (World.grownBy_alloc w1 o r)
theorem gp_drew {w w1 : World} {r : Option Nat} (h : w.grownBy w1 r) : w.grownBy w1.drew r := ⟨h.os, h.tape, h.output, h.size, h.block⟩
theorem gp_drewN {w w1 : World} {r : Option Nat} (h : w.grownBy w1 r) (n : Nat) : w.grownBy (w1.drewN n) r := ⟨h.os, h.tape, h.output, h.size, h.block⟩
theorem gp_set1 (w : World) (P j : Nat) (u : Value) : w.grownBy (w.setCell ⟨P, j, none⟩ u) (some P) := by
  have hs : (w.setCell ⟨P, j, none⟩ u).heap.size = w.heap.size := by simp
  have hB : Below 0 w (w.setCell ⟨P, j, none⟩ u) := (Below.refl 0 w).setCell (p := ⟨P, j, none⟩) (Nat.zero_le _) u
  exact ⟨hB.os, hB.tape, hB.output, by omega, fun k hk hne => Below.heap_setCell _ _ _ _ (by show k ≠ P; exact fun e => hne (by rw [e]))⟩
theorem gp_set {w w1 : World} {P : Nat} (h : w.grownBy w1 (some P)) (j : Nat) (u : Value) : w.grownBy (w1.setCell ⟨P, j, none⟩ u) (some P) := h.trans (gp_set1 w1 P j u)

/-- What the reference's loop keeps: the gathered lines, the line that is being read; apart from the block P. -/
def RInv (B P : Nat) (w : World) (out : Value) (acc : List (List Tok)) (line : Value) (ws : List Tok) : Prop :=
  (∃ hs : List Value, w.ownsRow B 59 1 out acc.length hs ∧ ∀ (j : Nat) (h : Value) (l : List Tok), hs[j]? = some h → acc[j]? = some l →
    w.ownsRow B 61 3 h l.length (cellsT l) ∧ (h.ownBlock = none ∨ (h.ownBlock ≠ out.ownBlock ∧ h.ownBlock ≠ line.ownBlock ∧ h.ownBlock ≠ some P))) ∧
  out.ownBlock ≠ some P ∧ w.ownsRow B 61 3 line ws.length (cellsT ws) ∧ (line.ownBlock = none ∨ (line.ownBlock ≠ out.ownBlock ∧ line.ownBlock ≠ some P))

theorem RInv.start (B P : Nat) (w : World) : RInv B P w (.slice none 0 0) [] (.slice none 0 0) [] :=
  ⟨⟨[], World.ownsRow_nil _ _ _ _, fun j h l hj => by simp at hj⟩, by simp [Value.ownBlock], World.ownsRow_nil _ _ _ _, .inl rfl⟩
theorem RInv.kept {B P : Nat} {w w' : World} {out line : Value} {acc : List (List Tok)} {ws : List Tok} (h : RInv B P w out acc line ws) (hg : w.grownBy w' (some P)) : RInv B P w' out acc line ws := by
  obtain ⟨⟨hs, h1, h2⟩, h3, h4, h5⟩ := h
  refine ⟨⟨hs, h1.kept hg (.inr h3), fun j x l hx hl => ?_⟩, h3, h4.kept hg (h5.imp id fun h => h.2), h5⟩
  obtain ⟨h6, h7⟩ := h2 j x l hx hl
  exact ⟨h6.kept hg (h7.imp id fun h => h.2.2), h7⟩
/-- The empty line. -/
theorem RInv.fresh {B P : Nat} {w : World} {out line : Value} {acc : List (List Tok)} {ws : List Tok} (h : RInv B P w out acc line ws) : RInv B P w out acc (.slice none 0 0) [] := by
  obtain ⟨⟨hs, h1, h2⟩, h3, h4, h5⟩ := h
  refine ⟨⟨hs, h1, fun j x l hx hl => ?_⟩, h3, World.ownsRow_nil _ _ _ _, .inl rfl⟩
  obtain ⟨h6, h7⟩ := h2 j x l hx hl
  refine ⟨h6, ?_⟩
  rcases h7 with h7 | h7
  · exact .inl h7
  · by_cases hn : x.ownBlock = none
    · exact .inl hn
    · exact .inr ⟨h7.1, by simpa [Value.ownBlock] using hn, h7.2.2⟩
/-- The line's own row has turned into another one. -/
theorem RInv.line {B P : Nat} {w w' : World} {out line line' : Value} {acc : List (List Tok)} {ws ws' : List Tok} {g : Nat} (h : RInv B P w out acc line ws) (hg : w.grownBy w' line.ownBlock) (hP : P < w.heap.size)
    (hown : w'.ownsRow B 61 3 line' ws'.length (cellsT ws')) (hb : line'.ownBlock = some g) (hG : line.ownBlock = some g ∨ w.heap.size ≤ g) : RInv B P w' out acc line' ws' := by
  obtain ⟨⟨hs, h1, h2⟩, h3, h4, h5⟩ := h
  have hgo : ∀ {x : Value} {e : TypeId} {size n : Nat} {xs : List Value}, w.ownsRow B e size x n xs → x.ownBlock ≠ line.ownBlock → x.ownBlock ≠ some g := by
    intro x e size n xs hx hne
    rcases hG with hG | hG
    · rw [← hG]; exact hne
    · intro e; have := (hx.lt g e).2; omega
  refine ⟨⟨hs, ?_, fun j x l hx hl => ?_⟩, h3, hown, .inr ⟨?_, ?_⟩⟩
  · by_cases hn : line.ownBlock = none
    · exact h1.kept hg (by rw [hn]; by_cases ho : out.ownBlock = none; exact .inl ho; exact .inr ho)
    · rcases h5 with h5 | h5
      · exact absurd h5 hn
      · exact h1.kept hg (.inr (Ne.symm h5.1))
  · obtain ⟨h6, h7⟩ := h2 j x l hx hl
    rcases h7 with h7 | h7
    · exact ⟨h6.kept hg (.inl h7), .inl h7⟩
    · exact ⟨h6.kept hg (.inr h7.2.1), .inr ⟨h7.1, by rw [hb]; exact hgo h6 h7.2.1, h7.2.2⟩⟩
  · rw [hb]
    rcases hG with hG | hG
    · rw [← hG]
      rcases h5 with h5 | h5
      · rw [h5] at hG; cases hG
      · exact h5.1
    · intro e; have := (h1.lt g e.symm).2; omega
  · rw [hb]
    rcases hG with hG | hG
    · rw [← hG]
      rcases h5 with h5 | h5
      · rw [h5] at hG; cases hG
      · exact h5.2
    · intro e; cases e; omega
/-- One line more. -/
theorem RInv.more {B P : Nat} {w w' : World} {out line : Value} {acc : List (List Tok)} {ws : List Tok} {g cap : Nat} {hs : List Value} (hP : P < w.heap.size)
    (h1 : w.ownsRow B 59 1 out acc.length hs)
    (h2 : ∀ (j : Nat) (h : Value) (l : List Tok), hs[j]? = some h → acc[j]? = some l → w.ownsRow B 61 3 h l.length (cellsT l) ∧ (h.ownBlock = none ∨ (h.ownBlock ≠ out.ownBlock ∧ h.ownBlock ≠ line.ownBlock ∧ h.ownBlock ≠ some P)))
    (h3 : out.ownBlock ≠ some P) (h4 : w.ownsRow B 61 3 line ws.length (cellsT ws)) (h5 : line.ownBlock = none ∨ (line.ownBlock ≠ out.ownBlock ∧ line.ownBlock ≠ some P))
    (hown : w'.ownsRow B 59 1 (.slice (some ⟨g, 0, none⟩) (acc.length + 1) cap) (acc.length + 1) (hs ++ [line])) (hg : w.grownBy w' out.ownBlock) (hG : out.ownBlock = some g ∨ w.heap.size ≤ g) :
    RInv B P w' (.slice (some ⟨g, 0, none⟩) (acc.length + 1) cap) (acc ++ [ws]) (.slice none 0 0) [] := by
  have hl : hs.length = acc.length := by have := h1.1; omega
  have key : ∀ (x : Value) (q : List Tok), w.ownsRow B 61 3 x q.length (cellsT q) → (x.ownBlock = none ∨ (x.ownBlock ≠ out.ownBlock ∧ x.ownBlock ≠ some P)) →
      w'.ownsRow B 61 3 x q.length (cellsT q) ∧ (x.ownBlock = none ∨ (x.ownBlock ≠ (Value.slice (some ⟨g, 0, none⟩) (acc.length + 1) cap).ownBlock ∧ x.ownBlock ≠ (Value.slice none 0 0).ownBlock ∧ x.ownBlock ≠ some P)) := by
    intro x q hx hq
    refine ⟨hx.kept hg (hq.imp id fun h => h.1), ?_⟩
    by_cases hn : x.ownBlock = none
    · exact .inl hn
    · rcases hq with hq | hq
      · exact .inl hq
      · refine .inr ⟨?_, by simpa [Value.ownBlock] using hn, hq.2⟩
        show x.ownBlock ≠ some g
        rcases hG with hG | hG
        · rw [← hG]; exact hq.1
        · intro e; have := (hx.lt g e).2; omega
  refine ⟨⟨hs ++ [line], by simpa using hown, fun j x q hx hq => ?_⟩, ?_, World.ownsRow_nil _ _ _ _, .inl rfl⟩
  · by_cases hj : j < acc.length
    · rw [List.getElem?_append_left (by omega)] at hx
      rw [List.getElem?_append_left hj] at hq
      have := h2 j x q hx hq
      exact key x q this.1 (this.2.imp id fun h => ⟨h.1, h.2.2⟩)
    · have hj2 : j = acc.length := by
        have := (List.getElem?_eq_some_iff.1 hq).1
        simp at this; omega
      subst hj2
      rw [List.getElem?_append_right (by omega)] at hx hq
      simp [hl] at hx hq
      subst hx; subst hq
      exact key _ _ h4 h5
  · show some g ≠ some P
    rcases hG with hG | hG
    · rw [← hG]; exact h3
    · intro e; cases e; omega
theorem RInv.ls {B P : Nat} {w : World} {out line : Value} {acc : List (List Tok)} {ws : List Tok} (h : RInv B P w out acc line ws) : Ls w out acc := by
  obtain ⟨⟨hs, h1, h2⟩, _⟩ := h
  exact ⟨hs, Sl.of_owns h1, fun j x l hx hl => Sl.of_owns (h2 j x l hx hl).1⟩
theorem lineRun_nl (l : List UInt8) (j k q : Nat) (st : St) (acc : List (List Tok)) (c : UInt8) (h : l.drop j = c :: l.drop (j + 1)) (hc : c = 10) : lineRun (l.drop j) k q st acc = lineRun (l.drop (j + 1)) (k + 1) 0 ⟨[], false, false⟩ (addLine acc st.words) := by
  rw [h, lineRun, if_pos hc]
theorem lineRun_bad (l : List UInt8) (j k q : Nat) (st : St) (acc : List (List Tok)) (c : UInt8) (h : l.drop j = c :: l.drop (j + 1)) (hc : ¬ c = 10) (hb : badC c = true) : lineRun (l.drop j) k q st acc = .inl (k + 1, q + 1) := by
  rw [h, lineRun, if_neg hc, if_pos hb]
theorem lineRun_step (l : List UInt8) (j k q : Nat) (st : St) (acc : List (List Tok)) (c : UInt8) (h : l.drop j = c :: l.drop (j + 1)) (hc : ¬ c = 10) (hb : ¬ badC c = true) : lineRun (l.drop j) k q st acc = lineRun (l.drop (j + 1)) k (q + 1) (stepC (k + 1) q c st) acc := by
  rw [h, lineRun, if_neg hc, if_neg hb]
theorem lineRun_end (l : List UInt8) (j k q : Nat) (st : St) (acc : List (List Tok)) (h : l.length ≤ j) : lineRun (l.drop j) k q st acc = .inr (addLine acc st.words) := by
  rw [List.drop_eq_nil_of_le h]; rfl
end Go.Proofs.YtcpfbemmlmdcaaaDoor.Lx
