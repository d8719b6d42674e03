/-
  The walks of the reader's next, fail, word and name (layer 34).
-/
import Derived.Test.YtokbipfkpojflaaDoorScJ
import Derived.Test.YtokbipfkpojflaaDoorScV
set_option linter.unusedSimpArgs false
set_option linter.unusedVariables false
namespace Go.Proofs.YtokbipfkpojflaaDoor.Sc
open Go Go.RowKit Go.ChangeShapes Go.WideShapes Go.Proofs.YtokbipfkpojflaaDoor.Sl Go.Lib
open Go.Proofs.YtokbipfkpojflaaDoor.Lx (Tok tokV cellsT cellsT_len cellsT_app cellsT_one)

/-- A block that holds these cells. -/
def Bx (w : World) (B : Nat) (t : TypeId) (cs : Array Value) : Prop := w.heap[B]? = some (.cells cs t (0, 0))
theorem Bx.cell {w : World} {B : Nat} {t : TypeId} {cs : Array Value} (h : Bx w B t cs) (j : Nat) (u : Value) (hu : cs[j]? = some u) : w.cell? ⟨B, j, none⟩ = some u := by
  rw [cell_of_row _ _ j _ _ _ h]; exact hu
theorem Bx.frozen {w : World} {B : Nat} {t : TypeId} {cs : Array Value} (h : Bx w B t cs) (j : Nat) : w.frozen? ⟨B, j, none⟩ = false := by
  have hh : w.heap[B]? = some (.cells cs t (0, 0)) := h
  simp [World.frozen?, hh]
theorem Bx.lt {w : World} {B : Nat} {t : TypeId} {cs : Array Value} (h : Bx w B t cs) : B < w.heap.size := by
  have hh : w.heap[B]? = some (.cells cs t (0, 0)) := h
  exact (Array.getElem?_eq_some_iff.1 hh).1
theorem Bx.new (w : World) (t : TypeId) (cs : Array Value) : Bx (w.alloc (.cells cs t)) w.heap.size t cs := heap_alloc_new w _
theorem Bx.far {w w' : World} {B : Nat} {t : TypeId} {cs : Array Value} {row : Option Nat} (h : Bx w B t cs) (hg : w.grownBy w' row) (hne : some B ≠ row) : Bx w' B t cs := (hg.block B h.lt hne).trans h
theorem Bx.below {w w' : World} {B : Nat} {t : TypeId} {cs : Array Value} (h : Bx w B t cs) (hb : Below w.heap.size w w') : Bx w' B t cs := (hb.block B h.lt).trans h
theorem Bx.alloc {w : World} {B : Nat} {t : TypeId} {cs : Array Value} (h : Bx w B t cs) (o : Obj) : Bx (w.alloc o) B t cs := h.far (World.grownBy_alloc w o none) (by simp)
theorem Bx.set {w : World} {B : Nat} {t : TypeId} {cs : Array Value} (h : Bx w B t cs) (j : Nat) (u : Value) (hj : j < cs.size) : Bx (w.setCell ⟨B, j, none⟩ u) B t (cs.set j u hj) := by
  have hh : w.heap[B]? = some (.cells cs t (0, 0)) := h
  have hlt := (Array.getElem?_eq_some_iff.1 hh).1
  have he := (Array.getElem?_eq_some_iff.1 hh).2
  unfold Bx World.setCell
  simp [hh, hj, hlt, Array.getElem_modify, he, Array.setIfInBounds]
theorem Bx.sett {w : World} {B : Nat} {t : TypeId} {cs cs' : Array Value} (h : Bx w B t cs) (j : Nat) (u : Value) (hj : j < cs.size) (e : cs.set j u hj = cs') : Bx (w.setCell ⟨B, j, none⟩ u) B t cs' := e ▸ h.set j u hj
theorem Bx.setFar {w : World} {B : Nat} {t : TypeId} {cs : Array Value} (h : Bx w B t cs) (P j : Nat) (u : Value) (hne : B ≠ P) : Bx (w.setCell ⟨P, j, none⟩ u) B t cs := h.far (gp_set1 w P j u) (by simpa using hne)

/-- What the reader holds: the tokens that are left, the place of the first error, its number. -/
structure Rd where
  toks : List Tok
  p : Nat × Nat
  e : Int
def tok0 : Tok := (⟨#[]⟩, 0, 0)
def nextR (r : Rd) : Tok × Rd := if r.e = 0 then (match r.toks with | [] => (tok0, ⟨[], r.p, 4⟩) | t :: l => (t, ⟨l, r.p, 0⟩)) else (tok0, r)
def failR (r : Rd) (t : Tok) (e : Int) : Rd := if r.e = 0 then ⟨r.toks, t.2, e⟩ else r
def wordR (r : Rd) (l : List ByteArray) : ByteArray × Rd := ((nextR r).1.1, if Lib.containsS l (nextR r).1.1 = true then (nextR r).2 else failR (nextR r).2 (nextR r).1 3)
def nameR (r : Rd) : ByteArray × Rd := ((nextR r).1.1, if nmB (nextR r).1.1 = true then (nextR r).2 else failR (nextR r).2 (nextR r).1 3)
theorem nextR_len (r : Rd) : (nextR r).2.toks.length ≤ r.toks.length := by
  unfold nextR
  split
  · cases h : r.toks with
    | nil => simp
    | cons t l => simp
  · exact Nat.le_refl _
theorem failR_toks (r : Rd) (t : Tok) (e : Int) : (failR r t e).toks = r.toks := by unfold failR; split <;> rfl
theorem wordR_len (r : Rd) (l : List ByteArray) : (wordR r l).2.toks.length ≤ r.toks.length := by
  have := nextR_len r
  unfold wordR
  dsimp only
  split
  · exact this
  · rw [failR_toks]; exact this
theorem nameR_len (r : Rd) : (nameR r).2.toks.length ≤ r.toks.length := by
  have := nextR_len r
  unfold nameR
  dsimp only
  split
  · exact this
  · rw [failR_toks]; exact this

/-- The reader, in block RB. -/
def RdAt (w : World) (RB TB : Nat) (r : Rd) : Prop := ∃ a c, Bx w RB 65 #[.slice a r.toks.length c, .int .i64 r.p.1, .int .i64 r.p.2, .int .i64 r.e] ∧ Ts w (.slice a r.toks.length c) r.toks ∧ (∀ g off, a = some ⟨g, off, none⟩ → r.toks.length ≠ 0 → g = TB) ∧ TB ≠ RB
def tokA (t : Tok) : Value := .agg #[.string t.1, .int .i64 t.2.1, .int .i64 t.2.2]
theorem Ts.far {w w' : World} {a : Option Addr} {c TB : Nat} {row : Option Nat} {l : List Tok} (h : Ts w (.slice a l.length c) l) (hg : w.grownBy w' row) (hne : ∀ g off, a = some ⟨g, off, none⟩ → l.length ≠ 0 → g = TB) (hTR : some TB ≠ row) : Ts w' (.slice a l.length c) l := by
  obtain ⟨⟨h1, ad, cap, e, h2⟩, h3⟩ := h
  refine ⟨⟨h1, ad, cap, e, fun hn => ?_⟩, h3⟩
  obtain ⟨g, off, rfl, hc⟩ := h2 hn
  simp only [Value.slice.injEq] at e
  obtain ⟨rfl, _, _⟩ := e
  refine ⟨g, off, rfl, fun j u hu => ?_⟩
  have := hc j u hu
  rw [hg.cell_far _ (block_of_cell this) (by rw [hne g off rfl hn]; exact hTR)]
  exact this
theorem ts_head {w : World} {g off c : Nat} {t : Tok} {l : List Tok} (h : Ts w (.slice (some ⟨g, off, none⟩) (l.length + 1) c) (t :: l)) : w.cell? ⟨g, off, none⟩ = some (.string t.1) ∧ w.cell? ⟨g, off + 1, none⟩ = some (.int .i64 t.2.1) ∧ w.cell? ⟨g, off + 2, none⟩ = some (.int .i64 t.2.2) := by
  obtain ⟨⟨h1, ad, cap, e, h2⟩, h3⟩ := h
  obtain ⟨g', off', rfl, hc⟩ := h2 (by simp)
  simp only [Value.slice.injEq, Option.some.injEq, Addr.mk.injEq] at e
  obtain ⟨⟨rfl, rfl, _⟩, _, _⟩ := e
  exact ⟨hc 0 _ (by simp [cellsT, tokV]), hc 1 _ (by simp [cellsT, tokV]), hc 2 _ (by simp [cellsT, tokV])⟩
theorem ts_tail {w : World} {g off c : Nat} {t : Tok} {l : List Tok} (h : Ts w (.slice (some ⟨g, off, none⟩) (l.length + 1) c) (t :: l)) (a' : Option Addr) (c' : Nat) (hc' : l.length ≤ c') (ha : l.length ≠ 0 → a' = some ⟨g, off + 3, none⟩) : Ts w (.slice a' l.length c') l := by
  obtain ⟨⟨h1, ad, cap, e, h2⟩, h3⟩ := h
  obtain ⟨g', off', rfl, hc⟩ := h2 (by simp)
  simp only [Value.slice.injEq, Option.some.injEq, Addr.mk.injEq] at e
  obtain ⟨⟨rfl, rfl, _⟩, _, _⟩ := e
  refine ⟨⟨by rw [cellsT_len], a', c', rfl, fun hn => ⟨g, off + 3, ha hn, fun j u hu => ?_⟩⟩, Cap.mk hc'⟩
  have := hc (3 + j) u (by
    show ((tokV t) ++ cellsT l)[3 + j]? = some u
    rw [List.getElem?_append_right (by simp [tokV])]
    simpa [tokV] using hu)
  rw [show off + (3 + j) = off + 3 + j by omega] at this
  exact this
set_option maxRecDepth 20000 in
theorem next_any (RB TB : Nat) (r : Rd) (w : World) (h : RdAt w RB TB r) : Calls Tryd.prog 32 #[.pointer (some ⟨RB, 0, none⟩)] w fun e w' => e = .returned (tokA (nextR r).1) ∧ RdAt w' RB TB (nextR r).2 ∧ w.grownBy w' (some RB) := by
  obtain ⟨a, c, hb, ht, hne', hTR'⟩ := h
  obtain ⟨toks, p, e⟩ := r
  dsimp only at hb ht hne'
  have hne := Lib.hid hne'
  have hTR := Lib.hid hTR'
  clear hne' hTR'
  have HB := Lib.hid hb
  have HT := Lib.hid ht
  have c0 := hb.cell 0 _ rfl
  have c1 := hb.cell 1 _ rfl
  have c2 := hb.cell 2 _ rfl
  have c3 := hb.cell 3 _ rfl
  have f0 := hb.frozen 0
  have f3 := hb.frozen 3
  have hlt := hb.lt
  by_cases he : e = 0
  · subst he
    cases toks with
    | nil =>
      clear ht hb
      go_enter Tryd.func32, Tryd.ntmps32
      go_wp2
      refine bodyPost_ret (v := tokA tok0) (by simp [results, Tryd.results32, go_sem, tokA, tok0]; try rfl) rfl ?_
      refine ⟨rfl, ⟨a, c, ((HB.out.sett 3 (.int .i64 4) (by simp) rfl).alloc _), ?_, hne.out, hTR.out⟩, (gp_set1 _ _ _ _).trans (World.grownBy_alloc _ _ _)⟩
      exact (HT.out.far ((gp_set1 w RB 3 (.int .i64 4)).trans (World.grownBy_alloc _ _ _)) hne.out (by simpa using hTR.out))
    | cons t l =>
      obtain ⟨g, off, cp, e1, hc⟩ := ht.1.open (by simp)
      simp only [Value.slice.injEq] at e1
      obtain ⟨rfl, _, rfl⟩ := e1
      obtain ⟨t0, t1, t2⟩ := ts_head ht
      have hg : g ≠ RB := by rw [hne.out g off rfl (by simp)]; exact hTR.out
      have hgT := Lib.hid (show g = TB from hne.out g off rfl (by simp))
      have hgl := block_of_cell t0
      have hl1 : ((l.length : Int) + 1 == 0) = false := by simp; omega
      have hcap := ht.2.le
      rw [List.length_cons] at hcap
      have k1 : (1 : Int) ≤ ((l.length + 1 : Nat) : Int) := by omega
      clear ht hb hc
      by_cases hc1 : c = 1
      · subst hc1
        have hl0 : l = [] := List.length_eq_zero_iff.1 (by omega)
        subst hl0
        go_enter Tryd.func32, Tryd.ntmps32
        go_wp2
        refine bodyPost_ret (v := tokA t) (by simp [results, Tryd.results32, go_sem, tokA]; try rfl) rfl ?_
        refine ⟨rfl, ⟨_, _, (((HB.out.sett 0 (.slice (some ⟨g, off, none⟩) 0 0) (by simp) rfl).alloc _).alloc _), ⟨Sl.mk0 .., Cap.mk (Nat.le_refl _)⟩, fun _ _ _ h => absurd rfl h, hTR.out⟩, ((gp_set1 _ _ _ _).trans (World.grownBy_alloc _ _ _)).trans (World.grownBy_alloc _ _ _)⟩
      · go_enter Tryd.func32, Tryd.ntmps32
        go_wp2
        refine bodyPost_ret (v := tokA t) (by simp [results, Tryd.results32, go_sem, tokA]; try rfl) rfl ?_
        have hgr := ((gp_set1 w RB 0 (.slice (some ⟨g, off + 3, none⟩) l.length (c - 1))).trans (World.grownBy_alloc _ (.cells #[.string t.1, .int .i64 t.2.1, .int .i64 t.2.2] 71) _)).trans (World.grownBy_alloc _ (.cells #[.string t.1, .int .i64 t.2.1, .int .i64 t.2.2] 71) _)
        have ht2 := (ts_tail HT.out (some ⟨g, off + 3, none⟩) (c - 1) (by omega) (fun _ => rfl)).far hgr (fun g' off' e _ => by cases e; exact hgT.out) (by simpa using hTR.out)
        exact ⟨rfl, ⟨_, _, (((HB.out.sett 0 (.slice (some ⟨g, off + 3, none⟩) l.length (c - 1)) (by simp) rfl).alloc _).alloc _), ht2, (fun g' off' e _ => by cases e; exact hgT.out), hTR.out⟩, hgr⟩
  · have he2 : (e != 0) = true := by simpa using he
    have hx : nextR ⟨toks, p, e⟩ = (tok0, ⟨toks, p, e⟩) := by unfold nextR; rw [if_neg he]
    rw [hx]
    clear ht hb
    go_enter Tryd.func32, Tryd.ntmps32
    go_wp2
    refine bodyPost_ret (v := tokA tok0) (by simp [results, Tryd.results32, go_sem, tokA, tok0]; try rfl) rfl ?_
    exact ⟨rfl, ⟨a, c, HB.out.alloc _, HT.out.far (row := none) (World.grownBy_alloc _ _ _) hne.out (by simp), hne.out, hTR.out⟩, World.grownBy_alloc _ _ _⟩
theorem RdAt.alloc {w : World} {RB TB : Nat} {r : Rd} (h : RdAt w RB TB r) (o : Obj) : RdAt (w.alloc o) RB TB r := by
  obtain ⟨a, c, hb, ht, hne, hTR⟩ := h
  exact ⟨a, c, hb.alloc o, ht.far (row := none) (World.grownBy_alloc w o _) hne (by simp), hne, hTR⟩
theorem RdAt.lt {w : World} {RB TB : Nat} {r : Rd} (h : RdAt w RB TB r) : RB < w.heap.size := by
  obtain ⟨a, c, hb, ht, hne, hTR⟩ := h
  exact hb.lt
theorem RdAt.below {w w' : World} {RB TB : Nat} {r : Rd} (h : RdAt w RB TB r) (hb : Below w.heap.size w w') : RdAt w' RB TB r := by
  obtain ⟨a, c, h1, ht, hne, hTR⟩ := h
  exact ⟨a, c, h1.below hb, ht.below hb, hne, hTR⟩
set_option maxRecDepth 20000 in
theorem fail_any (RB TB : Nat) (r : Rd) (t : Tok) (x : Int) (w : World) (h : RdAt w RB TB r) : Calls Tryd.prog 34 #[.pointer (some ⟨RB, 0, none⟩), .agg #[.string t.1, .int .i64 t.2.1, .int .i64 t.2.2], .int .i64 x] w fun e w' => e = .returned (.tuple #[]) ∧ RdAt w' RB TB (failR r t x) ∧ w.grownBy w' (some RB) := by
  obtain ⟨a, c, hb, ht, hne', hTR'⟩ := h
  obtain ⟨toks, p, e⟩ := r
  dsimp only at hb ht hne'
  have hne := Lib.hid hne'
  have hTR := Lib.hid hTR'
  clear hne' hTR'
  have HB := Lib.hid hb
  have HT := Lib.hid ht
  have c0 := hb.cell 0 _ rfl
  have c1 := hb.cell 1 _ rfl
  have c2 := hb.cell 2 _ rfl
  have c3 := hb.cell 3 _ rfl
  have f1 := hb.frozen 1
  have f2 := hb.frozen 2
  have f3 := hb.frozen 3
  have hlt := hb.lt
  by_cases he : e = 0
  · subst he
    clear ht hb
    go_enter Tryd.func34, Tryd.ntmps34
    go_wp2
    go_end0
    have hgr := (((gp_set1 w RB 1 (.int .i64 t.2.1)).trans (gp_set1 _ RB 2 (.int .i64 t.2.2))).trans (gp_set1 _ RB 3 (.int .i64 x))).trans (World.grownBy_alloc _ (.cells #[.string t.1, .int .i64 t.2.1, .int .i64 t.2.2] 71) (some RB))
    refine ⟨rfl, ⟨a, c, ?_, HT.out.far hgr hne.out (by simpa using hTR.out), hne.out, hTR.out⟩, hgr⟩
    exact (((HB.out.sett 1 (.int .i64 t.2.1) (by simp) rfl).sett 2 (.int .i64 t.2.2) (by simp) rfl).sett 3 (.int .i64 x) (by simp) rfl).alloc _
  · have he2 : (e == 0) = false := by simpa using he
    have hx : failR ⟨toks, p, e⟩ t x = ⟨toks, p, e⟩ := by unfold failR; rw [if_neg he]
    rw [hx]
    clear ht hb
    go_enter Tryd.func34, Tryd.ntmps34
    go_wp2
    go_end0
    exact ⟨rfl, ⟨a, c, HB.out.alloc _, HT.out.far (row := none) (World.grownBy_alloc _ _ _) hne.out (by simp), hne.out, hTR.out⟩, World.grownBy_alloc _ _ _⟩
set_option maxRecDepth 20000 in
theorem word_any (RB TB : Nat) (r : Rd) (l : List ByteArray) (s : Value) (w : World) (h : RdAt w RB TB r) (hl : l.length ≤ 1000000) (hs : ∀ W, w.grownBy W (some RB) → Ss W s l) : Calls Tryd.prog 27 #[.pointer (some ⟨RB, 0, none⟩), s] w fun e w' => e = .returned (.string (wordR r l).1) ∧ RdAt w' RB TB (wordR r l).2 ∧ w.grownBy w' (some RB) := by
  have HNX := next_any RB TB r w h
  obtain ⟨ad, cap, rfl, hcap⟩ := (hs w (gp_refl w _)).form
  unfold wordR
  dsimp only
  generalize nextR r = q at HNX ⊢
  obtain ⟨t, r1⟩ := q
  dsimp only at HNX ⊢
  have HC := fun W (hg : w.grownBy W (some RB)) => contains_any l _ t.1 W hl (hs W hg)
  have HF := fun W (h : RdAt W RB TB r1) => fail_any RB TB r1 t 3 W h
  generalize Lib.containsS l t.1 = b at HC ⊢
  generalize l.length = n at *
  clear hs h
  cases b
  · go_enter Tryd.func27, Tryd.ntmps27
    go_wp2_with (first | (go_at_call 32; with_reducible refine HNX.mono ?_; rintro e w1 ⟨rfl, h1, g1⟩; unfold tokA; have hsz := g1.size) | (go_at_call 43; with_reducible refine (HC _ (g1.trans (World.grownBy_alloc _ _ _))).mono ?_; rintro e w2 ⟨rfl, rfl⟩) | (go_at_call 34; with_reducible refine (HF _ (h1.alloc _)).mono ?_; rintro e w3 ⟨rfl, h3, g3⟩; have k0 : w3.cell? ⟨w1.heap.size, 0, none⟩ = some (.string t.1) := g3.cell ((Bx.new w1 _ _).cell 0 _ rfl) (by have := h1.lt; simp; omega)))
    go_ret
    exact ⟨rfl, h3, (g1.trans (World.grownBy_alloc _ _ _)).trans g3⟩
  · go_enter Tryd.func27, Tryd.ntmps27
    go_wp2_with (first | (go_at_call 32; with_reducible refine HNX.mono ?_; rintro e w1 ⟨rfl, h1, g1⟩; unfold tokA; have hsz := g1.size) | (go_at_call 43; with_reducible refine (HC _ (g1.trans (World.grownBy_alloc _ _ _))).mono ?_; rintro e w2 ⟨rfl, rfl⟩))
    go_ret
    exact ⟨rfl, h1.alloc _, g1.trans (World.grownBy_alloc _ _ _)⟩
set_option maxRecDepth 20000 in
theorem pname_any (RB TB : Nat) (r : Rd) (w : World) (h : RdAt w RB TB r) : Calls Tryd.prog 28 #[.pointer (some ⟨RB, 0, none⟩)] w fun e w' => e = .returned (.string (nameR r).1) ∧ RdAt w' RB TB (nameR r).2 ∧ w.grownBy w' (some RB) := by
  have HNX := next_any RB TB r w h
  unfold nameR
  dsimp only
  generalize nextR r = q at HNX ⊢
  obtain ⟨t, r1⟩ := q
  dsimp only at HNX ⊢
  have HC := fun W => name_is t.1 W
  have HF := fun W (h : RdAt W RB TB r1) => fail_any RB TB r1 t 3 W h
  generalize nmB t.1 = b at HC ⊢
  clear h
  cases b
  · go_enter Tryd.func28, Tryd.ntmps28
    go_wp2_with (first | (go_at_call 32; with_reducible refine HNX.mono ?_; rintro e w1 ⟨rfl, h1, g1⟩; unfold tokA; have hsz := g1.size) | (go_at_call 22; with_reducible refine (HC _).mono ?_; rintro e w2 ⟨rfl, rfl⟩) | (go_at_call 34; with_reducible refine (HF _ (h1.alloc _)).mono ?_; rintro e w3 ⟨rfl, h3, g3⟩; have k0 : w3.cell? ⟨w1.heap.size, 0, none⟩ = some (.string t.1) := g3.cell ((Bx.new w1 _ _).cell 0 _ rfl) (by have := h1.lt; simp; omega)))
    go_ret
    exact ⟨rfl, h3, (g1.trans (World.grownBy_alloc _ _ _)).trans g3⟩
  · go_enter Tryd.func28, Tryd.ntmps28
    go_wp2_with (first | (go_at_call 32; with_reducible refine HNX.mono ?_; rintro e w1 ⟨rfl, h1, g1⟩; unfold tokA; have hsz := g1.size) | (go_at_call 22; with_reducible refine (HC _).mono ?_; rintro e w2 ⟨rfl, rfl⟩))
    go_ret
    exact ⟨rfl, h1.alloc _, g1.trans (World.grownBy_alloc _ _ _)⟩
end Go.Proofs.YtokbipfkpojflaaDoor.Sc
