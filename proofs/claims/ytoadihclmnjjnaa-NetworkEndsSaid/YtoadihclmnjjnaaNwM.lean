/-
  Networks: matrices and the map of compositions in memory; the composer's of (layer 46).
-/
import Derived.Test.YtoadihclmnjjnaaNwA
import Derived.Test.YtoadihclmnjjnaaCmp
import Derived.Maps.OwnSet
import Derived.ChangeKeys
import Derived.DeepKeys4
set_option linter.unusedSimpArgs false
set_option linter.unusedVariables false
set_option maxRecDepth 100000
namespace Go.Proofs.Ytoadihclmnjjnaa.Nw
open Go Go.RowKit Go.ChangeShapes Go.WideShapes Go.Proofs.Ytoadihclmnjjnaa.Sl Go.Proofs.Ytoadihclmnjjnaa.Al Go.Lib

/-! ### what a call may write -/
/-- Behind the call all blocks but those of S are as they were. -/
structure Md (S : Nat → Prop) (w w' : World) : Prop where
  os : w'.os = w.os
  tape : w'.tape = w.tape
  output : w'.output = w.output
  size : w.heap.size ≤ w'.heap.size
  block : ∀ k, k < w.heap.size → ¬ S k → w'.heap[k]? = w.heap[k]?
theorem Md.refl (S : Nat → Prop) (w : World) : Md S w w := ⟨rfl, rfl, rfl, Nat.le_refl _, fun _ _ _ => rfl⟩
theorem Md.trans {S : Nat → Prop} {a b c : World} (h : Md S a b) (k : Md S b c) : Md S a c :=
  ⟨k.os.trans h.os, k.tape.trans h.tape, k.output.trans h.output, Nat.le_trans h.size k.size, fun i hi hs => (k.block i (Nat.lt_of_lt_of_le hi h.size) hs).trans (h.block i hi hs)⟩
theorem Md.mono {S T : Nat → Prop} {w w' : World} (h : Md S w w') (hST : ∀ k, k < w.heap.size → S k → T k) : Md T w w' := ⟨h.os, h.tape, h.output, h.size, fun k hk hn => h.block k hk fun hs => hn (hST k hk hs)⟩
theorem Md.of_below {S : Nat → Prop} {w w' : World} (h : Below w.heap.size w w') : Md S w w' := ⟨h.os, h.tape, h.output, h.size, fun k hk _ => h.block k hk⟩
theorem Md.below {S : Nat → Prop} {w w' : World} (h : Md S w w') {N : Nat} (hN : N ≤ w.heap.size) (hS : ∀ k, S k → N ≤ k) : Below N w w' := ⟨h.os, h.tape, h.output, h.size, fun k hk => h.block k (by omega) fun hs => by have := hS k hs; omega⟩
theorem Md.of_grown {w w' : World} {b : Nat} (h : w.grownBy w' (some b)) : Md (fun k => k = b) w w' := ⟨h.os, h.tape, h.output, h.size, fun k hk hn => h.block k hk (by simpa using hn)⟩
theorem Md.setCell {S : Nat → Prop} {a w : World} (h : Md S a w) {b : Nat} (o : Nat) (hb : S b ∨ a.heap.size ≤ b) (u : Value) : Md S a (w.setCell ⟨b, o, none⟩ u) :=
  ⟨h.os, h.tape, h.output, by simpa [World.setCell] using h.size, fun k hk hn => by
    rw [Below.heap_setCell _ _ _ _ (fun e => by
      rcases hb with hb | hb
      · exact hn (by rw [e]; exact hb)
      · simp at e; omega)]
    exact h.block k hk hn⟩
theorem grown_below {w w' : World} (h : Below w.heap.size w w') : w.grownBy w' none := ⟨h.os, h.tape, h.output, h.size, fun k hk _ => h.block k hk⟩
theorem Md.alloc {S : Nat → Prop} {a w : World} (h : Md S a w) (o : Obj) : Md S a (w.alloc o) := h.trans (Md.of_below ((Below.refl _ _).alloc (Nat.le_refl _) o))
theorem Md.step {S : Nat → Prop} {a w w' : World} (h : Md S a w) (hb : Below w.heap.size w w') : Md S a w' := h.trans (Md.of_below hb)
theorem Md.drew {S : Nat → Prop} {a w : World} (h : Md S a w) : Md S a w.drew := ⟨h.os, h.tape, h.output, h.size, h.block⟩

theorem Md.kept {S : Nat → Prop} {w w' : World} (h : Md S w w') {b o : Nat} {u : Value} (hc : w.cell? ⟨b, o, none⟩ = some u) (hb : ¬ S b) : w'.cell? ⟨b, o, none⟩ = some u :=
  (World.cell?_of_block (w := w) (h.block b (block_of_cell hc) hb)).trans hc

/-! ### a matrix in memory -/
/-- A block that holds a row of numbers. -/
def Rw (w : World) (g n : Nat) (f : Nat → Nat) : Prop := ∃ cs t, w.heap[g]? = some (.cells cs t (0, 0)) ∧ ∀ j, j < n → cs[j]? = some (.int .i64 ((f j : Nat) : Int))
theorem Rw.cell {w : World} {g n : Nat} {f : Nat → Nat} (h : Rw w g n f) {j : Nat} (hj : j < n) : w.cell? ⟨g, j, none⟩ = some (.int .i64 ((f j : Nat) : Int)) := by
  obtain ⟨cs, t, hh, hc⟩ := h
  rw [cell_of_row _ _ j _ _ _ hh]; exact hc j hj
theorem Rw.frozen {w : World} {g n : Nat} {f : Nat → Nat} (h : Rw w g n f) (j : Nat) : w.frozen? ⟨g, j, none⟩ = false := by
  obtain ⟨cs, t, hh, hc⟩ := h
  simp [World.frozen?, hh]
theorem Rw.lt {w : World} {g n : Nat} {f : Nat → Nat} (h : Rw w g n f) : g < w.heap.size := by
  obtain ⟨cs, t, hh, hc⟩ := h
  exact (Array.getElem?_eq_some_iff.1 hh).1
theorem Rw.congr {w w' : World} {g n : Nat} {f f' : Nat → Nat} (h : Rw w g n f) (hb : w'.heap[g]? = w.heap[g]?) (hf : ∀ j, j < n → f' j = f j) : Rw w' g n f' := by
  obtain ⟨cs, t, hh, hc⟩ := h
  exact ⟨cs, t, hb.trans hh, fun j hj => by rw [hf j hj]; exact hc j hj⟩
theorem Rw.set {w : World} {g n : Nat} {f : Nat → Nat} (h : Rw w g n f) {j : Nat} (hj : j < n) (x : Nat) : Rw (w.setCell ⟨g, j, none⟩ (.int .i64 ((x : Nat) : Int))) g n (fun k => if k = j then x else f k) := by
  obtain ⟨cs, t, hh, hc⟩ := h
  have hlt := (Array.getElem?_eq_some_iff.1 hh).1
  have he := (Array.getElem?_eq_some_iff.1 hh).2
  have hjs : j < cs.size := by
    have := hc j hj
    exact (Array.getElem?_eq_some_iff.1 this).1
  refine ⟨cs.set j (.int .i64 ((x : Nat) : Int)) hjs, t, ?_, fun k hk => ?_⟩
  · unfold World.setCell
    simp [hh, hjs, hlt, Array.getElem_modify, he, Array.setIfInBounds]
  · rw [Array.getElem?_set]
    by_cases e : j = k
    · subst e; simp
    · rw [if_neg e, hc k hk]; simp [Ne.symm e]
/-- A matrix: a block of rows, each a block of its own. -/
structure Mx (w : World) (B : Nat) (R : Nat → Nat) (n : Nat) (M : Mt) : Prop where
  top : ∃ cs t, w.heap[B]? = some (.cells cs t (0, 0)) ∧ ∀ i, i < n → ∃ c, n ≤ c ∧ cs[i]? = some (.slice (some ⟨R i, 0, none⟩) n c)
  row : ∀ i, i < n → Rw w (R i) n (M i)
  off : ∀ i, i < n → R i ≠ B
  inj : ∀ i k, i < n → k < n → R i = R k → i = k
theorem Mx.cap {w : World} {B : Nat} {R : Nat → Nat} {n : Nat} {M : Mt} (h : Mx w B R n M) {i : Nat} (hi : i < n) : ∃ c, n ≤ c ∧ w.cell? ⟨B, i, none⟩ = some (.slice (some ⟨R i, 0, none⟩) n c) := by
  obtain ⟨cs, t, hh, hc⟩ := h.top
  obtain ⟨c, h1, h2⟩ := hc i hi
  exact ⟨c, h1, by rw [cell_of_row _ _ i _ _ _ hh]; exact h2⟩
theorem Mx.cell {w : World} {B : Nat} {R : Nat → Nat} {n : Nat} {M : Mt} (h : Mx w B R n M) {i j : Nat} (hi : i < n) (hj : j < n) : w.cell? ⟨R i, j, none⟩ = some (.int .i64 ((M i j : Nat) : Int)) := (h.row i hi).cell hj
theorem Mx.ltB {w : World} {B : Nat} {R : Nat → Nat} {n : Nat} {M : Mt} (h : Mx w B R n M) : B < w.heap.size := by
  obtain ⟨cs, t, hh, hc⟩ := h.top
  exact (Array.getElem?_eq_some_iff.1 hh).1
theorem Mx.ltR {w : World} {B : Nat} {R : Nat → Nat} {n : Nat} {M : Mt} (h : Mx w B R n M) {i : Nat} (hi : i < n) : R i < w.heap.size := (h.row i hi).lt
theorem Mx.keep {S : Nat → Prop} {w w' : World} {B : Nat} {R : Nat → Nat} {n : Nat} {M : Mt} (h : Mx w B R n M) (hd : Md S w w') (hB : ¬ S B) (hR : ∀ i, i < n → ¬ S (R i)) : Mx w' B R n M := by
  refine ⟨?_, fun i hi => (h.row i hi).congr (hd.block _ (h.ltR hi) (hR i hi)) fun _ _ => rfl, h.off, h.inj⟩
  obtain ⟨cs, t, hh, hc⟩ := h.top
  exact ⟨cs, t, (hd.block _ h.ltB hB).trans hh, hc⟩
theorem Mx.below {w w' : World} {B : Nat} {R : Nat → Nat} {n : Nat} {M : Mt} (h : Mx w B R n M) (hb : Below w.heap.size w w') : Mx w' B R n M := h.keep (S := fun _ => False) (Md.of_below hb) (fun h => h) (fun _ _ h => h)
theorem Mx.drew {w : World} {B : Nat} {R : Nat → Nat} {n : Nat} {M : Mt} (h : Mx w B R n M) : Mx w.drew B R n M := ⟨h.top, h.row, h.off, h.inj⟩
theorem Mx.set {w : World} {B : Nat} {R : Nat → Nat} {n : Nat} {M : Mt} (h : Mx w B R n M) {i j : Nat} (hi : i < n) (hj : j < n) (x : Nat) : Mx (w.setCell ⟨R i, j, none⟩ (.int .i64 ((x : Nat) : Int))) B R n (setM M i j x) := by
  refine ⟨?_, fun k hk => ?_, h.off, h.inj⟩
  · obtain ⟨cs, t, hh, hc⟩ := h.top
    exact ⟨cs, t, (Below.heap_setCell _ _ _ _ (fun e => h.off i hi e.symm)).trans hh, hc⟩
  · by_cases e : k = i
    · subst e
      obtain ⟨cs, t, hh, hc⟩ := (h.row k hk).set hj x
      exact ⟨cs, t, hh, fun q hq => by
        rw [hc q hq]
        unfold setM
        by_cases e2 : q = j <;> simp [e2]⟩
    · exact (h.row k hk).congr (Below.heap_setCell _ _ _ _ (fun e2 => e (h.inj k i hk hi e2))) fun q _ => setM_other _ _ _ _ _ _ (by omega)
theorem Mx.congr {w : World} {B : Nat} {R : Nat → Nat} {n : Nat} {M M' : Mt} (h : Mx w B R n M) (he : ∀ i j, i < n → j < n → M' i j = M i j) : Mx w B R n M' := ⟨h.top, fun i hi => (h.row i hi).congr rfl fun j hj => he i j hi hj, h.off, h.inj⟩
/-- The matrix's own blocks. -/
def Own (B : Nat) (R : Nat → Nat) (n : Nat) (k : Nat) : Prop := k = B ∨ ∃ i, i < n ∧ k = R i
def Rows (R : Nat → Nat) (n : Nat) (k : Nat) : Prop := ∃ i, i < n ∧ k = R i
/-- What is in memory, as a number. -/
def numAt (w : World) (g j : Nat) : Nat := match w.cell? ⟨g, j, none⟩ with | some (.int _ x) => x.toNat | _ => 0
def muW (w : World) (R : Nat → Nat) (n : Nat) : Nat := mu n fun i j => numAt w (R i) j
theorem Mx.mu {w : World} {B : Nat} {R : Nat → Nat} {n : Nat} {M : Mt} (h : Mx w B R n M) : muW w R n = mu n M := mu_congr fun i j hi hj => by
  unfold numAt
  rw [h.cell hi hj]
  simp

/-! ### the map of compositions -/
theorem lawK : Maps.Keyed Try.prog 114 := Maps.Keyed.of_law (deep_law_laid (m := 2) (show laidOutB Try.prog = true by kernel_rfl) (by omega) (of_decide_eq_true (by kernel_rfl)) (by kernel_rfl) (by rw [Try.underlying114]))
theorem zeroI (w : World) : (zeroValue 3).run Try.prog w = .ok (.int .i64 0) w := by kernel_rfl
def kl (a b : Nat) : Lit := .string (keyBytes [.int .i64 (a : Int), .int .i64 (b : Int)])
theorem wf_small (a : Nat) (h : a < 8192) : (Lit.int .i64 (a : Int)).wf = true := by
  simp only [Lit.wf, IntKind.min, IntKind.max, IntKind.signed, IntKind.bits, Bool.and_eq_true, decide_eq_true_eq, if_true]
  omega
theorem kl_inj {a b c d : Nat} (ha : a < 8192) (hb : b < 8192) (hc : c < 8192) (hd : d < 8192) (h : kl a b = kl c d) : a = c ∧ b = d := by
  unfold kl at h
  have := Go.keyBytes_inj (l := [.int .i64 (a : Int), .int .i64 (b : Int)]) (l' := [.int .i64 (c : Int), .int .i64 (d : Int)]) ⟨rfl, rfl, trivial⟩ (by
    intro x hx
    simp at hx
    rcases hx with rfl | rfl
    · exact wf_small a ha
    · exact wf_small b hb) (by
    intro x hx
    simp at hx
    rcases hx with rfl | rfl
    · exact wf_small c hc
    · exact wf_small d hd) (Lit.string.inj h)
  simp at this
  omega
theorem keyOf_pair (a b : Nat) (ha : a < 8192) (hb : b < 8192) : keyOf Try.prog 114 (.agg #[.int .i64 (a : Int), .int .i64 (b : Int)]) = some (kl a b) := by
  have hk : Try.prog.keyType 114 = true := by kernel_rfl
  have hc : Try.prog.cellsOf 114 = 2 := by kernel_rfl
  have hi : Try.prog.cellsOf 3 = 1 := by kernel_rfl
  obtain ⟨d, hd⟩ : ∃ d, Try.prog.types.size + 1 = d + 2 := ⟨Try.prog.types.size - 1, by have : 1 ≤ Try.prog.types.size := of_decide_eq_true (by kernel_rfl); omega⟩
  have hl : Try.prog.keyLits (d + 2) 114 [.int .i64 (a : Int), .int .i64 (b : Int)] = some [.int .i64 (a : Int), .int .i64 (b : Int)] := by
    simp [Program.keyLits, Try.underlying114, Try.underlying3, hc, hi, wf_small a ha, wf_small b hb, List.range_succ]
  have hf : (Value.agg #[.int .i64 (a : Int), .int .i64 (b : Int)]).formed Try.prog 114 = true := by simp [Value.formed, Try.underlying114, hc]
  unfold keyOf kl
  rw [Try.underlying114]
  dsimp only
  rw [hk, hf, hd]
  show Option.map _ (Try.prog.keyLits (d + 2) 114 [.int .i64 (a : Int), .int .i64 (b : Int)]) = _
  rw [hl]
  rfl
/-- The map in block C holds compositions alone. -/
def Memo (w : World) (C : Nat) : Prop := ∃ es : List (Lit × DataW Unit), w.ownsMap Try.prog 114 (plainElem Try.prog 3) C es.length (.map es) ∧ ∀ p ∈ es, ∃ a b, a < 8192 ∧ b < 8192 ∧ p = (kl a b, .lit (.int .i64 ((cmp a b : Nat) : Int)))
theorem Memo.made (w : World) : Memo (w.alloc (.map #[] 0)) w.heap.size := ⟨[], World.ownsMap_made w _ _ _, fun p hp => by cases hp⟩
theorem Memo.keep {S : Nat → Prop} {w w' : World} {C : Nat} (h : Memo w C) (hd : Md S w w') (hC : ¬ S C) : Memo w' C := by
  obtain ⟨es, h1, h2⟩ := h
  refine ⟨es, ?_, h2⟩
  have hlt := h1.lt
  obtain ⟨es', clock, hb, F, hs, hD⟩ := h1
  exact ⟨es', clock, (hd.block C hlt hC).trans hb, F, hs, hD⟩
theorem Memo.drew {w : World} {C : Nat} (h : Memo w C) : Memo w.drew C := h
theorem Memo.lt {w : World} {C : Nat} (h : Memo w C) : C < w.heap.size := by
  obtain ⟨es, h1, h2⟩ := h
  exact h1.lt
theorem Memo.ne {w : World} {C g n : Nat} {f : Nat → Nat} (h : Memo w C) (k : Rw w g n f) : C ≠ g := by
  rintro rfl
  obtain ⟨es, ⟨es', clock, hb, _⟩, _⟩ := h
  obtain ⟨cs, t, hh, _⟩ := k
  rw [hb] at hh
  cases hh
theorem Memo.neCell {w : World} {C g o : Nat} {u : Value} (h : Memo w C) (k : w.cell? ⟨g, o, none⟩ = some u) : g ≠ C := by
  rintro rfl
  obtain ⟨es, ⟨es', clock, hb, _⟩, _⟩ := h
  simp [World.cell?, hb] at k
theorem Memo.neB {w : World} {C B n : Nat} {R : Nat → Nat} {M : Mt} (h : Memo w C) (k : Mx w B R n M) : C ≠ B := by
  rintro rfl
  obtain ⟨es, ⟨es', clock, hb, _⟩, _⟩ := h
  obtain ⟨cs, t, hh, _⟩ := k.top
  rw [hb] at hh
  cases hh
open Classical in
theorem few : ∀ (N : Nat) (f : Nat → Lit) (l : List Lit), l.Pairwise (· ≠ ·) → (∀ x ∈ l, ∃ q, q < N ∧ x = f q) → l.length ≤ N
  | 0, f, l, _, h => by
    cases l with
    | nil => simp
    | cons x l =>
      obtain ⟨q, hq, _⟩ := h x (by simp)
      omega
  | N + 1, f, l, hp, h => by
    have h1 := few N f (l.filter fun x => decide (x ≠ f N)) (hp.filter _) (fun x hx => by
      simp only [List.mem_filter, decide_eq_true_eq, ne_eq, decide_not, Bool.not_eq_true', decide_eq_false_iff_not] at hx
      obtain ⟨q, hq, e⟩ := h x hx.1
      refine ⟨q, ?_, e⟩
      rcases Nat.lt_succ_iff_lt_or_eq.1 hq with hlt | rfl
      · exact hlt
      · exact absurd e hx.2)
    have h2 : l.length ≤ (l.filter fun x => decide (x ≠ f N)).length + 1 := by
      clear h h1
      induction l with
      | nil => simp
      | cons x l ih =>
        obtain ⟨h3, h4⟩ := List.pairwise_cons.1 hp
        by_cases e : x = f N
        · have hall : (l.filter fun x => decide (x ≠ f N)) = l := List.filter_eq_self.2 fun y hy => by
            have := h3 y hy
            simp
            rintro rfl
            exact this e
          rw [List.filter_cons_of_neg (by simp [e]), hall, List.length_cons]
          exact Nat.le_refl _
        · rw [List.filter_cons_of_pos (by simp [e]), List.length_cons, List.length_cons]
          have := ih h4
          omega
    omega
theorem Memo.few {w : World} {C : Nat} {es : List (Lit × DataW Unit)} (h : w.ownsMap Try.prog 114 (plainElem Try.prog 3) C es.length (.map es)) (k : ∀ p ∈ es, ∃ a b, a < 8192 ∧ b < 8192 ∧ p = (kl a b, .lit (.int .i64 ((cmp a b : Nat) : Int)))) : es.length ≤ 67108864 := by
  obtain ⟨es', e, hp⟩ := h.tidy lawK
  cases e
  have := Nw.few 67108864 (fun q => kl (q / 8192) (q % 8192)) (es.map (·.1)) (by
    rw [List.pairwise_map]
    exact hp) (fun x hx => by
    obtain ⟨p, hp, rfl⟩ := List.mem_map.1 hx
    obtain ⟨a, b, ha, hb, rfl⟩ := k p hp
    refine ⟨a * 8192 + b, by omega, ?_⟩
    dsimp only
    rw [show (a * 8192 + b) / 8192 = a by omega, show (a * 8192 + b) % 8192 = b by omega])
  simpa using this
theorem memo_at {es : List (Lit × DataW Unit)} (k : ∀ p ∈ es, ∃ a b, a < 8192 ∧ b < 8192 ∧ p = (kl a b, .lit (.int .i64 ((cmp a b : Nat) : Int)))) {a b : Nat} (ha : a < 8192) (hb : b < 8192) (h : Maps.has (.map es) (kl a b) = true) (z : DataW Unit) :
    (DataW.map es).atKey (kl a b) z = .lit (.int .i64 ((cmp a b : Nat) : Int)) := by
  rw [Maps.has_eq, List.any_eq_true] at h
  obtain ⟨p0, hp0, hs0⟩ := h
  cases hf : es.find? (fun p => p.1.sameKey (kl a b)) with
  | none =>
    have := List.find?_eq_none.1 hf p0 hp0
    exact absurd hs0 this
  | some p =>
    have hs := List.find?_some hf
    have hm := List.mem_of_find?_eq_some hf
    have e := WideAt.sameKey_eq hs
    obtain ⟨c, d, hc, hd, rfl⟩ := k p hm
    obtain ⟨rfl, rfl⟩ := kl_inj hc hd ha hb e
    simp [DataW.atKey, hf]
theorem memo_put {es : List (Lit × DataW Unit)} (k : ∀ p ∈ es, ∃ a b, a < 8192 ∧ b < 8192 ∧ p = (kl a b, .lit (.int .i64 ((cmp a b : Nat) : Int)))) {a b : Nat} (ha : a < 8192) (hb : b < 8192) :
    ∀ p ∈ ChangeMaps.putKey (kl a b) (.lit (.int .i64 ((cmp a b : Nat) : Int))) es, ∃ a b, a < 8192 ∧ b < 8192 ∧ p = (kl a b, .lit (.int .i64 ((cmp a b : Nat) : Int))) := by
  intro p hp
  unfold ChangeMaps.putKey at hp
  rcases ChangeMaps.mem_insert_iff.1 hp with rfl | hp
  · exact ⟨a, b, ha, hb, rfl⟩
  · exact k p (List.mem_filter.1 hp).1
set_option maxHeartbeats 2000000 in
theorem of_any (C a b : Nat) (ha : a < 8192) (hb : b < 8192) (w : World) (h : Memo w C) : Calls Try.prog 87 #[.map (some C), .int .i64 (a : Int), .int .i64 (b : Int)] w fun e w' => e = .returned (.int .i64 ((cmp a b : Nat) : Int)) ∧ Memo w' C ∧ Md (fun k => k = C) w w' := by
  have HM := Lib.hid h
  obtain ⟨es, h1, h2⟩ := h
  have hkey := keyOf_pair a b ha hb
  have hlen := Memo.few h1 h2
  have hwf := wf_small (cmp a b) (cmp_lt a b)
  obtain ⟨x, hx⟩ : ∃ x, Maps.has (DataW.map es) (kl a b) = x := ⟨_, rfl⟩
  have hat0 := fun h z => memo_at h2 ha hb (h : Maps.has (DataW.map es) (kl a b) = true) z
  rw [hx] at hat0
  have HAT := Lib.hid hat0
  clear hat0
  have hput : ∀ w', w'.ownsMap Try.prog 114 (plainElem Try.prog 3) C (es.length + 1) ((DataW.map es).put (kl a b) (.lit (.int .i64 ((cmp a b : Nat) : Int)))) → Memo w' C := fun w' hown => by
    rw [DataW.put_eq] at hown
    refine ⟨_, ?_, memo_put h2 ha hb⟩
    obtain ⟨es', clock, hb', F, hs, hD⟩ := hown
    refine ⟨es', clock, hb', F, ?_, hD⟩
    have : (ChangeMaps.putKey (kl a b) (.lit (.int .i64 ((cmp a b : Nat) : Int))) es).length = es'.size := by
      have e := DataW.map.inj hD
      rw [e, length_sorted]; simp
    omega
  have HPUT := Lib.hid hput
  have hlm : es.length < maxLen := by
    have : maxLen = 9223372036854775807 := by decide
    omega
  clear hput h2 hlen
  have HC := fun W => compose_set a b ha hb W
  generalize DataW.map es = D at *
  generalize es.length = n at *
  generalize cmp a b = c at *
  cases x
  · go_enter Try.func87, Try.ntmps87
    go_wp2_with (first | (at_lookup; refine wpList_lookup_own_ok_int _ rfl _ _ 80 rfl 114 3 .i64 lawK Try.underlying80 Try.underlying3 (zeroI _) C n D rfl h1 _ _ rfl hkey ?_; intro z hat hwc) | (go_at_call 99; (with_reducible refine (HC _).mono ?_); rintro e w1 ⟨rfl, hb1⟩) | (at_mapUpdate; refine wpList_mapUpdate_in _ rfl _ _ _ 80 rfl 114 3 lawK Try.underlying80 _ C n D rfl (h1.kept (grown_below hb1) (by simp)) hlm _ _ _ rfl rfl hkey _ [] (plainElem_int Try.underlying3 hwf) ?_; intro w2 hown2 hturn2))
    go_ret
    exact ⟨rfl, HPUT.out _ hown2, (Md.of_below hb1).trans (Md.of_grown hturn2.grown)⟩
  · go_enter Try.func87, Try.ntmps87
    go_wp2_with (first | (at_lookup; refine wpList_lookup_own_ok_int _ rfl _ _ 80 rfl 114 3 .i64 lawK Try.underlying80 Try.underlying3 (zeroI _) C n D rfl h1 _ _ rfl hkey ?_; intro z hat hwc; obtain rfl : z = c := by have := HAT.out rfl (.lit (.int .i64 0)); rw [hat] at this; simpa using this))
    go_ret
    exact ⟨rfl, HM.out, Md.refl _ _⟩
end Go.Proofs.Ytoadihclmnjjnaa.Nw
