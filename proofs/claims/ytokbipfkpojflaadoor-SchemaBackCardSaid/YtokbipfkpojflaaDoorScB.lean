/-
  The walks of Parse's closures (layer 34).
-/
import Derived.Test.YtokbipfkpojflaaDoorScL
import Derived.Test.YtokbipfkpojflaaDoorScT
set_option linter.unusedSimpArgs false
set_option linter.unusedVariables false
namespace Go.Proofs.YtokbipfkpojflaaDoor.Sc
open Go Go.RowKit Go.ChangeShapes Go.WideShapes Go.Proofs.YtokbipfkpojflaaDoor.Sl Go.Lib
open Go.Proofs.YtokbipfkpojflaaDoor.Lx (Tok tokV cellsT cellsT_len cellsT_app cellsT_one)
open Go.Proofs.YtokbipfkpojflaaDoor.Va (Cl flatC flatC_len flatC_snoc Cs)

/-- Nothing has turned but these blocks, and what is new. -/
structure Frm (ex : List Nat) (w w' : World) : Prop where
  os : w'.os = w.os
  tape : w'.tape = w.tape
  output : w'.output = w.output
  size : w.heap.size ≤ w'.heap.size
  block : ∀ k, k < w.heap.size → k ∉ ex → w'.heap[k]? = w.heap[k]?
theorem Frm.refl (ex : List Nat) (w : World) : Frm ex w w := ⟨rfl, rfl, rfl, Nat.le_refl _, fun _ _ _ => rfl⟩
theorem Frm.trans {ex : List Nat} {a b c : World} (h : Frm ex a b) (k : Frm ex b c) : Frm ex a c := ⟨k.os.trans h.os, k.tape.trans h.tape, k.output.trans h.output, Nat.le_trans h.size k.size, fun j hj hn => (k.block j (Nat.lt_of_lt_of_le hj h.size) hn).trans (h.block j hj hn)⟩
theorem Frm.grow {ex : List Nat} {a w w' : World} {row : Option Nat} (h : Frm ex a w) (hg : w.grownBy w' row) (hr : ∀ k, row = some k → k ∈ ex ∨ a.heap.size ≤ k) : Frm ex a w' :=
  ⟨hg.os.trans h.os, hg.tape.trans h.tape, hg.output.trans h.output, Nat.le_trans h.size hg.size, fun j hj hn => (hg.block j (Nat.lt_of_lt_of_le hj h.size) (fun e => by rcases hr j e.symm with h1 | h1; exact hn h1; omega)).trans (h.block j hj hn)⟩
theorem Frm.weaken {ex ex' : List Nat} {a w : World} (h : Frm ex a w) (hs : ∀ k ∈ ex, k ∈ ex' ∨ a.heap.size ≤ k) : Frm ex' a w := ⟨h.os, h.tape, h.output, h.size, fun j hj hn => h.block j hj (fun e => by rcases hs j e with h1 | h1; exact hn h1; omega)⟩
theorem Frm.ofBelow {ex : List Nat} {a w : World} (h : Below a.heap.size a w) : Frm ex a w := ⟨h.os, h.tape, h.output, h.size, fun j hj _ => h.block j hj⟩
theorem Frm.below {ex : List Nat} {a b c : World} (h : Frm ex b c) (hb : Below a.heap.size a b) (hx : ∀ k ∈ ex, a.heap.size ≤ k) : Below a.heap.size a c :=
  ⟨h.os.trans hb.os, h.tape.trans hb.tape, h.output.trans hb.output, Nat.le_trans hb.size h.size, fun j hj => (h.block j (Nat.lt_of_lt_of_le hj hb.size) (fun e => by have := hx j e; omega)).trans (hb.block j hj)⟩
theorem Bx.frm {ex : List Nat} {w w' : World} {B : Nat} {t : TypeId} {cs : Array Value} (h : Bx w B t cs) (hf : Frm ex w w') (hn : B ∉ ex) : Bx w' B t cs := (hf.block B h.lt hn).trans h
theorem gp_belowR {w w' : World} (h : Below w.heap.size w w') (row : Option Nat) : w.grownBy w' row := ⟨h.os, h.tape, h.output, h.size, fun k hk _ => h.block k hk⟩
theorem RdAt.far {w w' : World} {RB TB : Nat} {r : Rd} {row : Option Nat} (h : RdAt w RB TB r) (hg : w.grownBy w' row) (h1 : some RB ≠ row) (h2 : some TB ≠ row) : RdAt w' RB TB r := by
  obtain ⟨a, c, hb, ht, hne, hTR⟩ := h
  exact ⟨a, c, hb.far hg h1, ht.far hg hne h2, hne, hTR⟩
/-- append(s, x) of ONE element: what stays of other blocks. -/
theorem wpList_app3 {P : Program} {ops : Array Oper} {rest : List Oper} {o : Oper} {a : Act} {Q : Exit → Act → World → Prop} {wX : World} (B : Nat) (hB : B ≤ wX.heap.size) (hgd : o.guard = none) (s x : Operand) (t : TypeId)
    (ho : o.op = .call { callee := .builtin .append, args := #[s, x], argTypes := #[t, t] })
    (e : TypeId) {i : TypeInfo} {z : Value} {size bytes : Nat} (ht : P.underlying t = some (.slice e)) (hi : P.info? e = some i) (hz : i.zero = some z)
    (hsize : i.size = size) (hby : i.bytes = bytes) (hzs : z.cells.size = size) (hsz : 0 < size)
    (v : Value) (n : Nat) (xs : List Value) (hs : a.eval s = v) (cs : List Value) (te : TypeId) (hown : wX.ownsRow B e size v n xs)
    {H : Nat} (hx : a.eval x = .slice (some ⟨H, 0, none⟩) 1 1) (hH : wX.heap.size = H) (hl : cs.length = size) (h1 : ∀ u ∈ cs, u.oneCell' = true)
    (h63 : n + 1 ≤ maxLen) (hbytes : (n + 1) * bytes ≤ 140737488355328)
    (h : ∀ g cap w', w'.ownsRow B e size (.slice (some ⟨g, 0, none⟩) (n + 1) cap) (n + 1) (xs ++ cs) → wX.grownBy w' v.ownBlock → (v.ownBlock = some g ∨ wX.heap.size ≤ g) → wpList P ops Q rest (a.put o.dst (.slice (some ⟨g, 0, none⟩) (n + 1) cap)) w') :
    wpList P ops Q (o :: rest) a (wX.alloc (.cells cs.toArray te)) := by
  subst hH
  refine wpList_append_lies _ hgd s x t ho B e i z size bytes ht hi hz hsize hby hzs hsz v n xs hs (hown.alloc _) ⟨wX.heap.size, 0, none⟩ 1 1 cs hx (by omega) (cells_new wX cs te) h1 (by omega) h63 hbytes (by simp; omega) (wX.heap.size + 1) (by simp) ?_
  intro g cap w' h2 h3 h4 _
  refine h g cap w' h2 ((World.grownBy_alloc wX _ _).trans h3) ?_
  rcases h4 with h4 | h4
  · exact .inl h4
  · exact .inr (by omega)
theorem infoC : (Tryd.prog.info? 53).map (fun i => (i.zero, i.size, i.bytes)) = some (some (.agg #[.string ⟨#[]⟩, .int .i64 0]), 2, 24) := by kernel_rfl
theorem infoF : (Tryd.prog.info? 50).map (fun i => (i.zero, i.size, i.bytes)) = some (some (.agg #[.slice none 0 0, .string ⟨#[]⟩]), 2, 40) := by kernel_rfl
theorem words_new (w : World) : Calls Tryd.prog 20 #[] w fun e w' => e = .returned (.slice (some ⟨w.heap.size, 0, none⟩) 4 4) ∧ w' = w.alloc (.cells (kwL.map Value.string).toArray 9) := by
  go_enter Tryd.func20, Tryd.ntmps20
  go_wp2
  go_ret
  exact ⟨rfl, rfl⟩
theorem idx_le (zs : List ByteArray) (x : ByteArray) : ∀ (i : Nat), Lib.idxFromS zs x i = -1 ∨ ((i : Int) ≤ Lib.idxFromS zs x i ∧ Lib.idxFromS zs x i < i + zs.length) := by
  induction zs with
  | nil => intro i; exact .inl rfl
  | cons z zs ih =>
    intro i
    unfold Lib.idxFromS
    split
    · exact .inr ⟨Int.le_refl _, by rw [List.length_cons]; omega⟩
    · rcases ih (i + 1) with h | h
      · exact .inl h
      · exact .inr ⟨by omega, by rw [List.length_cons]; omega⟩
/-- One column. -/
def colIt (s : Rd × List Cl) : Rd × List Cl := ((wordR (nameR s.1).2 kwL).2, s.2 ++ [((nameR s.1).1, Lib.idxOfS kwL (wordR (nameR s.1).2 kwL).1 + 1)])
theorem colIt_len (s : Rd × List Cl) : (colIt s).1.toks.length ≤ s.1.toks.length := Nat.le_trans (wordR_len _ _) (nameR_len _)
/-- One column of a foreign key. -/
def frnIt (s : Rd × List ByteArray) : Rd × List ByteArray := ((nameR s.1).2, s.2 ++ [(nameR s.1).1])
theorem frnIt_len (s : Rd × List ByteArray) : (frnIt s).1.toks.length ≤ s.1.toks.length := nameR_len _
/-- What Parse's first closure keeps. -/
def ColI (W1 : World) (TB RB B8 B9 : Nat) (name : ByteArray) (r : Rd) (l : List Cl) (W : World) : Prop :=
  RdAt W RB TB r ∧ Bx W B8 63 #[.pointer (some ⟨RB, 0, none⟩)] ∧ (∃ v, Bx W B9 25 #[.string name, v, .int .i64 0, .slice none 0 0] ∧ W.ownsRow W1.heap.size 53 2 v l.length (flatC l)) ∧ Frm [RB, B9] W1 W ∧ Bnd l.length r
set_option maxRecDepth 20000 in
set_option maxHeartbeats 2000000 in
theorem col_any (W1 : World) (TB RB B8 B9 : Nat) (hd : TB < W1.heap.size ∧ RB < W1.heap.size ∧ B8 < W1.heap.size ∧ B9 < W1.heap.size) (hd2 : ¬ B8 = RB ∧ ¬ B9 = RB ∧ ¬ B8 = B9 ∧ ¬ TB = B9) (name : ByteArray) (r : Rd) (l : List Cl) (W : World) (he : r.e = 0) (h : ColI W1 TB RB B8 B9 name r l W) :
    Calls Tryd.prog 30 #[.pointer (some ⟨B8, 0, none⟩), .pointer (some ⟨B9, 0, none⟩)] W fun e w' => e = .returned (.tuple #[]) ∧ ColI W1 TB RB B8 B9 name (colIt (r, l)).1 (colIt (r, l)).2 w' ∧ W.heap.size ≤ w'.heap.size := by
  obtain ⟨hr, h8, ⟨v, h9, hown⟩, hf, hz⟩ := h
  have c8 := h8.cell 0 _ rfl
  have HN := pname_any RB TB r W hr
  have hz1 := hz.name he
  have hz0 := hz.1 he
  unfold colIt
  dsimp only
  generalize nameR r = q at *
  obtain ⟨n, r1⟩ := q
  dsimp only at HN hz1 ⊢
  have HO := Lib.hid hown
  have H8 := Lib.hid h8
  have H9 := Lib.hid h9
  have HF := Lib.hid hf
  have HD := Lib.hid hd
  have HD2 := Lib.hid hd2
  have HB := Lib.hid hz1
  have hb8 := h8.lt
  have hs1 := hf.size
  have hneR : v.ownBlock ≠ some RB := fun e => by have := (hown.lt _ e).1; omega
  have hneT : v.ownBlock ≠ some TB := fun e => by have := (hown.lt _ e).1; omega
  have hne8 : v.ownBlock ≠ some B8 := fun e => by have := (hown.lt _ e).1; omega
  have hne9 : v.ownBlock ≠ some B9 := fun e => by have := (hown.lt _ e).1; omega
  have HV := Lib.hid (And.intro hneR (And.intro hneT (And.intro hne8 hne9)))
  have hll := hz0
  clear hr h8 h9 hown hf hd hd2 hz hz1 hneR hneT hne8 hne9
  go_enter Tryd.func30, Tryd.ntmps30
  go_upto_region 1 with (go_at_call 28; with_reducible refine HN.mono ?_; rintro e w1 ⟨rfl, h1, g1⟩)
  obtain ⟨W2, hW2⟩ : ∃ W2, w1.alloc (.cells #[.string n, .int .i64 0] 53) = W2 := ⟨_, rfl⟩
  have g2 : W.grownBy W2 (some RB) := hW2 ▸ g1.trans (World.grownBy_alloc _ _ _)
  have h2 : RdAt W2 RB TB r1 := hW2 ▸ h1.alloc _
  have b2 : Bx W2 w1.heap.size 53 #[.string n, .int .i64 0] := hW2 ▸ Bx.new w1 _ _
  have hs2 : W.heap.size ≤ w1.heap.size := g1.size
  rw [hW2]
  clear hW2 h1 HN c8
  generalize hC : w1.heap.size = C at *
  have HC := Lib.hid hC
  clear hC
  have g3 : W.grownBy W2.drew (some RB) := gp_drew g2
  have h3 : RdAt W2.drew RB TB r1 := h2.far (row := none) (gp_drew (gp_refl W2 none)) (by simp) (by simp)
  have b3 : Bx W2.drew C 53 #[.string n, .int .i64 0] := b2
  clear g2 h2 b2
  have b8 := H8.out.far g3 (by have := HD2.out.1; simpa using this)
  have hS : W2.drew.cell? ⟨B8, 0, none⟩ = some (.pointer (some ⟨RB, 0, none⟩)) := b8.cell 0 _ rfl
  refine wp_region_held_drew (S := fun V => V.cell? ⟨B8, 0, none⟩ = some (.pointer (some ⟨RB, 0, none⟩))) (by kernel_rfl) hS (fun hHeld => ?_)
  generalize W2.drew = W3 at *
  (refine wpAnyH_take (i := 1) (v := ?tkv1_1) rfl (by kernel_rfl) (by kernel_rfl) (by kernel_rfl) (fun _ _ _ h => h) (Or.inl ⟨by rfl, ?tky1_1⟩) (by assumption) ?tkr1_1; case tky1_1 => (intro V hV; (try dsimp only at hV); go_simp; (try with_reducible rfl)); try simp only [Act.put, List.setIfInBounds_toArray, List.set_cons_zero, List.set_cons_succ])
  (refine wpAnyH_ready (rs := [0]) (by kernel_rfl) (by simp) ?_; refine AllReadyH.cons rfl (fun K hK => ?_) AllReadyH.nil; (try go_simp); (go_at_call 20; (with_reducible refine (words_new _).mono ?_); rintro e w4 ⟨rfl, hw4⟩; have hS4 : w4.cell? ⟨B8, 0, none⟩ = some (.pointer (some ⟨RB, 0, none⟩)) := hw4 ▸ (b8.alloc _).cell 0 _ rfl); refine hK.out _ _ (by exact hS4) (fun hHeld => ?_); clear hK K; try simp only [Act.put, List.setIfInBounds_toArray, List.set_cons_zero, List.set_cons_succ])
  have s4 : Ss w4 (.slice (some ⟨W3.heap.size, 0, none⟩) 4 4) kwL := hw4 ▸ lit_ss W3 kwL 9 (by decide)
  have h4 : RdAt w4 RB TB r1 := hw4 ▸ h3.alloc _
  have b4 : Bx w4 C 53 #[.string n, .int .i64 0] := hw4 ▸ b3.alloc _
  have b84 : Bx w4 B8 63 #[.pointer (some ⟨RB, 0, none⟩)] := hw4 ▸ b8.alloc _
  have g4 : W.grownBy w4 (some RB) := hw4 ▸ g3.trans (World.grownBy_alloc _ _ _)
  have l34 : W3.heap.size < w4.heap.size := by rw [hw4]; simp
  have lR : RB < W3.heap.size := h3.lt
  have lC : C < W3.heap.size := b3.lt
  clear hw4 h3 b3 b8 g3 hS
  (refine wpAnyH_ready (rs := [2]) (by kernel_rfl) (by simp) ?_; refine AllReadyH.cons rfl (fun K hK => ?_) AllReadyH.nil; (try go_simp); (go_at_call 20; (with_reducible refine (words_new _).mono ?_); rintro e w5 ⟨rfl, hw5⟩; have hS5 : w5.cell? ⟨B8, 0, none⟩ = some (.pointer (some ⟨RB, 0, none⟩)) := hw5 ▸ (b84.alloc _).cell 0 _ rfl); refine hK.out _ _ (by exact hS5) (fun hHeld => ?_); clear hK K; try simp only [Act.put, List.setIfInBounds_toArray, List.set_cons_zero, List.set_cons_succ])
  have t5 : Ss w5 (.slice (some ⟨w4.heap.size, 0, none⟩) 4 4) kwL := hw5 ▸ lit_ss w4 kwL 9 (by decide)
  have s5 : Ss w5 (.slice (some ⟨W3.heap.size, 0, none⟩) 4 4) kwL := hw5 ▸ s4.below ((Below.refl _ w4).alloc (Nat.le_refl _) _)
  have h5 : RdAt w5 RB TB r1 := hw5 ▸ h4.alloc _
  have b5 : Bx w5 C 53 #[.string n, .int .i64 0] := hw5 ▸ b4.alloc _
  have b85 : Bx w5 B8 63 #[.pointer (some ⟨RB, 0, none⟩)] := hw5 ▸ b84.alloc _
  have g5 : W.grownBy w5 (some RB) := hw5 ▸ g4.trans (World.grownBy_alloc _ _ _)
  clear hw5 s4 h4 b4 b84 g4 hS4
  have HW := word_any RB TB r1 kwL _ w5 h5 (by decide) (fun V hg => lit_far t5 hg (by omega))
  have hz2 := Lib.hid (HB.out.step (wordR_len r1 kwL) (wordR_e0 r1 kwL))
  obtain ⟨⟨t, r2⟩, hq⟩ : ∃ q, wordR r1 kwL = q := ⟨_, rfl⟩
  rw [hq] at HW hz2
  have HQ := Lib.hid hq
  clear hq
  dsimp only at HW hz2 ⊢
  have h8R : some B8 ≠ some RB := by have := HD2.out.1; simpa using this
  have hCR : some C ≠ some RB := by have := HD.out.2.1; simp; omega
  (refine wpAnyH_ready (rs := [3]) (by kernel_rfl) (by simp) ?_; refine AllReadyH.cons rfl (fun K hK => ?_) AllReadyH.nil; (try go_simp); (go_at_call 27; (with_reducible refine HW.mono ?_); rintro e w6 ⟨rfl, h6, g6⟩; have hS6 : w6.cell? ⟨B8, 0, none⟩ = some (.pointer (some ⟨RB, 0, none⟩)) := (b85.far g6 h8R).cell 0 _ rfl); refine hK.out _ _ (by exact hS6) (fun hHeld => ?_); clear hK K; try simp only [Act.put, List.setIfInBounds_toArray, List.set_cons_zero, List.set_cons_succ])
  have b6 := b5.far g6 hCR
  have b85' := Lib.hid (b85.far g6 h8R)
  have g7 : W.grownBy w6 (some RB) := g5.trans g6
  have HIX := index_any kwL _ t w6 (by decide) (lit_far s5 g6 (by omega))
  have hix := idx_le kwL t 0
  change Lib.idxOfS kwL t = -1 ∨ (0 : Int) ≤ Lib.idxOfS kwL t ∧ Lib.idxOfS kwL t < ((0 : Nat) : Int) + 4 at hix
  have hz5 : -1 ≤ Lib.idxOfS kwL t ∧ Lib.idxOfS kwL t ≤ 3 := by omega
  obtain ⟨z, hz8⟩ : ∃ z, Lib.idxOfS kwL t = z := ⟨_, rfl⟩
  rw [hz8] at HIX hz5
  have HZ8 := Lib.hid hz8
  clear hz8
  obtain ⟨za, zb⟩ := hz5
  have hwz : ∀ x : Int, -1 ≤ x → x ≤ 3 → IntKind.i64.wrap (x + 1) = x + 1 := fun x h1 h2 => by rw [IntKind.wrap_i64]; omega
  have d6 := b6.cell 1 _ rfl
  have e6 := b6.frozen 1
  have lC6 := b6.lt
  clear hix h5 b5 b85 g5 HW t5 s5 hS5
  (refine wpAnyH_ready (rs := [4]) (by kernel_rfl) (by simp) ?_; refine AllReadyH.cons rfl (fun K hK => ?_) AllReadyH.nil; (try go_simp); (go_at_call 31; (with_reducible refine HIX.mono ?_); rintro e w7 ⟨rfl, rfl⟩); refine hK.out _ _ (by exact hS6) (fun hHeld => ?_); clear hK K; try simp only [Act.put, List.setIfInBounds_toArray, List.set_cons_zero, List.set_cons_succ])
  (refine wpAnyH_ready (rs := [5]) (by kernel_rfl) (by simp) ?_; refine AllReadyH.cons rfl (fun K hK => ?_) AllReadyH.nil; (try go_simp); refine hK.out _ _ (by exact hS6) (fun hHeld => ?_); clear hK K; try simp only [Act.put, List.setIfInBounds_toArray, List.set_cons_zero, List.set_cons_succ])
  (refine wpAnyH_ready (rs := [6]) (by kernel_rfl) (by simp) ?_; refine AllReadyH.cons rfl (fun K hK => ?_) AllReadyH.nil; (try go_simp); refine hK.out _ _ (by exact hS6) (fun hHeld => ?_); clear hK K; try simp only [Act.put, List.setIfInBounds_toArray, List.set_cons_zero, List.set_cons_succ])
  have b7 : Bx (w6.setCell ⟨C, 1, none⟩ (.int .i64 (z + 1))) C 53 #[.string n, .int .i64 (z + 1)] := b6.sett 1 _ (by simp) rfl
  have b86 := b85'.out
  have h8C : B8 ≠ C := by omega
  (refine wpAnyH_ready (rs := [7]) (by kernel_rfl) (by simp) ?_; refine AllReadyH.cons rfl (fun K hK => ?_) AllReadyH.nil; (try go_simp); refine hK.out _ _ (by exact (b86.setFar C 1 _ h8C).cell 0 _ rfl) (fun hHeld => ?_); clear hK K; try simp only [Act.put, List.setIfInBounds_toArray, List.set_cons_zero, List.set_cons_succ])
  refine wpAnyH_done (by kernel_rfl) ?_ _
  have f6 : Frm [RB, B9] W1 w6 := HF.out.grow g7 (fun k e => .inl (by cases e; simp))
  have o6 := HO.out.kept g7 (.inr HV.out.1)
  have b96 := H9.out.far g7 (by have := HD2.out.2.1; simpa using this)
  have hvC : v.ownBlock ≠ some C := fun e => by have := (HO.out.lt _ e).2; omega
  have hsC : W1.heap.size ≤ C := by omega
  obtain ⟨q1, q2, q3, q4⟩ := HD.out
  have gC := gp_set1 w6 C 1 (.int .i64 (z + 1))
  have h7 := h6.far gC (by simp; omega) (by simp; omega)
  have f7 : Frm [RB, B9] W1 (w6.setCell ⟨C, 1, none⟩ (.int .i64 (z + 1))) := f6.grow gC (fun k e => .inr (by cases e; exact hsC))
  have o7 := o6.kept gC (.inr hvC)
  have b97 := b96.far gC (by simp; omega)
  have b87 := b86.far gC (by simp; omega)
  have hs7 : W.heap.size ≤ (w6.setCell ⟨C, 1, none⟩ (.int .i64 (z + 1))).heap.size := by have := g7.size; simp; omega
  clear h6 f6 o6 b96 b86 gC g7 g6 b6 d6 e6 lC6 hS6 b85'
  generalize w6.setCell ⟨C, 1, none⟩ (.int .i64 (z + 1)) = W7 at *
  have H7 := Lib.hid h7
  have F7 := Lib.hid f7
  have O7 := Lib.hid o7
  have B97 := Lib.hid b97
  have B87 := Lib.hid b87
  have k0 := b7.cell 0 _ rfl
  have k1 := b7.cell 1 _ rfl
  have k2 := b7.lt
  have m1 := b97.cell 1 _ rfl
  have m2 := b97.lt
  obtain ⟨ii, hi, hz0', hz1', hz2'⟩ := info_parts infoC
  clear h7 f7 o7 b97 b87 b7 q1 q2 q3 q4
  go_wp2_with (at_builtin; go_must (refine wpList_app3 (wX := W7) W1.heap.size (by omega) rfl (.tmp 14) (.tmp 16) 22 rfl 53 Tryd.underlying22 hi hz0' hz1' hz2' rfl (by decide) v l.length (flatC l) rfl [.string n, .int .i64 (z + 1)] 53 O7.out rfl (by simp) rfl (by intro u hu; simp at hu; rcases hu with rfl | rfl <;> rfl) (by unfold maxLen; omega) (by omega) ?_); intro g1 cap1 w8 hown8 hgr hG; have b98 := B97.out.far hgr (Ne.symm HV.out.2.2.2); have n1 := b98.cell 1 _ rfl; have n2 := b98.frozen 1; have n3 := b98.lt)
  go_end0
  have h8 := H7.out.far hgr (Ne.symm HV.out.1) (Ne.symm HV.out.2.1)
  have g9 := gp_set1 w8 B9 1 (.slice (some ⟨g1, 0, none⟩) (l.length + 1) cap1)
  have hg19 : ¬ g1 = B9 := by
    rcases hG with h | h
    · intro e; exact HV.out.2.2.2 (by rw [h, e])
    · omega
  refine ⟨rfl, ?_, by have := hgr.size; simp; omega⟩
  rw [HQ.out]
  dsimp only
  rw [HZ8.out]
  refine ⟨h8.far g9 (by have := HD2.out.2.1; simp; omega) (by have := HD2.out.2.2.2; simp; omega), (B87.out.far hgr (Ne.symm HV.out.2.2.1)).far g9 (by have := HD2.out.2.2.1; simp; omega), ⟨_, b98.sett 1 _ (by simp) rfl, ?_⟩, ?_, ?_⟩
  · rw [List.length_append, flatC_snoc]
    exact hown8.kept g9 (.inr (by simpa [Value.ownBlock] using hg19))
  · exact (F7.out.grow hgr (fun k e => .inr (O7.out.lt _ e).1)).grow g9 (fun k e => .inl (by cases e; simp))
  · rw [List.length_append]
    exact hz2.out
/-- What Parse's second closure keeps. -/
def FrnI (W1 : World) (TB RB B8 B9 : Nat) (r : Rd) (l : List ByteArray) (W : World) : Prop :=
  RdAt W RB TB r ∧ Bx W B8 63 #[.pointer (some ⟨RB, 0, none⟩)] ∧ (∃ v, Bx W B9 50 #[v, .string ⟨#[]⟩] ∧ W.ownsRow W1.heap.size 9 1 v l.length (l.map .string)) ∧ Frm [RB, B9] W1 W ∧ Bnd l.length r
set_option maxRecDepth 20000 in
set_option maxHeartbeats 2000000 in
theorem frn_any (W1 : World) (TB RB B8 B9 : Nat) (hd : TB < W1.heap.size ∧ RB < W1.heap.size ∧ B8 < W1.heap.size ∧ B9 < W1.heap.size) (hd2 : ¬ B8 = RB ∧ ¬ B9 = RB ∧ ¬ B8 = B9 ∧ ¬ TB = B9) (r : Rd) (l : List ByteArray) (W : World) (he : r.e = 0) (h : FrnI W1 TB RB B8 B9 r l W) :
    Calls Tryd.prog 35 #[.pointer (some ⟨B9, 0, none⟩), .pointer (some ⟨B8, 0, none⟩)] W fun e w' => e = .returned (.tuple #[]) ∧ FrnI W1 TB RB B8 B9 (frnIt (r, l)).1 (frnIt (r, l)).2 w' ∧ W.heap.size ≤ w'.heap.size := by
  obtain ⟨hr, h8, ⟨v, h9, hown⟩, hf, hz⟩ := h
  have hz1 := hz.name he
  have hz0 := hz.1 he
  unfold frnIt
  dsimp only
  have HO := Lib.hid hown
  have HF := Lib.hid hf
  have HD := Lib.hid hd
  have HD2 := Lib.hid hd2
  have HB := Lib.hid hz1
  have hb8 := h8.lt
  have hs1 := hf.size
  have hneR : v.ownBlock ≠ some RB := fun e => by have := (hown.lt _ e).1; omega
  have hneT : v.ownBlock ≠ some TB := fun e => by have := (hown.lt _ e).1; omega
  have hne8 : v.ownBlock ≠ some B8 := fun e => by have := (hown.lt _ e).1; omega
  have hne9 : v.ownBlock ≠ some B9 := fun e => by have := (hown.lt _ e).1; omega
  have HV := Lib.hid (And.intro hneR (And.intro hneT (And.intro hne8 hne9)))
  have hll := hz0
  have c8 := h8.cell 0 _ rfl
  have c9 := h9.cell 0 _ rfl
  have hb9 := h9.lt
  have R0 := Lib.hid (show RdAt W.drew RB TB r from hr.far (row := none) (gp_drew (gp_refl W none)) (by simp) (by simp))
  have B80 := Lib.hid (show Bx W.drew B8 63 #[.pointer (some ⟨RB, 0, none⟩)] from h8)
  have B90 := Lib.hid (show Bx W.drew B9 50 #[v, .string ⟨#[]⟩] from h9)
  have G0 := Lib.hid (show W.grownBy W.drew (some RB) from gp_drew (gp_refl W _))
  obtain ⟨ii, hi, hz0', hz1', hz2'⟩ := info_parts infoS
  clear hr h8 h9 hown hf hd hd2 hz hz1 hneR hneT hne8 hne9
  go_enter Tryd.func35, Tryd.ntmps35
  go_upto_region 0 with fail
  have hS : W.drew.cell? ⟨B8, 0, none⟩ = some (.pointer (some ⟨RB, 0, none⟩)) := c8
  refine wp_region_held_drew (S := fun V => V.cell? ⟨B8, 0, none⟩ = some (.pointer (some ⟨RB, 0, none⟩))) (by kernel_rfl) hS (fun hHeld => ?_)
  have HNM := pname_any RB TB r W.drew R0.out
  obtain ⟨⟨t, r1⟩, hq⟩ : ∃ q, nameR r = q := ⟨_, rfl⟩
  rw [hq] at HNM HB
  have HQ := Lib.hid hq
  clear hq
  dsimp only at HNM HB
  have c93 := B90.out.cell 0 _ rfl
  generalize W.drew = W3 at *
  (refine wpAnyH_take (i := 0) (v := ?tkv0_2) rfl (by kernel_rfl) (by kernel_rfl) (by kernel_rfl) (fun _ _ _ h => h) (Or.inl ⟨by rfl, ?tky0_2⟩) (by assumption) ?tkr0_2; case tky0_2 => (intro V hV; (try dsimp only at hV); go_simp; (try with_reducible rfl)); try simp only [Act.put, List.setIfInBounds_toArray, List.set_cons_zero, List.set_cons_succ])
  (refine wpAnyH_take (i := 2) (v := ?tkv2_3) rfl (by kernel_rfl) (by kernel_rfl) (by kernel_rfl) (fun _ _ _ h => h) (Or.inl ⟨by rfl, ?tky2_3⟩) (by assumption) ?tkr2_3; case tky2_3 => (intro V hV; (try dsimp only at hV); go_simp; (try with_reducible rfl)); try simp only [Act.put, List.setIfInBounds_toArray, List.set_cons_zero, List.set_cons_succ])
  refine wpAnyH_ready (rs := [1, 3]) (by kernel_rfl) (by simp) ?_
  refine AllReadyH.cons rfl (fun K hK => ?_) (AllReadyH.cons rfl (fun K hK => ?_) AllReadyH.nil)
  · go_simp
    refine hK.out _ _ hS (fun _ => ?_)
    clear hK K
    try simp only [Act.put, List.setIfInBounds_toArray, List.set_cons_zero, List.set_cons_succ]
    (refine wpAnyH_ready (rs := [3]) (by kernel_rfl) (by simp) ?_; refine AllReadyH.cons rfl (fun K hK => ?_) AllReadyH.nil; (try go_simp); (go_at_call 28; (with_reducible refine HNM.mono ?_); rintro e w6 ⟨rfl, h6, g6⟩; have hS6 : w6.cell? ⟨B8, 0, none⟩ = some (.pointer (some ⟨RB, 0, none⟩)) := (B80.out.far g6 (by have := HD2.out.1; simpa using this)).cell 0 _ rfl); refine hK.out _ _ (by exact hS6) (fun hHeld => ?_); clear hK K; try simp only [Act.put, List.setIfInBounds_toArray, List.set_cons_zero, List.set_cons_succ])
    have b96 := B90.out.far g6 (by have := HD2.out.2.1; simpa using this)
    have b86 := B80.out.far g6 (by have := HD2.out.1; simpa using this)
    have g7 := G0.out.trans g6
    have f6 : Frm [RB, B9] W1 w6 := HF.out.grow g7 (fun k e => .inl (by cases e; simp))
    have o6 := HO.out.kept g7 (.inr HV.out.1)
    have gA := World.grownBy_alloc w6 (.cells #[.string t] 9) none
    have b97 := b96.far gA (by simp)
    have b87 := b86.far gA (by simp)
    have c96 := b96.cell 0 _ rfl
    have c97 := b97.cell 0 _ rfl
    have m96 := b96.lt
    (refine wpAnyH_ready (rs := [4]) (by kernel_rfl) (by simp) ?_; refine AllReadyH.cons rfl (fun K hK => ?_) AllReadyH.nil; (try go_simp); refine hK.out _ _ (by exact b87.cell 0 _ rfl) (fun hHeld => ?_); clear hK K; try simp only [Act.put, List.setIfInBounds_toArray, List.set_cons_zero, List.set_cons_succ])
    have h7 := h6.far gA (by simp) (by simp)
    have f7 := f6.grow gA (fun k e => by cases e)
    have o7 := o6.alloc (.cells #[.string t] 9)
    have hs7 : W.heap.size ≤ w6.heap.size := g7.size
    refine wpAnyH_ready (rs := [5]) (by kernel_rfl) (by simp) ?_
    refine AllReadyH.cons rfl (fun K hK => ?_) AllReadyH.nil
    refine step_append_lies _ rfl _ _ 37 rfl W1.heap.size 9 ii (.string ⟨#[]⟩) 1 16 Tryd.underlying37 hi hz0' hz1' hz2' rfl (by decide) v l.length (l.map .string) rfl o7 ⟨w6.heap.size, 0, none⟩ 1 1 [.string t] rfl rfl (World.news_of_block (cs := #[.string t]) (t := 9) (fr := (0, 0)) (heap_alloc_new w6 _)) (by simp [Value.oneCell']) (by decide) (by unfold maxLen; omega) (by omega) (by simp; omega) _ rfl ?_
    intro g1 cap1 w8 hown8 hgr hG _
    have b98 := b97.far hgr (Ne.symm HV.out.2.2.2)
    have b88 := b87.far hgr (Ne.symm HV.out.2.2.1)
    have n1 := b98.cell 0 _ rfl
    have n2 := b98.frozen 0
    have n3 := b98.lt
    refine hK.out _ _ (by exact b88.cell 0 _ rfl) (fun _ => ?_)
    clear hK K
    try simp only [Act.put, List.setIfInBounds_toArray, List.set_cons_zero, List.set_cons_succ]
    have h98 : B8 ≠ B9 := HD2.out.2.2.1
    (refine wpAnyH_ready (rs := [6]) (by kernel_rfl) (by simp) ?_; refine AllReadyH.cons rfl (fun K hK => ?_) AllReadyH.nil; (try go_simp); refine hK.out _ _ (by exact b88.cell 0 _ rfl) (fun hHeld => ?_); clear hK K; try simp only [Act.put, List.setIfInBounds_toArray, List.set_cons_zero, List.set_cons_succ])
    have hg19 : ¬ g1 = B9 := by
      rcases hG with h | h
      · intro e; exact HV.out.2.2.2 (by rw [h, e])
      · intro e; simp at h; omega
    (refine wpAnyH_ready (rs := [7]) (by kernel_rfl) (by simp) ?_; refine AllReadyH.cons rfl (fun K hK => ?_) AllReadyH.nil; (try go_simp); refine hK.out _ _ (by exact (b88.setFar B9 0 _ h98).cell 0 _ rfl) (fun hHeld => ?_); clear hK K; try simp only [Act.put, List.setIfInBounds_toArray, List.set_cons_zero, List.set_cons_succ])
    refine wpAnyH_done (by kernel_rfl) ?_ _
    go_end0
    have h8 := h7.far hgr (Ne.symm HV.out.1) (Ne.symm HV.out.2.1)
    have g9 := gp_set1 w8 B9 0 (.slice (some ⟨g1, 0, none⟩) (l.length + 1) cap1)
    refine ⟨rfl, ?_, by have := hgr.size; simp at this; simp; omega⟩
    rw [HQ.out]
    dsimp only
    refine ⟨h8.far g9 (by have := HD2.out.2.1; simp; omega) (by have := HD2.out.2.2.2; simp; omega), b88.setFar B9 0 _ h98, ⟨_, b98.sett 0 _ (by simp) rfl, ?_⟩, ?_, ?_⟩
    · rw [List.length_append, List.map_append]
      exact hown8.kept g9 (.inr (by simpa [Value.ownBlock] using hg19))
    · exact (f7.grow hgr (fun k e => .inr (o7.lt _ e).1)).grow g9 (fun k e => .inl (by cases e; simp))
    · rw [List.length_append]
      exact HB.out
  · go_simp
    (go_at_call 28; (with_reducible refine HNM.mono ?_); rintro e w6 ⟨rfl, h6, g6⟩; have hS6 : w6.cell? ⟨B8, 0, none⟩ = some (.pointer (some ⟨RB, 0, none⟩)) := (B80.out.far g6 (by have := HD2.out.1; simpa using this)).cell 0 _ rfl)
    refine hK.out _ _ hS6 (fun _ => ?_)
    clear hK K
    try simp only [Act.put, List.setIfInBounds_toArray, List.set_cons_zero, List.set_cons_succ]
    have b96 := B90.out.far g6 (by have := HD2.out.2.1; simpa using this)
    have b86 := B80.out.far g6 (by have := HD2.out.1; simpa using this)
    have g7 := G0.out.trans g6
    have f6 : Frm [RB, B9] W1 w6 := HF.out.grow g7 (fun k e => .inl (by cases e; simp))
    have o6 := HO.out.kept g7 (.inr HV.out.1)
    have gA := World.grownBy_alloc w6 (.cells #[.string t] 9) none
    have b97 := b96.far gA (by simp)
    have b87 := b86.far gA (by simp)
    have c96 := b96.cell 0 _ rfl
    have c97 := b97.cell 0 _ rfl
    have m96 := b96.lt
    refine wpAnyH_ready (rs := [1, 4]) (by kernel_rfl) (by simp) ?_
    refine AllReadyH.cons rfl (fun K hK => ?_) (AllReadyH.cons rfl (fun K hK => ?_) AllReadyH.nil)
    · go_simp
      refine hK.out _ _ hS6 (fun _ => ?_)
      clear hK K
      try simp only [Act.put, List.setIfInBounds_toArray, List.set_cons_zero, List.set_cons_succ]
      (refine wpAnyH_ready (rs := [4]) (by kernel_rfl) (by simp) ?_; refine AllReadyH.cons rfl (fun K hK => ?_) AllReadyH.nil; (try go_simp); refine hK.out _ _ (by exact b87.cell 0 _ rfl) (fun hHeld => ?_); clear hK K; try simp only [Act.put, List.setIfInBounds_toArray, List.set_cons_zero, List.set_cons_succ])
      have h7 := h6.far gA (by simp) (by simp)
      have f7 := f6.grow gA (fun k e => by cases e)
      have o7 := o6.alloc (.cells #[.string t] 9)
      have hs7 : W.heap.size ≤ w6.heap.size := g7.size
      refine wpAnyH_ready (rs := [5]) (by kernel_rfl) (by simp) ?_
      refine AllReadyH.cons rfl (fun K hK => ?_) AllReadyH.nil
      refine step_append_lies _ rfl _ _ 37 rfl W1.heap.size 9 ii (.string ⟨#[]⟩) 1 16 Tryd.underlying37 hi hz0' hz1' hz2' rfl (by decide) v l.length (l.map .string) rfl o7 ⟨w6.heap.size, 0, none⟩ 1 1 [.string t] rfl rfl (World.news_of_block (cs := #[.string t]) (t := 9) (fr := (0, 0)) (heap_alloc_new w6 _)) (by simp [Value.oneCell']) (by decide) (by unfold maxLen; omega) (by omega) (by simp; omega) _ rfl ?_
      intro g1 cap1 w8 hown8 hgr hG _
      have b98 := b97.far hgr (Ne.symm HV.out.2.2.2)
      have b88 := b87.far hgr (Ne.symm HV.out.2.2.1)
      have n1 := b98.cell 0 _ rfl
      have n2 := b98.frozen 0
      have n3 := b98.lt
      refine hK.out _ _ (by exact b88.cell 0 _ rfl) (fun _ => ?_)
      clear hK K
      try simp only [Act.put, List.setIfInBounds_toArray, List.set_cons_zero, List.set_cons_succ]
      have h98 : B8 ≠ B9 := HD2.out.2.2.1
      (refine wpAnyH_ready (rs := [6]) (by kernel_rfl) (by simp) ?_; refine AllReadyH.cons rfl (fun K hK => ?_) AllReadyH.nil; (try go_simp); refine hK.out _ _ (by exact b88.cell 0 _ rfl) (fun hHeld => ?_); clear hK K; try simp only [Act.put, List.setIfInBounds_toArray, List.set_cons_zero, List.set_cons_succ])
      have hg19 : ¬ g1 = B9 := by
        rcases hG with h | h
        · intro e; exact HV.out.2.2.2 (by rw [h, e])
        · intro e; simp at h; omega
      (refine wpAnyH_ready (rs := [7]) (by kernel_rfl) (by simp) ?_; refine AllReadyH.cons rfl (fun K hK => ?_) AllReadyH.nil; (try go_simp); refine hK.out _ _ (by exact (b88.setFar B9 0 _ h98).cell 0 _ rfl) (fun hHeld => ?_); clear hK K; try simp only [Act.put, List.setIfInBounds_toArray, List.set_cons_zero, List.set_cons_succ])
      refine wpAnyH_done (by kernel_rfl) ?_ _
      go_end0
      have h8 := h7.far hgr (Ne.symm HV.out.1) (Ne.symm HV.out.2.1)
      have g9 := gp_set1 w8 B9 0 (.slice (some ⟨g1, 0, none⟩) (l.length + 1) cap1)
      refine ⟨rfl, ?_, by have := hgr.size; simp at this; simp; omega⟩
      rw [HQ.out]
      dsimp only
      refine ⟨h8.far g9 (by have := HD2.out.2.1; simp; omega) (by have := HD2.out.2.2.2; simp; omega), b88.setFar B9 0 _ h98, ⟨_, b98.sett 0 _ (by simp) rfl, ?_⟩, ?_, ?_⟩
      · rw [List.length_append, List.map_append]
        exact hown8.kept g9 (.inr (by simpa [Value.ownBlock] using hg19))
      · exact (f7.grow hgr (fun k e => .inr (o7.lt _ e).1)).grow g9 (fun k e => .inl (by cases e; simp))
      · rw [List.length_append]
        exact HB.out
    · go_simp
      refine hK.out _ _ (by exact b87.cell 0 _ rfl) (fun _ => ?_)
      clear hK K
      try simp only [Act.put, List.setIfInBounds_toArray, List.set_cons_zero, List.set_cons_succ]
      (refine wpAnyH_ready (rs := [1]) (by kernel_rfl) (by simp) ?_; refine AllReadyH.cons rfl (fun K hK => ?_) AllReadyH.nil; (try go_simp); refine hK.out _ _ (by exact b87.cell 0 _ rfl) (fun hHeld => ?_); clear hK K; try simp only [Act.put, List.setIfInBounds_toArray, List.set_cons_zero, List.set_cons_succ])
      have h7 := h6.far gA (by simp) (by simp)
      have f7 := f6.grow gA (fun k e => by cases e)
      have o7 := o6.alloc (.cells #[.string t] 9)
      have hs7 : W.heap.size ≤ w6.heap.size := g7.size
      refine wpAnyH_ready (rs := [5]) (by kernel_rfl) (by simp) ?_
      refine AllReadyH.cons rfl (fun K hK => ?_) AllReadyH.nil
      refine step_append_lies _ rfl _ _ 37 rfl W1.heap.size 9 ii (.string ⟨#[]⟩) 1 16 Tryd.underlying37 hi hz0' hz1' hz2' rfl (by decide) v l.length (l.map .string) rfl o7 ⟨w6.heap.size, 0, none⟩ 1 1 [.string t] rfl rfl (World.news_of_block (cs := #[.string t]) (t := 9) (fr := (0, 0)) (heap_alloc_new w6 _)) (by simp [Value.oneCell']) (by decide) (by unfold maxLen; omega) (by omega) (by simp; omega) _ rfl ?_
      intro g1 cap1 w8 hown8 hgr hG _
      have b98 := b97.far hgr (Ne.symm HV.out.2.2.2)
      have b88 := b87.far hgr (Ne.symm HV.out.2.2.1)
      have n1 := b98.cell 0 _ rfl
      have n2 := b98.frozen 0
      have n3 := b98.lt
      refine hK.out _ _ (by exact b88.cell 0 _ rfl) (fun _ => ?_)
      clear hK K
      try simp only [Act.put, List.setIfInBounds_toArray, List.set_cons_zero, List.set_cons_succ]
      have h98 : B8 ≠ B9 := HD2.out.2.2.1
      (refine wpAnyH_ready (rs := [6]) (by kernel_rfl) (by simp) ?_; refine AllReadyH.cons rfl (fun K hK => ?_) AllReadyH.nil; (try go_simp); refine hK.out _ _ (by exact b88.cell 0 _ rfl) (fun hHeld => ?_); clear hK K; try simp only [Act.put, List.setIfInBounds_toArray, List.set_cons_zero, List.set_cons_succ])
      have hg19 : ¬ g1 = B9 := by
        rcases hG with h | h
        · intro e; exact HV.out.2.2.2 (by rw [h, e])
        · intro e; simp at h; omega
      (refine wpAnyH_ready (rs := [7]) (by kernel_rfl) (by simp) ?_; refine AllReadyH.cons rfl (fun K hK => ?_) AllReadyH.nil; (try go_simp); refine hK.out _ _ (by exact (b88.setFar B9 0 _ h98).cell 0 _ rfl) (fun hHeld => ?_); clear hK K; try simp only [Act.put, List.setIfInBounds_toArray, List.set_cons_zero, List.set_cons_succ])
      refine wpAnyH_done (by kernel_rfl) ?_ _
      go_end0
      have h8 := h7.far hgr (Ne.symm HV.out.1) (Ne.symm HV.out.2.1)
      have g9 := gp_set1 w8 B9 0 (.slice (some ⟨g1, 0, none⟩) (l.length + 1) cap1)
      refine ⟨rfl, ?_, by have := hgr.size; simp at this; simp; omega⟩
      rw [HQ.out]
      dsimp only
      refine ⟨h8.far g9 (by have := HD2.out.2.1; simp; omega) (by have := HD2.out.2.2.2; simp; omega), b88.setFar B9 0 _ h98, ⟨_, b98.sett 0 _ (by simp) rfl, ?_⟩, ?_, ?_⟩
      · rw [List.length_append, List.map_append]
        exact hown8.kept g9 (.inr (by simpa [Value.ownBlock] using hg19))
      · exact (f7.grow hgr (fun k e => .inr (o7.lt _ e).1)).grow g9 (fun k e => .inl (by cases e; simp))
      · rw [List.length_append]
        exact HB.out
end Go.Proofs.YtokbipfkpojflaaDoor.Sc
