/-
  Networks: bounds and choices, plain and in memory (layer 46).
-/
import Derived.Test.YtoadihclmnjjnaaNxU
import Derived.Test.YtoadihclmnjjnaaNwU
set_option linter.unusedSimpArgs false
set_option linter.unusedVariables false
set_option maxRecDepth 100000
namespace Go.Proofs.Ytoadihclmnjjnaa.Nw
open Go Go.RowKit Go.ChangeShapes Go.WideShapes Go.Proofs.Ytoadihclmnjjnaa.Sl Go.Proofs.Ytoadihclmnjjnaa.Al Go.Lib
open Go.Proofs.Ytoadihclmnjjnaa.Iv (validB ofZ sgn)

/-! ### plain: which bounds and choices a constraint gives -/
/-- The sign of an end less another, plus 1. -/
def sg1 (r p : Nat) : Nat := (sgT r p + 1).toNat
theorem sg1_bd : ∀ r < 13, ∀ p < 4, sgT r p + 1 = ((sg1 r p : Nat) : Int) ∧ sg1 r p ≤ 2 := by
  have h : ∀ r < 13, ∀ p < 4, decide (sgT r p + 1 = ((sg1 r p : Nat) : Int)) && decide (sg1 r p ≤ 2) = true := of_decide_eq_true (by kernel_rfl)
  intro r hr p hp
  simpa using h r hr p hp
/-- Which signs there are. -/
def dTo (pre : List (Fin 13)) (p : Nat) : Nat := pre.foldl (fun o k => o ||| 2 ^ sg1 k.val p) 0
theorem dTo_snoc (pre : List (Fin 13)) (x : Fin 13) (p : Nat) : dTo (pre ++ [x]) p = dTo pre p ||| 2 ^ sg1 x.val p := by simp [dTo]
theorem dTo_lt (pre : List (Fin 13)) {p : Nat} (hp : p < 4) : dTo pre p < 8 := by
  suffices h : ∀ (l : List (Fin 13)) (o : Nat), o < 2 ^ 3 → l.foldl (fun o k => o ||| 2 ^ sg1 k.val p) o < 2 ^ 3 from h pre 0 (Nat.two_pow_pos 3)
  intro l
  induction l with
  | nil => intro o h; exact h
  | cons x l ih =>
    intro o h
    exact ih _ (Nat.or_lt_two_pow h (Nat.pow_lt_pow_right (by omega) (show sg1 x.val p < 3 by have := (sg1_bd x.val x.isLt p hp).2; omega)))
def insd (d : Nat → Nat) (k m : Nat) : Bool := (List.range m).all fun p => (d p).testBit (sg1 k p)
theorem insd_succ (d : Nat → Nat) (k m : Nat) : insd d k (m + 1) = (insd d k m && (d m).testBit (sg1 k m)) := by unfold insd; rw [List.range_succ, List.all_append]; simp
/-- The relations that these signs express. -/
def expd (d : Nat → Nat) : Nat → Nat
  | 0 => 0
  | k + 1 => if insd d k 4 = true then expd d k ||| 2 ^ k else expd d k
theorem expd_lt (d : Nat → Nat) : ∀ k, k ≤ 13 → expd d k < 8192
  | 0, _ => by unfold expd; omega
  | k + 1, h => by
    unfold expd
    split
    · exact Al.or_lt (expd_lt d k (by omega)) (pow13_lt k (by omega))
    · exact expd_lt d k (by omega)
/-- The bounds and the choices of one pair of ends. -/
def emB (i j : Int) (d p : Nat) : List Rl :=
  if d = 4 then [⟨2 * j + ((p % 2 : Nat) : Int), 2 * i + ((p / 2 : Nat) : Int), -1⟩]
  else if d = 6 then [⟨2 * j + ((p % 2 : Nat) : Int), 2 * i + ((p / 2 : Nat) : Int), 0⟩]
  else if d = 1 then [⟨2 * i + ((p / 2 : Nat) : Int), 2 * j + ((p % 2 : Nat) : Int), -1⟩]
  else if d = 3 then [⟨2 * i + ((p / 2 : Nat) : Int), 2 * j + ((p % 2 : Nat) : Int), 0⟩]
  else if d = 2 then [⟨2 * j + ((p % 2 : Nat) : Int), 2 * i + ((p / 2 : Nat) : Int), 0⟩, ⟨2 * i + ((p / 2 : Nat) : Int), 2 * j + ((p % 2 : Nat) : Int), 0⟩]
  else []
def emC (i j : Int) (d p : Nat) : List (Int × Int) := if d = 5 then [(2 * i + ((p / 2 : Nat) : Int), 2 * j + ((p % 2 : Nat) : Int))] else []
def rlB (r : Rl) (m : Nat) : List Rl := (List.range m).flatMap fun p => emB r.i r.j (dTo (singF r.s.toNat) p) p
def rlC (r : Rl) (m : Nat) : List (Int × Int) := (List.range m).flatMap fun p => emC r.i r.j (dTo (singF r.s.toNat) p) p
theorem rlB_succ (r : Rl) (m : Nat) : rlB r (m + 1) = rlB r m ++ emB r.i r.j (dTo (singF r.s.toNat) m) m := by unfold rlB; rw [List.range_succ, List.flatMap_append]; simp
theorem rlC_succ (r : Rl) (m : Nat) : rlC r (m + 1) = rlC r m ++ emC r.i r.j (dTo (singF r.s.toNat) m) m := by unfold rlC; rw [List.range_succ, List.flatMap_append]; simp
/-- The bounds of the intervals themselves. -/
def bnd0 (m : Nat) : List Rl := (List.range m).map fun (i : Nat) => ⟨2 * (i : Int) + 1, 2 * (i : Int), -1⟩
theorem bnd0_succ (m : Nat) : bnd0 (m + 1) = bnd0 m ++ [⟨2 * (m : Int) + 1, 2 * (m : Int), -1⟩] := by unfold bnd0; rw [List.range_succ, List.map_append]; rfl
def allB (n : Nat) (l : List Rl) : List Rl := bnd0 n ++ l.flatMap fun r => rlB r 4
def allC (l : List Rl) : List (Int × Int) := l.flatMap fun r => rlC r 4
def expr (r : Rl) : Bool := expd (dTo (singF r.s.toNat)) 13 == r.s.toNat
theorem allB_snoc (n : Nat) (l : List Rl) (r : Rl) : allB n (l ++ [r]) = allB n l ++ rlB r 4 := by unfold allB; rw [List.flatMap_append, ← List.append_assoc]; simp
theorem allC_snoc (l : List Rl) (r : Rl) : allC (l ++ [r]) = allC l ++ rlC r 4 := by unfold allC; rw [List.flatMap_append]; simp

/-! ### in memory -/
theorem infoB : (Try.prog.info? 68).map (fun i => (i.zero, i.size, i.bytes)) = some (some (.agg #[.int .i64 0, .int .i64 0, .int .i64 0]), 3, 24) := by kernel_rfl
theorem infoC : (Try.prog.info? 71).map (fun i => (i.zero, i.size, i.bytes)) = some (some (.agg #[.int .i64 0, .int .i64 0, .slice none 0 0]), 3, 40) := by kernel_rfl
/-- The slice v is the call's own and holds the bounds l. -/
def Bf (W0 w : World) (v : Value) (l : List Rl) : Prop := w.ownsRow W0.heap.size 68 3 v l.length (cellsR l) ∧ Below W0.heap.size W0 w
theorem Bf.nil (w : World) : Bf w w (.slice none 0 0) [] := ⟨World.ownsRow_nil _ _ _ _, Below.refl _ _⟩
theorem own_step {W0 w w' : World} {t : TypeId} {size n : Nat} {v : Value} {xs : List Value} (h : w.ownsRow W0.heap.size t size v n xs) (hb : Below w.heap.size w w') : w'.ownsRow W0.heap.size t size v n xs :=
  h.kept (grown_below hb) (by
    by_cases c : v.ownBlock = none
    · exact .inl c
    · exact .inr c)
theorem Bf.step {W0 w w' : World} {v : Value} {l : List Rl} (h : Bf W0 w v l) (hb : Below w.heap.size w w') : Bf W0 w' v l := ⟨own_step h.1 hb, bstep h.2 hb⟩
theorem wp_bnd {ops : Array Oper} {rest : List Oper} {o : Oper} {a : Act} {Q : Exit → Act → World → Prop} {W0 w : World} {v : Value} {l : List Rl} (hB : Bf W0 w v l) (hgd : o.guard = none) (s x : Operand)
    (ho : o.op = .call { callee := .builtin .append, args := #[s, x], argTypes := #[60, 60] }) (hs : a.eval s = v) {H : Nat} (te : TypeId)
    (hx : a.eval x = .slice (some ⟨H, 0, none⟩) 1 1) (hH : w.heap.size = H) (u : Rl) (hlen : l.length ≤ 1000000)
    (h : ∀ v' w', Bf W0 w' v' (l ++ [u]) → w.grownBy w' v.ownBlock → wpList Try.prog ops Q rest (a.put o.dst v') w') : wpList Try.prog ops Q (o :: rest) a (w.alloc (.cells #[.int .i64 u.i, .int .i64 u.j, .int .i64 u.s] te)) := by
  obtain ⟨i0, hi, hz0, hz1, hz2⟩ := info_parts infoB
  subst hH
  refine wpList_append_lies _ hgd s x _ ho W0.heap.size _ i0 _ 3 24 Try.underlying60 hi hz0 hz1 hz2 rfl (by decide) v l.length (cellsR l) hs (hB.1.alloc _) ⟨w.heap.size, 0, none⟩ 1 1 (relC u) hx rfl (cells_new w _ te) (fun y hy => ?_) (by omega) (by unfold maxLen; omega) (by omega) (by have := hB.2.size; simp; omega) (w.heap.size + 1) (by simp) ?_
  · simp only [relC, List.mem_cons, List.not_mem_nil, or_false] at hy
    rcases hy with rfl | rfl | rfl <;> rfl
  · intro g cap w' h2 h3 _ _
    refine h _ w' ⟨?_, grow_step (hB.2.alloc hB.2.size (.cells #[.int .i64 u.i, .int .i64 u.j, .int .i64 u.s] te)) h3 (fun k hk => (World.ownsRow.lt (hB.1.alloc (.cells #[.int .i64 u.i, .int .i64 u.j, .int .i64 u.s] te)) k hk).1)⟩ ⟨h3.os, h3.tape, h3.output, by have := h3.size; simp at this; omega, fun k hk hn => (h3.block k (by simp; omega) hn).trans (Below.heap_alloc w (.cells #[.int .i64 u.i, .int .i64 u.j, .int .i64 u.s] te) _ hk)⟩
    rw [cellsR_app, List.length_append]
    exact h2
theorem wp_bnd2 {ops : Array Oper} {rest : List Oper} {o : Oper} {a : Act} {Q : Exit → Act → World → Prop} {W0 w : World} {v : Value} {l : List Rl} (hB : Bf W0 w v l) (hgd : o.guard = none) (s x : Operand)
    (ho : o.op = .call { callee := .builtin .append, args := #[s, x], argTypes := #[60, 60] }) (hs : a.eval s = v) {H : Nat} (te : TypeId)
    (hx : a.eval x = .slice (some ⟨H, 0, none⟩) 2 2) (hH : w.heap.size = H) (u y : Rl) (hlen : l.length ≤ 1000000)
    (h : ∀ v' w', Bf W0 w' v' (l ++ [u, y]) → w.grownBy w' v.ownBlock → wpList Try.prog ops Q rest (a.put o.dst v') w') : wpList Try.prog ops Q (o :: rest) a (w.alloc (.cells #[.int .i64 u.i, .int .i64 u.j, .int .i64 u.s, .int .i64 y.i, .int .i64 y.j, .int .i64 y.s] te)) := by
  obtain ⟨i0, hi, hz0, hz1, hz2⟩ := info_parts infoB
  subst hH
  refine wpList_append_lies _ hgd s x _ ho W0.heap.size _ i0 _ 3 24 Try.underlying60 hi hz0 hz1 hz2 rfl (by decide) v l.length (cellsR l) hs (hB.1.alloc _) ⟨w.heap.size, 0, none⟩ 2 2 (cellsR [u, y]) hx rfl (cells_new w _ te) (fun z hz => ?_) (by omega) (by unfold maxLen; omega) (by omega) (by have := hB.2.size; simp; omega) (w.heap.size + 1) (by simp) ?_
  · simp only [cellsR, relC, List.flatMap_cons, List.flatMap_nil, List.append_nil, List.mem_cons, List.mem_append, List.not_mem_nil, or_false] at hz
    rcases hz with (rfl | rfl | rfl) | (rfl | rfl | rfl) <;> rfl
  · intro g cap w' h2 h3 _ _
    refine h _ w' ⟨?_, grow_step (hB.2.alloc hB.2.size (.cells #[.int .i64 u.i, .int .i64 u.j, .int .i64 u.s, .int .i64 y.i, .int .i64 y.j, .int .i64 y.s] te)) h3 (fun k hk => (World.ownsRow.lt (hB.1.alloc (.cells #[.int .i64 u.i, .int .i64 u.j, .int .i64 u.s, .int .i64 y.i, .int .i64 y.j, .int .i64 y.s] te)) k hk).1)⟩ ⟨h3.os, h3.tape, h3.output, by have := h3.size; simp at this; omega, fun k hk hn => (h3.block k (by simp; omega) hn).trans (Below.heap_alloc w (.cells #[.int .i64 u.i, .int .i64 u.j, .int .i64 u.s, .int .i64 y.i, .int .i64 y.j, .int .i64 y.s] te) _ hk)⟩
    rw [cellsR_app, List.length_append]
    exact h2
/-- A choice in memory: the pair of ends, and the block with its intervals. -/
abbrev Cc := (Int × Int) × Nat
def chC (c : Cc) : List Value := [.int .i64 c.1.1, .int .i64 c.1.2, .slice (some ⟨c.2, 0, none⟩) 2 2]
def cellsC (l : List Cc) : List Value := l.flatMap chC
theorem cellsC_app (a b : List Cc) : cellsC (a ++ b) = cellsC a ++ cellsC b := by unfold cellsC; exact List.flatMap_append
def chL : Array Value := #[.int .i64 (-4398046511104), .int .i64 0, .int .i64 1, .int .i64 4398046511104]
/-- The slice v is the call's own and holds the choices l. -/
def Cf (W0 w : World) (v : Value) (l : List (Int × Int)) : Prop := ∃ cs : List Cc, cs.map (·.1) = l ∧ w.ownsRow W0.heap.size 71 3 v cs.length (cellsC cs) ∧ Below W0.heap.size W0 w ∧ ∀ c ∈ cs, w.heap[c.2]? = some (.cells chL 48 (0, 0))
theorem Cf.nil (w : World) : Cf w w (.slice none 0 0) [] := ⟨[], rfl, World.ownsRow_nil _ _ _ _, Below.refl _ _, nofun⟩
theorem Cf.step {W0 w w' : World} {v : Value} {l : List (Int × Int)} (h : Cf W0 w v l) (hb : Below w.heap.size w w') : Cf W0 w' v l := by
  obtain ⟨cs, h1, h2, h3, h4⟩ := h
  exact ⟨cs, h1, own_step h2 hb, bstep h3 hb, fun c hc => (hb.block _ (Array.getElem?_eq_some_iff.1 (h4 c hc)).1).trans (h4 c hc)⟩
/-- A block of another type than the row is not the row's. -/
theorem not_row {w : World} {base b n size : Nat} {t t' : TypeId} {v : Value} {xs : List Value} {cs : Array Value} (h : w.ownsRow base t size v n xs) (hb : w.heap[b]? = some (.cells cs t' (0, 0))) (ht : t ≠ t') : some b ≠ v.ownBlock := by
  intro e
  rcases h.2 with ⟨rfl, _⟩ | ⟨g, cap, cur, rfl, _, hg, _⟩
  · simp [Value.ownBlock] at e
  · have : b = g := by simpa [Value.ownBlock] using e
    subst this
    rw [hb] at hg
    simp only [Option.some.injEq, Obj.cells.injEq] at hg
    exact ht hg.2.1.symm
theorem Bf.far {W0 w w' : World} {v u : Value} {t : TypeId} {size n base : Nat} {xs : List Value} {l : List Rl} (h : Bf W0 w u l) (hv : w.ownsRow base t size v n xs) (ht : t ≠ 68) (hg : w.grownBy w' v.ownBlock) (hb : Below W0.heap.size W0 w') : Bf W0 w' u l := by
  refine ⟨h.1.kept hg ?_, hb⟩
  rcases h.1.2 with ⟨rfl, _⟩ | ⟨g, cap, cur, rfl, _, hgb, _⟩
  · exact .inl rfl
  · refine .inr ?_
    have := not_row hv hgb ht
    simpa [Value.ownBlock] using this
theorem Cf.far {W0 w w' : World} {v u : Value} {t : TypeId} {size n base : Nat} {xs : List Value} {l : List (Int × Int)} (h : Cf W0 w u l) (hv : w.ownsRow base t size v n xs) (ht : t ≠ 71) (ht2 : t ≠ 48) (hg : w.grownBy w' v.ownBlock) (hb : Below W0.heap.size W0 w') : Cf W0 w' u l := by
  obtain ⟨cs, h1, h2, h3, h4⟩ := h
  refine ⟨cs, h1, h2.kept hg ?_, hb, fun c hc => ?_⟩
  · rcases h2.2 with ⟨rfl, _⟩ | ⟨g, cap, cur, rfl, _, hgb, _⟩
    · exact .inl rfl
    · refine .inr ?_
      have := not_row hv hgb ht
      simpa [Value.ownBlock] using this
  · exact (hg.block _ (Array.getElem?_eq_some_iff.1 (h4 c hc)).1 (not_row hv (h4 c hc) ht2)).trans (h4 c hc)
theorem wp_chc {ops : Array Oper} {rest : List Oper} {o : Oper} {a : Act} {Q : Exit → Act → World → Prop} {W0 w : World} {v : Value} {l : List (Int × Int)} (hB : Cf W0 w v l) (hgd : o.guard = none) (s x : Operand)
    (ho : o.op = .call { callee := .builtin .append, args := #[s, x], argTypes := #[61, 61] }) (hs : a.eval s = v) {H : Nat} (te : TypeId)
    (hx : a.eval x = .slice (some ⟨H, 0, none⟩) 1 1) (hH : w.heap.size + 1 = H) (p q : Int) (hlen : l.length ≤ 1000000)
    (h : ∀ v' w', Cf W0 w' v' (l ++ [(p, q)]) → w.grownBy w' v.ownBlock → wpList Try.prog ops Q rest (a.put o.dst v') w') :
    wpList Try.prog ops Q (o :: rest) a ((w.alloc (.cells #[.int .i64 (-4398046511104), .int .i64 0, .int .i64 1, .int .i64 4398046511104] 48)).alloc (.cells #[.int .i64 p, .int .i64 q, .slice (some ⟨w.heap.size, 0, none⟩) 2 2] te)) := by
  obtain ⟨i0, hi, hz0, hz1, hz2⟩ := info_parts infoC
  obtain ⟨cs, h1, h2, h3, h4⟩ := hB
  subst hH
  have hcl : cs.length = l.length := by rw [← h1, List.length_map]
  have hown := (h2.alloc (.cells #[.int .i64 (-4398046511104), .int .i64 0, .int .i64 1, .int .i64 4398046511104] 48)).alloc (.cells #[.int .i64 p, .int .i64 q, .slice (some ⟨w.heap.size, 0, none⟩) 2 2] te)
  have hnew : ((w.alloc (.cells #[.int .i64 (-4398046511104), .int .i64 0, .int .i64 1, .int .i64 4398046511104] 48)).alloc (.cells #[.int .i64 p, .int .i64 q, .slice (some ⟨w.heap.size, 0, none⟩) 2 2] te)).heap[w.heap.size]? = some (.cells chL 48 (0, 0)) := by
    rw [Below.heap_alloc _ _ _ (by simp)]
    exact heap_alloc_new w _
  have hcn := cells_new (w.alloc (.cells #[.int .i64 (-4398046511104), .int .i64 0, .int .i64 1, .int .i64 4398046511104] 48)) [.int .i64 p, .int .i64 q, .slice (some ⟨w.heap.size, 0, none⟩) 2 2] te
  rw [World.size_alloc] at hcn
  refine wpList_append_lies _ hgd s x _ ho W0.heap.size _ i0 _ 3 40 Try.underlying61 hi hz0 hz1 hz2 rfl (by decide) v cs.length (cellsC cs) hs hown ⟨w.heap.size + 1, 0, none⟩ 1 1 (chC ((p, q), w.heap.size)) hx rfl hcn (fun y hy => ?_) (by omega) (by unfold maxLen; omega) (by omega) (by have := h3.size; simp; omega) (w.heap.size + 1 + 1) (by simp) ?_
  · simp only [chC, List.mem_cons, List.not_mem_nil, or_false] at hy
    rcases hy with rfl | rfl | rfl <;> rfl
  · intro g cap w' h5 h6 _ _
    have hgr : w.grownBy w' v.ownBlock := ⟨h6.os, h6.tape, h6.output, by have := h6.size; simp at this; omega, fun k hk hn => (h6.block k (by simp; omega) hn).trans ((Below.heap_alloc _ _ _ (by simp; omega)).trans (Below.heap_alloc _ _ _ hk))⟩
    refine h _ w' ⟨cs ++ [((p, q), w.heap.size)], by rw [List.map_append, h1]; rfl, ?_, grow_step ((h3.alloc h3.size _).alloc (by have := h3.size; simp; omega) _) h6 (fun k hk => (World.ownsRow.lt hown k hk).1), fun c hc => ?_⟩ hgr
    · rw [cellsC_app, List.length_append]
      exact h5
    · rcases List.mem_append.1 hc with hc | hc
      · exact (hgr.block _ (Array.getElem?_eq_some_iff.1 (h4 c hc)).1 (not_row h2 (h4 c hc) (by decide))).trans (h4 c hc)
      · obtain rfl := List.mem_singleton.1 hc
        exact (h6.block _ (by simp; omega) (not_row hown hnew (by decide))).trans hnew
/-- Four numbers in a block. -/
def DH (w : World) (D : Nat) (d : Nat → Nat) : Prop := w.heap[D]? = some (.cells ((List.range 4).map fun p => Value.int .i64 ((d p : Nat) : Int)).toArray 98 (0, 0))
end Go.Proofs.Ytoadihclmnjjnaa.Nw
