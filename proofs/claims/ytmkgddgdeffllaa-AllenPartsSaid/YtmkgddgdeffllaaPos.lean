/-
  The walks of allen's Possible and of the reference's.
-/
import Derived.Test.YtmkgddgdeffllaaRef3
import Derived.Test.YtmkgddgdeffllaaEq
set_option linter.unusedSimpArgs false
set_option linter.unusedVariables false
namespace Go.Proofs.Ytmkgddgdeffllaa.Al
open Go Go.RowKit Go.Proofs.Ytmkgddgdeffllaa.Bt Go.Proofs.Ytmkgddgdeffllaa.Sl
open Go.Proofs.Ytmkgddgdeffllaa.Iv (of_any valid_any ofZ validB lineB sgn_bd sgn_cases tab sgn)

theorem ownsRow_step {w w' : World} {base size n : Nat} {e : TypeId} {v : Value} {xs : List Value} (h : w.ownsRow base e size v n xs) (hb : Below w.heap.size w w') : w'.ownsRow base e size v n xs := by
  refine ⟨h.1, h.2.imp id ?_⟩
  rintro ⟨g, cap, cur, h1, h2, h3, h4⟩
  exact ⟨g, cap, cur, h1, h2, (hb.block _ (Array.getElem?_eq_some_iff.1 h3).1).trans h3, h4⟩
theorem pline_any (x : Int) (w : World) : Calls Try.prog 43 #[.int .i64 x] w fun e w' => e = .returned (.bool (lineB x)) ∧ w = w' := by
  have d : lineB x = (decide (-4398046511104 ≤ x) && decide (x ≤ 4398046511104)) := rfl
  rw [d]; clear d
  by_cases h1 : (-4398046511104 : Int) ≤ x
  · go_enter Try.func43, Try.ntmps43
    go_wp2
    go_ret
    exact ⟨by simp [h1], rfl⟩
  · go_enter Try.func43, Try.ntmps43
    go_wp2
    go_ret
    exact ⟨by simp; omega, rfl⟩

/-- The intervals that begin at the k-th number and end ahead of the j-th. -/
def row (lo : Int) (k j : Nat) : List (Int × Int) := (List.range (j - (k + 1))).map fun d => (lo + (k : Int), lo + ((k + 1 + d : Nat) : Int))
def allTo (lo : Int) (n k j : Nat) : List (Int × Int) := (List.range k).flatMap (fun x => row lo x (n + 1)) ++ row lo k j
theorem row_step (lo : Int) (k j : Nat) (h : k < j) : row lo k (j + 1) = row lo k j ++ [(lo + (k : Int), lo + (j : Int))] := by
  unfold row
  rw [show j + 1 - (k + 1) = (j - (k + 1)) + 1 by omega, List.range_succ, List.map_append, List.map_singleton, show k + 1 + (j - (k + 1)) = j by omega]
theorem row_none (lo : Int) (k : Nat) : row lo k (k + 1) = [] := by simp [row]
theorem allTo_step (lo : Int) (n k j : Nat) (h : k < j) : allTo lo n k (j + 1) = allTo lo n k j ++ [(lo + (k : Int), lo + (j : Int))] := by
  unfold allTo; rw [row_step lo k j h, List.append_assoc]
theorem allTo_next (lo : Int) (n k : Nat) : allTo lo n (k + 1) (k + 1 + 1) = allTo lo n k (n + 1) := by
  unfold allTo; rw [row_none, List.range_succ, List.flatMap_append]; simp
theorem allTo_zero (lo : Int) (n : Nat) : allTo lo n 0 1 = [] := by simp [allTo, row]
theorem row_len (lo : Int) (k j : Nat) : (row lo k j).length = j - (k + 1) := by simp [row]
theorem allTo_len (lo : Int) (n k j : Nat) (hj : j ≤ n + 1) : (allTo lo n k j).length ≤ (k + 1) * n := by
  unfold allTo
  rw [List.length_append, row_len]
  have h : ((List.range k).flatMap (fun x => row lo x (n + 1))).length ≤ k * n := by
    induction k with
    | zero => simp
    | succ k ih =>
      rw [List.range_succ, List.flatMap_append, List.length_append]
      have : ([k].flatMap (fun x => row lo x (n + 1))).length ≤ n := by simp [row_len]
      rw [Nat.add_mul]; omega
  rw [Nat.add_mul]; omega
/-- Those of a set to a given interval. -/
def keep (s a0 a1 : Int) (l : List (Int × Int)) : List (Int × Int) := l.filter fun p => holdsB s p.1 p.2 a0 a1
theorem keep_snoc (s a0 a1 x y : Int) (l : List (Int × Int)) : keep s a0 a1 (l ++ [(x, y)]) = keep s a0 a1 l ++ (if holdsB s x y a0 a1 then [(x, y)] else []) := by
  unfold keep
  rw [List.filter_append]
  congr 1
  cases h : holdsB s x y a0 a1 <;> simp [h]
theorem keep_len (s a0 a1 lo : Int) (n k j : Nat) (hn : n ≤ 40) (hk : k ≤ n) (hj : j ≤ n + 1) : (keep s a0 a1 (allTo lo n k j)).length ≤ 1640 := by
  have h1 := List.length_filter_le (fun p : Int × Int => holdsB s p.1 p.2 a0 a1) (allTo lo n k j)
  have h2 := allTo_len lo n k j hj
  have h3 : (k + 1) * n ≤ 41 * 40 := Nat.mul_le_mul (by omega) hn
  unfold keep
  omega
def posB (s a0 a1 lo hi : Int) : Bool := isSetB s && validB a0 a1 && lineB lo && lineB hi && decide (lo < hi) && decide (hi - lo ≤ 40)
/-- What Possible returns. -/
def poss (s a0 a1 lo hi : Int) : List (Int × Int) := if posB s a0 a1 lo hi then keep s a0 a1 (allTo lo (hi - lo).toNat (hi - lo).toNat ((hi - lo).toNat + 1)) else []
def SomeSpans (L : List (Int × Int)) (w : World) (e : Ending) (w' : World) : Prop := ∃ v, e = .returned v ∧ Sl w' v L.length 2 (flat L) ∧ Below w.heap.size w w'
/-- append of one interval, the cells of the given interval's box beside it. -/
theorem wpList_app1X {P : Program} {ops : Array Oper} {rest : List Oper} {o : Oper} {a : Act} {Q : Exit → Act → World → Prop} {W0 wX : World} (hX : Below W0.heap.size W0 wX) (hgd : o.guard = none) (s x : Operand) (t : TypeId)
    (ho : o.op = .call { callee := .builtin .append, args := #[s, x], argTypes := #[t, t] })
    (e : TypeId) {i : TypeInfo} {z : Value} {size bytes : Nat} (ht : P.underlying t = some (.slice e)) (hi : P.info? e = some i) (hz : i.zero = some z)
    (hsize : i.size = size) (hby : i.bytes = bytes) (hzs : z.cells.size = size) (hsz : 0 < size)
    (v : Value) (n : Nat) (xs : List Value) (hs : a.eval s = v) (cs : List Value) (te : TypeId) (hown : wX.ownsRow (W0.heap.size + 1) e size v n xs)
    {H : Nat} (hx : a.eval x = .slice (some ⟨H, 0, none⟩) 1 1) (hH : wX.heap.size = H) (hl : cs.length = size) (h1 : ∀ u ∈ cs, u.oneCell' = true)
    (h63 : n + 1 ≤ maxLen) (hbytes : (n + 1) * bytes ≤ 140737488355328) {c0 c1 : Value} (ca : wX.cell? ⟨W0.heap.size, 0, none⟩ = some c0) (cb : wX.cell? ⟨W0.heap.size, 1, none⟩ = some c1) (hs0 : W0.heap.size < wX.heap.size)
    (h : ∀ g cap w', w'.ownsRow (W0.heap.size + 1) e size (.slice (some ⟨g, 0, none⟩) (n + 1) cap) (n + 1) (xs ++ cs) → Below W0.heap.size W0 w' → w'.cell? ⟨W0.heap.size, 0, none⟩ = some c0 → w'.cell? ⟨W0.heap.size, 1, none⟩ = some c1 → W0.heap.size < w'.heap.size → wpList P ops Q rest (a.put o.dst (.slice (some ⟨g, 0, none⟩) (n + 1) cap)) w') :
    wpList P ops Q (o :: rest) a (wX.alloc (.cells cs.toArray te)) := by
  subst hH
  refine wpList_append_lies _ hgd s x t ho (W0.heap.size + 1) e i z size bytes ht hi hz hsize hby hzs hsz v n xs hs (hown.alloc _) ⟨wX.heap.size, 0, none⟩ 1 1 cs hx (by omega) (cells_new wX cs te) h1 (by omega) h63 hbytes (by simp; omega) (wX.heap.size + 1) (by simp) ?_
  intro g cap w' h2 h3 _ _
  have hrow : ∀ k, v.ownBlock = some k → W0.heap.size + 1 ≤ k := fun k hk => (World.ownsRow.lt (hown.alloc (.cells cs.toArray te)) k hk).1
  have hcell : ∀ o u, wX.cell? ⟨W0.heap.size, o, none⟩ = some u → w'.cell? ⟨W0.heap.size, o, none⟩ = some u := fun o u hu => by
    have h4 : (wX.alloc (.cells cs.toArray te)).cell? ⟨W0.heap.size, o, none⟩ = some u := Sl.cell_kept hu ((Below.refl _ _).alloc (Nat.le_refl _) _)
    rw [World.cell?_of_block (h3.block W0.heap.size (by simp; omega) (fun e => by have := hrow _ e.symm; omega))]
    exact h4
  exact h g cap w' h2 (grow_step (hX.alloc hX.size _) h3 (fun k hk => by have := hrow k hk; omega)) (hcell _ _ ca) (hcell _ _ cb) (by have := h3.size; simp at this; omega)
set_option maxHeartbeats 2000000 in
theorem possible_none (s a0 a1 lo hi : Int) (h : posB s a0 a1 lo hi = false) (w : World) : Calls Try.prog 23 #[.int .i64 s, .agg #[.int .i64 a0, .int .i64 a1], .int .i64 lo, .int .i64 hi] w (SomeSpans [] w) := by
  cases h1 : isSetB s
  · go_enter Try.func23, Try.ntmps23
    go_wp2_with (first | (go_at_call 34; ((with_reducible refine (isSet_any s _).mono ?_); rintro e w1 ⟨rfl, rfl⟩)) | (go_at_call 17; (with_reducible refine (valid_any a0 a1 _).mono ?_); rintro e w1 ⟨rfl, hb⟩; have hL : Below w.heap.size w w1 := Sl.bstep (by go_grown) hb; have ca : w1.cell? ⟨w.heap.size, 0, none⟩ = some (.int .i64 a0) := Sl.cell_kept (by simp) hb; have cb : w1.cell? ⟨w.heap.size, 1, none⟩ = some (.int .i64 a1) := Sl.cell_kept (by simp) hb; clear hb) | (go_at_call 43; ((with_reducible refine (pline_any lo _).mono ?_); rintro e w1 ⟨rfl, rfl⟩)) | (go_at_call 43; ((with_reducible refine (pline_any hi _).mono ?_); rintro e w1 ⟨rfl, rfl⟩)))
    go_ret
    exact ⟨_, rfl, Sl.mk0 _ _ _ _, by go_grown⟩
  cases h2 : validB a0 a1
  · go_enter Try.func23, Try.ntmps23
    go_wp2_with (first | (go_at_call 34; ((with_reducible refine (isSet_any s _).mono ?_); rintro e w1 ⟨rfl, rfl⟩)) | (go_at_call 17; (with_reducible refine (valid_any a0 a1 _).mono ?_); rintro e w1 ⟨rfl, hb⟩; have hL : Below w.heap.size w w1 := Sl.bstep (by go_grown) hb; have ca : w1.cell? ⟨w.heap.size, 0, none⟩ = some (.int .i64 a0) := Sl.cell_kept (by simp) hb; have cb : w1.cell? ⟨w.heap.size, 1, none⟩ = some (.int .i64 a1) := Sl.cell_kept (by simp) hb; clear hb) | (go_at_call 43; ((with_reducible refine (pline_any lo _).mono ?_); rintro e w1 ⟨rfl, rfl⟩)) | (go_at_call 43; ((with_reducible refine (pline_any hi _).mono ?_); rintro e w1 ⟨rfl, rfl⟩)))
    go_ret
    exact ⟨_, rfl, Sl.mk0 _ _ _ _, hL⟩
  cases h3 : lineB lo
  · go_enter Try.func23, Try.ntmps23
    go_wp2_with (first | (go_at_call 34; ((with_reducible refine (isSet_any s _).mono ?_); rintro e w1 ⟨rfl, rfl⟩)) | (go_at_call 17; (with_reducible refine (valid_any a0 a1 _).mono ?_); rintro e w1 ⟨rfl, hb⟩; have hL : Below w.heap.size w w1 := Sl.bstep (by go_grown) hb; have ca : w1.cell? ⟨w.heap.size, 0, none⟩ = some (.int .i64 a0) := Sl.cell_kept (by simp) hb; have cb : w1.cell? ⟨w.heap.size, 1, none⟩ = some (.int .i64 a1) := Sl.cell_kept (by simp) hb; clear hb) | (go_at_call 43; ((with_reducible refine (pline_any lo _).mono ?_); rintro e w1 ⟨rfl, rfl⟩)) | (go_at_call 43; ((with_reducible refine (pline_any hi _).mono ?_); rintro e w1 ⟨rfl, rfl⟩)))
    go_ret
    exact ⟨_, rfl, Sl.mk0 _ _ _ _, hL⟩
  cases h4 : lineB hi
  · go_enter Try.func23, Try.ntmps23
    go_wp2_with (first | (go_at_call 34; ((with_reducible refine (isSet_any s _).mono ?_); rintro e w1 ⟨rfl, rfl⟩)) | (go_at_call 17; (with_reducible refine (valid_any a0 a1 _).mono ?_); rintro e w1 ⟨rfl, hb⟩; have hL : Below w.heap.size w w1 := Sl.bstep (by go_grown) hb; have ca : w1.cell? ⟨w.heap.size, 0, none⟩ = some (.int .i64 a0) := Sl.cell_kept (by simp) hb; have cb : w1.cell? ⟨w.heap.size, 1, none⟩ = some (.int .i64 a1) := Sl.cell_kept (by simp) hb; clear hb) | (go_at_call 43; ((with_reducible refine (pline_any lo _).mono ?_); rintro e w1 ⟨rfl, rfl⟩)) | (go_at_call 43; ((with_reducible refine (pline_any hi _).mono ?_); rintro e w1 ⟨rfl, rfl⟩)))
    go_ret
    exact ⟨_, rfl, Sl.mk0 _ _ _ _, hL⟩
  by_cases h5 : hi ≤ lo
  · go_enter Try.func23, Try.ntmps23
    go_wp2_with (first | (go_at_call 34; ((with_reducible refine (isSet_any s _).mono ?_); rintro e w1 ⟨rfl, rfl⟩)) | (go_at_call 17; (with_reducible refine (valid_any a0 a1 _).mono ?_); rintro e w1 ⟨rfl, hb⟩; have hL : Below w.heap.size w w1 := Sl.bstep (by go_grown) hb; have ca : w1.cell? ⟨w.heap.size, 0, none⟩ = some (.int .i64 a0) := Sl.cell_kept (by simp) hb; have cb : w1.cell? ⟨w.heap.size, 1, none⟩ = some (.int .i64 a1) := Sl.cell_kept (by simp) hb; clear hb) | (go_at_call 43; ((with_reducible refine (pline_any lo _).mono ?_); rintro e w1 ⟨rfl, rfl⟩)) | (go_at_call 43; ((with_reducible refine (pline_any hi _).mono ?_); rintro e w1 ⟨rfl, rfl⟩)))
    go_ret
    exact ⟨_, rfl, Sl.mk0 _ _ _ _, hL⟩
  have b3 : -4398046511104 ≤ lo ∧ lo ≤ 4398046511104 := by simpa [lineB] using h3
  have b4 : -4398046511104 ≤ hi ∧ hi ≤ 4398046511104 := by simpa [lineB] using h4
  have h6 : 40 < hi - lo := by
    simp [posB, h1, h2, h3, h4] at h
    omega
  have hw : IntKind.i64.wrap (hi - lo) = hi - lo := IntWalk.i64_in _ (by omega)
  go_enter Try.func23, Try.ntmps23
  go_wp2_with (first | (go_at_call 34; ((with_reducible refine (isSet_any s _).mono ?_); rintro e w1 ⟨rfl, rfl⟩)) | (go_at_call 17; (with_reducible refine (valid_any a0 a1 _).mono ?_); rintro e w1 ⟨rfl, hb⟩; have hL : Below w.heap.size w w1 := Sl.bstep (by go_grown) hb; have ca : w1.cell? ⟨w.heap.size, 0, none⟩ = some (.int .i64 a0) := Sl.cell_kept (by simp) hb; have cb : w1.cell? ⟨w.heap.size, 1, none⟩ = some (.int .i64 a1) := Sl.cell_kept (by simp) hb; clear hb) | (go_at_call 43; ((with_reducible refine (pline_any lo _).mono ?_); rintro e w1 ⟨rfl, rfl⟩)) | (go_at_call 43; ((with_reducible refine (pline_any hi _).mono ?_); rintro e w1 ⟨rfl, rfl⟩)))
  go_ret
  exact ⟨_, rfl, Sl.mk0 _ _ _ _, hL⟩
set_option maxRecDepth 100000 in
set_option maxHeartbeats 4000000 in
theorem possible_some (s a0 a1 lo : Int) (n : Nat) (h1 : isSetB s = true) (h2 : validB a0 a1 = true) (h3 : lineB lo = true) (h4 : lineB (lo + (n : Int)) = true) (h5 : 0 < n) (h6 : n ≤ 40) (w : World) : Calls Try.prog 23 #[.int .i64 s, .agg #[.int .i64 a0, .int .i64 a1], .int .i64 lo, .int .i64 (lo + (n : Int))] w (SomeSpans (keep s a0 a1 (allTo lo n n (n + 1))) w) := by
  obtain ⟨i0, hi, hz0, hz1, hz2⟩ := info_parts info_span
  have b3 : -4398046511104 ≤ lo ∧ lo ≤ 4398046511104 := by simpa [lineB] using h3
  have b4 : -4398046511104 ≤ lo + (n : Int) ∧ lo + (n : Int) ≤ 4398046511104 := by simpa [lineB] using h4
  have hw : IntKind.i64.wrap (lo + (n : Int) - lo) = (n : Int) := by rw [show lo + (n : Int) - lo = (n : Int) by omega]; exact IntWalk.i64_in _ (by omega)
  have g1 : decide (lo + (n : Int) ≤ lo) = false := by simp; omega
  have g2 : decide ((40 : Int) < (n : Int)) = false := by simp; omega
  go_enter Try.func23, Try.ntmps23
  go_wp2_with (first | (go_at_call 34; ((with_reducible refine (isSet_any s _).mono ?_); rintro e w1 ⟨rfl, rfl⟩)) | (go_at_call 17; (with_reducible refine (valid_any a0 a1 _).mono ?_); rintro e w1 ⟨rfl, hb⟩; have hL : Below w.heap.size w w1 := Sl.bstep (by go_grown) hb; have ca : w1.cell? ⟨w.heap.size, 0, none⟩ = some (.int .i64 a0) := Sl.cell_kept (by simp) hb; have cb : w1.cell? ⟨w.heap.size, 1, none⟩ = some (.int .i64 a1) := Sl.cell_kept (by simp) hb; clear hb) | (go_at_call 43; ((with_reducible refine (pline_any lo _).mono ?_); rintro e w1 ⟨rfl, rfl⟩)) | (go_at_call 43; ((with_reducible refine (pline_any (lo + (n : Int)) _).mono ?_); rintro e w1 ⟨rfl, rfl⟩)))
  clear hw g1 g2
  go_loopw [10, 11] (fun v i wr => ∃ k : Nat, k ≤ n ∧ i = .int .i64 (lo + (k : Int)) ∧ wr.ownsRow (w.heap.size + 1) 25 2 v (keep s a0 a1 (allTo lo n k (k + 1))).length (flat (keep s a0 a1 (allTo lo n k (k + 1)))) ∧ Below w.heap.size w wr ∧ wr.cell? ⟨w.heap.size, 0, none⟩ = some (.int .i64 a0) ∧ wr.cell? ⟨w.heap.size, 1, none⟩ = some (.int .i64 a1) ∧ w.heap.size < wr.heap.size) (fun _ i _ => n - (intOf i - lo).toNat)
  case atStart => exact ⟨0, by omega, by simp, by rw [allTo_zero]; exact World.ownsRow_nil _ _ _ _, hL, ca, cb, block_of_cell ca⟩
  case round =>
    clear hL ca cb w1
    obtain ⟨wo, rfl⟩ : ∃ wo : World, wo = wr := ⟨_, rfl⟩
    obtain ⟨k, hk, rfl, hown, hL, ca, cb, hs⟩ := hrel
    by_cases hlt : k < n
    · have k5 : decide (lo + (k : Int) < lo + (n : Int)) = true := by simp; omega
      have kw : IntKind.i64.wrap (lo + (k : Int) + 1) = lo + ((k + 1 : Nat) : Int) := by rw [show lo + (k : Int) + 1 = lo + ((k + 1 : Nat) : Int) by omega]; exact IntWalk.i64_in _ (by omega)
      go_wp2
      go_loopw [10, 12] (fun v t wr => ∃ j : Nat, k < j ∧ j ≤ n + 1 ∧ t = .int .i64 (lo + (j : Int)) ∧ wr.ownsRow (w.heap.size + 1) 25 2 v (keep s a0 a1 (allTo lo n k j)).length (flat (keep s a0 a1 (allTo lo n k j))) ∧ Below w.heap.size w wr ∧ wr.cell? ⟨w.heap.size, 0, none⟩ = some (.int .i64 a0) ∧ wr.cell? ⟨w.heap.size, 1, none⟩ = some (.int .i64 a1) ∧ w.heap.size < wr.heap.size) (fun _ t _ => n + 1 - (intOf t - lo).toNat)
      case atStart => exact ⟨k + 1, by omega, by omega, by first | rfl | go_num, hown, hL, ca, cb, hs⟩
      case round =>
        obtain ⟨wp, rfl⟩ : ∃ wp : World, wp = wr := ⟨_, rfl⟩
        obtain ⟨j, hj, hjn, rfl, hown2, hL2, ca2, cb2, hs2⟩ := hrel
        have hlen := keep_len s a0 a1 lo n k j h6 hk hjn
        by_cases hjl : j ≤ n
        · have j5 : decide (lo + (j : Int) ≤ lo + (n : Int)) = true := by simp; omega
          have jw : IntKind.i64.wrap (lo + (j : Int) + 1) = lo + ((j + 1 : Nat) : Int) := by rw [show lo + (j : Int) + 1 = lo + ((j + 1 : Nat) : Int) by omega]; exact IntWalk.i64_in _ (by omega)
          have hstep := allTo_step lo n k j hj
          have hsn := keep_snoc s a0 a1 (lo + (k : Int)) (lo + (j : Int)) (allTo lo n k j)
          rw [← hstep] at hsn
          have hh := holds_any s (lo + (k : Int)) (lo + (j : Int)) a0 a1
          cases hb : holdsB s (lo + (k : Int)) (lo + (j : Int)) a0 a1
          · rw [hb] at hh
            rw [hb, if_neg (by simp), List.append_nil] at hsn
            have HS := Lib.hid hsn
            clear hsn hstep
            go_wp2_with (go_at_call 15; (with_reducible refine (hh _).mono ?_); rintro e w2 ⟨rfl, hb2⟩)
            have hq : Below wp.heap.size wp w2 := Sl.bstep (by go_grown) hb2
            go_roundw
            case rel => exact ⟨j + 1, by omega, by omega, by first | rfl | go_num, by rw [HS.out]; exact ownsRow_step hown2 hq, Sl.bstep hL2 hq, Sl.cell_kept ca2 hq, Sl.cell_kept cb2 hq, Nat.lt_of_lt_of_le hs2 hq.size⟩
            case measure => simp [intOf]; omega
          · rw [hb] at hh
            rw [hb, if_pos rfl] at hsn
            have HS := Lib.hid hsn
            clear hsn hstep
            go_wp2_with (first | (go_at_call 15; (with_reducible refine (hh _).mono ?_); rintro e w2 ⟨rfl, hb2⟩; have hq : Below wp.heap.size wp w2 := (Sl.bstep (by go_grown) hb2); have hown3 := ownsRow_step hown2 hq; have hL3 := Sl.bstep hL2 hq; have q0 : w2.cell? ⟨wp.heap.size, 0, none⟩ = some (.int .i64 (lo + (k : Int))) := (Sl.cell_kept (by simp) hb2); have q1 : w2.cell? ⟨wp.heap.size, 1, none⟩ = some (.int .i64 (lo + (j : Int))) := (Sl.cell_kept (by simp) hb2); have ca3 := Sl.cell_kept ca2 hq; have cb3 := Sl.cell_kept cb2 hq; have hs3 := Nat.lt_of_lt_of_le hs2 hq.size) | (at_builtin; go_must (refine wpList_app1X hL3 rfl (.tmp 65) (.tmp 67) 23 rfl 25 Try.underlying23 hi hz0 hz1 hz2 rfl (by decide) u10 (keep s a0 a1 (allTo lo n k j)).length (flat (keep s a0 a1 (allTo lo n k j))) rfl [.int .i64 (lo + (k : Int)), .int .i64 (lo + (j : Int))] 25 hown3 rfl (by simp) rfl (by intro u hu; simp at hu; rcases hu with rfl | rfl <;> rfl) (by unfold maxLen; omega) (by omega) ca3 cb3 hs3 ?_); intro g cap w4 hown4 hL4 ca4 cb4 hs4))
            go_roundw
            case rel =>
              have R : w4.ownsRow (w.heap.size + 1) 25 2 (.slice (some ⟨g, 0, none⟩) ((keep s a0 a1 (allTo lo n k j)).length + 1) cap) (keep s a0 a1 (allTo lo n k (j + 1))).length (flat (keep s a0 a1 (allTo lo n k (j + 1)))) := by
                rw [HS.out, flat_snoc, List.length_append]
                exact hown4
              exact ⟨j + 1, by omega, by omega, by first | rfl | go_num, R, hL4, ca4, cb4, hs4⟩
            case measure => simp [intOf]; omega
        · obtain rfl : j = n + 1 := by omega
          have j5 : decide (lo + ((n + 1 : Nat) : Int) ≤ lo + (n : Int)) = false := by simp; omega
          have hn := Lib.hid (allTo_next lo n k)
          go_wp2
          go_roundw
          case rel => exact ⟨k + 1, by omega, by first | rfl | go_num, by rw [hn.out]; exact hown2, hL2, ca2, cb2, hs2⟩
          case measure => simp [intOf]; omega
    · obtain rfl : k = n := by omega
      have hSl := Sl.of_owns hown
      go_wp2
      go_ret
      exact ⟨_, rfl, hSl, hL⟩
theorem possible_any (s a0 a1 lo hi : Int) (w : World) : Calls Try.prog 23 #[.int .i64 s, .agg #[.int .i64 a0, .int .i64 a1], .int .i64 lo, .int .i64 hi] w (SomeSpans (poss s a0 a1 lo hi) w) := by
  unfold poss
  cases h : posB s a0 a1 lo hi
  · exact possible_none s a0 a1 lo hi h w
  have h' := h
  simp only [posB, Bool.and_eq_true, decide_eq_true_eq] at h'
  obtain ⟨⟨⟨⟨⟨h1, h2⟩, h3⟩, h4⟩, h5⟩, h6⟩ := h'
  obtain ⟨n, rfl⟩ : ∃ n : Nat, hi = lo + (n : Int) := ⟨(hi - lo).toNat, by omega⟩
  rw [if_pos rfl, show (lo + (n : Int) - lo).toNat = n by omega]
  exact possible_some s a0 a1 lo n h1 h2 h3 h4 (by omega) (by omega) w
set_option maxHeartbeats 2000000 in
theorem rpossible_none (s a0 a1 lo hi : Int) (h : posB s a0 a1 lo hi = false) (w : World) : Calls Try.prog 26 #[.int .i64 s, .agg #[.int .i64 a0, .int .i64 a1], .int .i64 lo, .int .i64 hi] w (SomeSpans [] w) := by
  cases h1 : isSetB s
  · go_enter Try.func26, Try.ntmps26
    go_wp2_with (first | (go_at_call 35; ((with_reducible refine (rIsSet_any s _).mono ?_); rintro e w1 ⟨rfl, rfl⟩)) | (go_at_call 36; (with_reducible refine (rvalid_any a0 a1 _).mono ?_); rintro e w1 ⟨rfl, hb⟩; have hL : Below w.heap.size w w1 := Sl.bstep (by go_grown) hb; have ca : w1.cell? ⟨w.heap.size, 0, none⟩ = some (.int .i64 a0) := Sl.cell_kept (by simp) hb; have cb : w1.cell? ⟨w.heap.size, 1, none⟩ = some (.int .i64 a1) := Sl.cell_kept (by simp) hb; clear hb))
    go_ret
    exact ⟨_, rfl, Sl.mk0 _ _ _ _, by go_grown⟩
  cases h2 : validB a0 a1
  · go_enter Try.func26, Try.ntmps26
    go_wp2_with (first | (go_at_call 35; ((with_reducible refine (rIsSet_any s _).mono ?_); rintro e w1 ⟨rfl, rfl⟩)) | (go_at_call 36; (with_reducible refine (rvalid_any a0 a1 _).mono ?_); rintro e w1 ⟨rfl, hb⟩; have hL : Below w.heap.size w w1 := Sl.bstep (by go_grown) hb; have ca : w1.cell? ⟨w.heap.size, 0, none⟩ = some (.int .i64 a0) := Sl.cell_kept (by simp) hb; have cb : w1.cell? ⟨w.heap.size, 1, none⟩ = some (.int .i64 a1) := Sl.cell_kept (by simp) hb; clear hb))
    go_ret
    exact ⟨_, rfl, Sl.mk0 _ _ _ _, hL⟩
  by_cases h3 : lo < -4398046511104
  · go_enter Try.func26, Try.ntmps26
    go_wp2_with (first | (go_at_call 35; ((with_reducible refine (rIsSet_any s _).mono ?_); rintro e w1 ⟨rfl, rfl⟩)) | (go_at_call 36; (with_reducible refine (rvalid_any a0 a1 _).mono ?_); rintro e w1 ⟨rfl, hb⟩; have hL : Below w.heap.size w w1 := Sl.bstep (by go_grown) hb; have ca : w1.cell? ⟨w.heap.size, 0, none⟩ = some (.int .i64 a0) := Sl.cell_kept (by simp) hb; have cb : w1.cell? ⟨w.heap.size, 1, none⟩ = some (.int .i64 a1) := Sl.cell_kept (by simp) hb; clear hb))
    go_ret
    exact ⟨_, rfl, Sl.mk0 _ _ _ _, hL⟩
  by_cases h4 : 4398046511104 < hi
  · go_enter Try.func26, Try.ntmps26
    go_wp2_with (first | (go_at_call 35; ((with_reducible refine (rIsSet_any s _).mono ?_); rintro e w1 ⟨rfl, rfl⟩)) | (go_at_call 36; (with_reducible refine (rvalid_any a0 a1 _).mono ?_); rintro e w1 ⟨rfl, hb⟩; have hL : Below w.heap.size w w1 := Sl.bstep (by go_grown) hb; have ca : w1.cell? ⟨w.heap.size, 0, none⟩ = some (.int .i64 a0) := Sl.cell_kept (by simp) hb; have cb : w1.cell? ⟨w.heap.size, 1, none⟩ = some (.int .i64 a1) := Sl.cell_kept (by simp) hb; clear hb))
    go_ret
    exact ⟨_, rfl, Sl.mk0 _ _ _ _, hL⟩
  by_cases h5 : hi ≤ lo
  · go_enter Try.func26, Try.ntmps26
    go_wp2_with (first | (go_at_call 35; ((with_reducible refine (rIsSet_any s _).mono ?_); rintro e w1 ⟨rfl, rfl⟩)) | (go_at_call 36; (with_reducible refine (rvalid_any a0 a1 _).mono ?_); rintro e w1 ⟨rfl, hb⟩; have hL : Below w.heap.size w w1 := Sl.bstep (by go_grown) hb; have ca : w1.cell? ⟨w.heap.size, 0, none⟩ = some (.int .i64 a0) := Sl.cell_kept (by simp) hb; have cb : w1.cell? ⟨w.heap.size, 1, none⟩ = some (.int .i64 a1) := Sl.cell_kept (by simp) hb; clear hb))
    go_ret
    exact ⟨_, rfl, Sl.mk0 _ _ _ _, hL⟩
  have b3 : -4398046511104 ≤ lo ∧ lo ≤ 4398046511104 := by omega
  have b4 : -4398046511104 ≤ hi ∧ hi ≤ 4398046511104 := by omega
  have h3' : lineB lo = true := by simp [lineB]; omega
  have h4' : lineB hi = true := by simp [lineB]; omega
  have h6 : 40 < hi - lo := by
    simp [posB, h1, h2, h3', h4'] at h
    omega
  have hw : IntKind.i64.wrap (hi - lo) = hi - lo := IntWalk.i64_in _ (by omega)
  go_enter Try.func26, Try.ntmps26
  go_wp2_with (first | (go_at_call 35; ((with_reducible refine (rIsSet_any s _).mono ?_); rintro e w1 ⟨rfl, rfl⟩)) | (go_at_call 36; (with_reducible refine (rvalid_any a0 a1 _).mono ?_); rintro e w1 ⟨rfl, hb⟩; have hL : Below w.heap.size w w1 := Sl.bstep (by go_grown) hb; have ca : w1.cell? ⟨w.heap.size, 0, none⟩ = some (.int .i64 a0) := Sl.cell_kept (by simp) hb; have cb : w1.cell? ⟨w.heap.size, 1, none⟩ = some (.int .i64 a1) := Sl.cell_kept (by simp) hb; clear hb))
  go_ret
  exact ⟨_, rfl, Sl.mk0 _ _ _ _, hL⟩
set_option maxRecDepth 100000 in
set_option maxHeartbeats 4000000 in
theorem rpossible_some (s a0 a1 lo : Int) (n : Nat) (h1 : isSetB s = true) (h2 : validB a0 a1 = true) (h3 : lineB lo = true) (h4 : lineB (lo + (n : Int)) = true) (h5 : 0 < n) (h6 : n ≤ 40) (w : World) : Calls Try.prog 26 #[.int .i64 s, .agg #[.int .i64 a0, .int .i64 a1], .int .i64 lo, .int .i64 (lo + (n : Int))] w (SomeSpans (keep s a0 a1 (allTo lo n n (n + 1))) w) := by
  obtain ⟨i0, hi, hz0, hz1, hz2⟩ := info_parts info_span
  have b3 : -4398046511104 ≤ lo ∧ lo ≤ 4398046511104 := by simpa [lineB] using h3
  have b4 : -4398046511104 ≤ lo + (n : Int) ∧ lo + (n : Int) ≤ 4398046511104 := by simpa [lineB] using h4
  have hw : IntKind.i64.wrap (lo + (n : Int) - lo) = (n : Int) := by rw [show lo + (n : Int) - lo = (n : Int) by omega]; exact IntWalk.i64_in _ (by omega)
  have g1 : decide (lo + (n : Int) ≤ lo) = false := by simp; omega
  have g2 : decide ((40 : Int) < (n : Int)) = false := by simp; omega
  have g3 : decide (lo < -4398046511104) = false := by simp; omega
  have g4 : decide (4398046511104 < lo + (n : Int)) = false := by simp; omega
  go_enter Try.func26, Try.ntmps26
  go_wp2_with (first | (go_at_call 35; ((with_reducible refine (rIsSet_any s _).mono ?_); rintro e w1 ⟨rfl, rfl⟩)) | (go_at_call 36; (with_reducible refine (rvalid_any a0 a1 _).mono ?_); rintro e w1 ⟨rfl, hb⟩; have hL : Below w.heap.size w w1 := Sl.bstep (by go_grown) hb; have ca : w1.cell? ⟨w.heap.size, 0, none⟩ = some (.int .i64 a0) := Sl.cell_kept (by simp) hb; have cb : w1.cell? ⟨w.heap.size, 1, none⟩ = some (.int .i64 a1) := Sl.cell_kept (by simp) hb; clear hb))
  clear hw g1 g2
  go_loopw [9, 10] (fun v i wr => ∃ k : Nat, k ≤ n ∧ i = .int .i64 (lo + (k : Int)) ∧ wr.ownsRow (w.heap.size + 1) 25 2 v (keep s a0 a1 (allTo lo n k (k + 1))).length (flat (keep s a0 a1 (allTo lo n k (k + 1)))) ∧ Below w.heap.size w wr ∧ wr.cell? ⟨w.heap.size, 0, none⟩ = some (.int .i64 a0) ∧ wr.cell? ⟨w.heap.size, 1, none⟩ = some (.int .i64 a1) ∧ w.heap.size < wr.heap.size) (fun _ i _ => n - (intOf i - lo).toNat)
  case atStart => exact ⟨0, by omega, by simp, by rw [allTo_zero]; exact World.ownsRow_nil _ _ _ _, hL, ca, cb, block_of_cell ca⟩
  case round =>
    clear hL ca cb w1
    obtain ⟨wo, rfl⟩ : ∃ wo : World, wo = wr := ⟨_, rfl⟩
    obtain ⟨k, hk, rfl, hown, hL, ca, cb, hs⟩ := hrel
    by_cases hlt : k < n
    · have k5 : decide (lo + (k : Int) < lo + (n : Int)) = true := by simp; omega
      have kw : IntKind.i64.wrap (lo + (k : Int) + 1) = lo + ((k + 1 : Nat) : Int) := by rw [show lo + (k : Int) + 1 = lo + ((k + 1 : Nat) : Int) by omega]; exact IntWalk.i64_in _ (by omega)
      go_wp2
      go_loopw [9, 11] (fun v t wr => ∃ j : Nat, k < j ∧ j ≤ n + 1 ∧ t = .int .i64 (lo + (j : Int)) ∧ wr.ownsRow (w.heap.size + 1) 25 2 v (keep s a0 a1 (allTo lo n k j)).length (flat (keep s a0 a1 (allTo lo n k j))) ∧ Below w.heap.size w wr ∧ wr.cell? ⟨w.heap.size, 0, none⟩ = some (.int .i64 a0) ∧ wr.cell? ⟨w.heap.size, 1, none⟩ = some (.int .i64 a1) ∧ w.heap.size < wr.heap.size) (fun _ t _ => n + 1 - (intOf t - lo).toNat)
      case atStart => exact ⟨k + 1, by omega, by omega, by first | rfl | go_num, hown, hL, ca, cb, hs⟩
      case round =>
        obtain ⟨wp, rfl⟩ : ∃ wp : World, wp = wr := ⟨_, rfl⟩
        obtain ⟨j, hj, hjn, rfl, hown2, hL2, ca2, cb2, hs2⟩ := hrel
        have hlen := keep_len s a0 a1 lo n k j h6 hk hjn
        by_cases hjl : j ≤ n
        · have j5 : decide (lo + (j : Int) ≤ lo + (n : Int)) = true := by simp; omega
          have jw : IntKind.i64.wrap (lo + (j : Int) + 1) = lo + ((j + 1 : Nat) : Int) := by rw [show lo + (j : Int) + 1 = lo + ((j + 1 : Nat) : Int) by omega]; exact IntWalk.i64_in _ (by omega)
          have hstep := allTo_step lo n k j hj
          have hsn := keep_snoc s a0 a1 (lo + (k : Int)) (lo + (j : Int)) (allTo lo n k j)
          rw [← hstep] at hsn
          have hh := rholds_any s (lo + (k : Int)) (lo + (j : Int)) a0 a1
          cases hb : holdsB s (lo + (k : Int)) (lo + (j : Int)) a0 a1
          · rw [hb] at hh
            rw [hb, if_neg (by simp), List.append_nil] at hsn
            have HS := Lib.hid hsn
            clear hsn hstep
            go_wp2_with (go_at_call 16; (with_reducible refine (hh _).mono ?_); rintro e w2 ⟨rfl, hb2⟩)
            have hq : Below wp.heap.size wp w2 := Sl.bstep (by go_grown) hb2
            go_roundw
            case rel => exact ⟨j + 1, by omega, by omega, by first | rfl | go_num, by rw [HS.out]; exact ownsRow_step hown2 hq, Sl.bstep hL2 hq, Sl.cell_kept ca2 hq, Sl.cell_kept cb2 hq, Nat.lt_of_lt_of_le hs2 hq.size⟩
            case measure => simp [intOf]; omega
          · rw [hb] at hh
            rw [hb, if_pos rfl] at hsn
            have HS := Lib.hid hsn
            clear hsn hstep
            go_wp2_with (first | (go_at_call 16; (with_reducible refine (hh _).mono ?_); rintro e w2 ⟨rfl, hb2⟩; have hq : Below wp.heap.size wp w2 := (Sl.bstep (by go_grown) hb2); have hown3 := ownsRow_step hown2 hq; have hL3 := Sl.bstep hL2 hq; have q0 : w2.cell? ⟨wp.heap.size, 0, none⟩ = some (.int .i64 (lo + (k : Int))) := (Sl.cell_kept (by simp) hb2); have q1 : w2.cell? ⟨wp.heap.size, 1, none⟩ = some (.int .i64 (lo + (j : Int))) := (Sl.cell_kept (by simp) hb2); have ca3 := Sl.cell_kept ca2 hq; have cb3 := Sl.cell_kept cb2 hq; have hs3 := Nat.lt_of_lt_of_le hs2 hq.size) | (at_builtin; go_must (refine wpList_app1X hL3 rfl (.tmp 61) (.tmp 63) 23 rfl 25 Try.underlying23 hi hz0 hz1 hz2 rfl (by decide) u9 (keep s a0 a1 (allTo lo n k j)).length (flat (keep s a0 a1 (allTo lo n k j))) rfl [.int .i64 (lo + (k : Int)), .int .i64 (lo + (j : Int))] 25 hown3 rfl (by simp) rfl (by intro u hu; simp at hu; rcases hu with rfl | rfl <;> rfl) (by unfold maxLen; omega) (by omega) ca3 cb3 hs3 ?_); intro g cap w4 hown4 hL4 ca4 cb4 hs4))
            go_roundw
            case rel =>
              have R : w4.ownsRow (w.heap.size + 1) 25 2 (.slice (some ⟨g, 0, none⟩) ((keep s a0 a1 (allTo lo n k j)).length + 1) cap) (keep s a0 a1 (allTo lo n k (j + 1))).length (flat (keep s a0 a1 (allTo lo n k (j + 1)))) := by
                rw [HS.out, flat_snoc, List.length_append]
                exact hown4
              exact ⟨j + 1, by omega, by omega, by first | rfl | go_num, R, hL4, ca4, cb4, hs4⟩
            case measure => simp [intOf]; omega
        · obtain rfl : j = n + 1 := by omega
          have j5 : decide (lo + ((n + 1 : Nat) : Int) ≤ lo + (n : Int)) = false := by simp; omega
          have hn := Lib.hid (allTo_next lo n k)
          go_wp2
          go_roundw
          case rel => exact ⟨k + 1, by omega, by first | rfl | go_num, by rw [hn.out]; exact hown2, hL2, ca2, cb2, hs2⟩
          case measure => simp [intOf]; omega
    · obtain rfl : k = n := by omega
      have hSl := Sl.of_owns hown
      go_wp2
      go_ret
      exact ⟨_, rfl, hSl, hL⟩
theorem rpossible_any (s a0 a1 lo hi : Int) (w : World) : Calls Try.prog 26 #[.int .i64 s, .agg #[.int .i64 a0, .int .i64 a1], .int .i64 lo, .int .i64 hi] w (SomeSpans (poss s a0 a1 lo hi) w) := by
  unfold poss
  cases h : posB s a0 a1 lo hi
  · exact rpossible_none s a0 a1 lo hi h w
  have h' := h
  simp only [posB, Bool.and_eq_true, decide_eq_true_eq] at h'
  obtain ⟨⟨⟨⟨⟨h1, h2⟩, h3⟩, h4⟩, h5⟩, h6⟩ := h'
  obtain ⟨n, rfl⟩ : ∃ n : Nat, hi = lo + (n : Int) := ⟨(hi - lo).toNat, by omega⟩
  rw [if_pos rfl, show (lo + (n : Int) - lo).toNat = n by omega]
  exact rpossible_some s a0 a1 lo n h1 h2 h3 h4 (by omega) (by omega) w
end Go.Proofs.Ytmkgddgdeffllaa.Al
