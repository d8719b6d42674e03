/-
  The walk of allen's Convex.
-/
import Derived.Test.YtknnpgaabejjlaaDoorEnd
import Derived.Test.YtknnpgaabejjlaaDoorRnd
import Derived.BigGuardPart
set_option linter.unusedSimpArgs false
set_option linter.unusedVariables false
namespace Go.Proofs.YtknnpgaabejjlaaDoor.Al
open Go Go.RowKit Go.Shelf Go.Proofs.YtknnpgaabejjlaaDoor.Bt Go.Proofs.YtknnpgaabejjlaaDoor.Sl Go.Proofs.YtknnpgaabejjlaaDoor.Iv Go.Proofs.YtknnpgaabejjlaaDoor.Lst
attribute [local go_sem] Oper.semAt_some

def en (r i : Nat) : Nat := endL.getD (r * 2 + i) 0
def lo (pre : List (Fin 13)) (i : Nat) : Nat := pre.foldl (fun o r => min o (en r.val i)) 5
def hi (pre : List (Fin 13)) (i : Nat) : Nat := pre.foldl (fun o r => max o (en r.val i)) 1
theorem lo_snoc (pre : List (Fin 13)) (x : Fin 13) (i : Nat) : lo (pre ++ [x]) i = min (lo pre i) (en x.val i) := by simp [lo]
theorem hi_snoc (pre : List (Fin 13)) (x : Fin 13) (i : Nat) : hi (pre ++ [x]) i = max (hi pre i) (en x.val i) := by simp [hi]
/-- A block's cells. -/
def Rowed (W : World) (B : Nat) (t : TypeId) (l : List Nat) : Prop := W.heap[B]? = some (.cells (nums l) t (0, 0))
theorem rowed_own {β : Type} (B : Nat) (t : TypeId) (f : β → List Nat) : Own (fun s W => Rowed W B t (f s)) := fun s X Y row hs hg hrow => by
  have hlt : B < X.heap.size := (Array.getElem?_eq_some_iff.1 hs).1
  exact (hg.block B hlt (fun e' => by obtain ⟨o, ho, hc⟩ := hrow B e'.symm; rw [show X.heap[B]? = _ from hs] at ho; cases ho; cases hc)).trans hs
theorem Rowed.cell {W : World} {B : Nat} {t : TypeId} {l : List Nat} (h : Rowed W B t l) (p : Nat) (hp : p < l.length) : W.cell? ⟨B, p, none⟩ = some (.int .i64 ((l.getD p 0 : Nat) : Int)) := by
  rw [cell_of_row _ _ _ _ _ _ h]; exact nums_get _ _ hp
theorem Rowed.frozen {W : World} {B : Nat} {t : TypeId} {l : List Nat} (h : Rowed W B t l) (p : Nat) : W.frozen? ⟨B, p, none⟩ = false := by
  simp [World.frozen?, show W.heap[B]? = _ from h]
theorem Rowed.store {W : World} {B : Nat} {t : TypeId} {l : List Nat} (h : Rowed W B t l) (p x : Nat) : Rowed (W.setCell ⟨B, p, none⟩ (.int .i64 ((x : Nat) : Int))) B t (l.set p x) := by
  unfold Rowed at *
  rw [heap_setCell_same _ _ _ _ _ _ h, nums_set]
theorem Rowed.other {W : World} {B B' p : Nat} {u : Value} {t : TypeId} {l : List Nat} (h : Rowed W B t l) (hb : B ≠ B') : Rowed (W.setCell ⟨B', p, none⟩ u) B t l := by
  unfold Rowed at *
  rw [heap_setCell_other _ _ _ _ hb]; exact h
theorem Rowed.step {W W' : World} {B : Nat} {t : TypeId} {l : List Nat} (h : Rowed W B t l) (hb : Below W.heap.size W W') : Rowed W' B t l := by
  have hlt : B < W.heap.size := (Array.getElem?_eq_some_iff.1 h).1
  unfold Rowed at *
  rw [hb.block _ hlt]; exact h

theorem keeps_set {W : World} {B p : Nat} {u : Value} {t : TypeId} {l : List Nat} (h : Rowed W B t l) : KeepsOthers W (W.setCell ⟨B, p, none⟩ u) :=
  KeepsOthers.of_grownBy (row := some B) ⟨rfl, rfl, rfl, by simp, fun k _ hk => heap_setCell_other _ _ _ _ (fun e => hk (by rw [e]))⟩ (fun j o hj ho => by
    cases hj
    rw [show W.heap[B]? = _ from h] at ho
    cases ho
    rfl)
/-- A relation stands in the box. -/
def inBox (m r : Nat) : Bool := decide (lo (singF m) 0 ≤ en r 0) && decide (en r 0 ≤ hi (singF m) 0) && decide (lo (singF m) 1 ≤ en r 1) && decide (en r 1 ≤ hi (singF m) 1)
/-- The first k of its two places. -/
def boxTo (m r k : Nat) : Bool := (decide (k = 0) || (decide (lo (singF m) 0 ≤ en r 0) && decide (en r 0 ≤ hi (singF m) 0))) && (decide (k < 2) || (decide (lo (singF m) 1 ≤ en r 1) && decide (en r 1 ≤ hi (singF m) 1)))
theorem boxTo_zero (m r : Nat) : boxTo m r 0 = true := by simp [boxTo]
theorem boxTo_two (m r : Nat) : boxTo m r 2 = inBox m r := by simp [boxTo, inBox, Bool.and_assoc]
theorem boxTo_step (m r k : Nat) (hk : k < 2) : boxTo m r (k + 1) = (boxTo m r k && decide (lo (singF m) k ≤ en r k) && decide (en r k ≤ hi (singF m) k)) := by
  rcases (by omega : k = 0 ∨ k = 1) with rfl | rfl <;> simp [boxTo, Bool.and_assoc]
def cvx (m : Nat) : Bool := (List.range 13).all fun r => inBox m r == m.testBit r
theorem cvx_no (m r : Nat) (hr : r < 13) (h : inBox m r ≠ m.testBit r) : cvx m = false := by
  cases c : cvx m with
  | false => rfl
  | true =>
    unfold cvx at c
    have := List.all_eq_true.1 c r (by simpa using hr)
    exact absurd (by simpa using this) h
theorem cvx_yes (m : Nat) (h : ∀ r < 13, inBox m r = m.testBit r) : cvx m = true := by
  unfold cvx
  rw [List.all_eq_true]
  intro r hr
  simp only [List.mem_range] at hr
  simp [h r hr]
theorem bdN {B : Nat} {a w : World} (h : Below B a w) (n : Nat) : Below B a (w.drewN n) := ⟨h.os, h.tape, h.output, h.size, h.block⟩
def cvxB (s : Int) : Bool := isSetB s && cvx s.toNat

set_option maxRecDepth 100000 in
set_option maxHeartbeats 1000000 in
theorem convex_set (m : Nat) (hm : m < 8192) (h0 : m ≠ 0) (w : World) : CallsIn Fence.wide 20 Tryd.prog 15 #[.int .i64 (m : Int)] w fun e w' => e = .returned (.bool (cvx m)) ∧ Below w.heap.size w w' := by
  have hwf : ∀ f, Fence.wide.fn f := fun _ => trivial
  have his : isSetB (m : Int) = true := by simp [isSetB]; omega
  have hz : ¬ (m : Int) = 0 := by omega
  refine callsIn_of_wp_marks Tryd.func15 rfl trivial ?_ rfl
  simp only [Tryd.ntmps15, List.size_toArray, List.length_cons, List.length_nil, Nat.reduceAdd, Nat.reduceSub, Array.replicate_succ, Array.replicate_zero, List.push_toArray, List.append_toArray, List.nil_append, List.cons_append]
  refine wpIn_wide.2 ?_
  go_upto_region 5 with (go_at_call 20; refine (isSet_any _ _).mono ?_; rintro e w' ⟨rfl, rfl⟩)
  refine wp_region_lit ?_
  refine wpList_step fun K1 hK1 => ?_
  rw [if_pos (by rfl)]
  go_simp
  refine (ends_any _).mono ?_
  rintro e w1 ⟨rfl, hb1⟩
  refine hK1 _ _ ?_
  refine wpList_step fun K2 hK2 => ?_
  rw [if_pos (by rfl)]
  go_simp
  refine hK2 _ _ ?_
  refine wpList_step fun K3 hK3 => ?_
  rw [if_pos (by rfl)]
  refine wp_store_row 49 (.tmp 3) (.tmp 16) rfl w1.heap.size (nums endL) rfl rfl _ 49 (heap_alloc_new w1 _) (by rw [nums_size]; exact info_end) (by rw [nums_size]; rfl) (nums_one _) ?_
  intro wz hz hbz
  refine hK3 _ _ ?_
  refine wpList_nil ?_
  have hN : w.heap.size ≤ w1.heap.size := hb1.size
  have hB0 : Below w.heap.size w wz := Below.trans (b := w1.alloc _) (by go_grown) (hbz.mono hN)
  have hsz : w1.heap.size + 1 ≤ wz.heap.size := by have := hbz.size; simpa using this
  clear hbz hb1
  generalize w1.heap.size = N at *
  clear hK1 hK2 hK3 K1 K2 K3
  go_wp2_with (go_at_call 21; refine (each_any _ _).mono ?_; rintro e w' ⟨rfl, rfl⟩)
  have bS := Boxed.new ((wz.alloc (.cells #[.int .i64 5, .int .i64 5] 48)).alloc (.cells #[.int .i64 1, .int .i64 1] 48)) 3 (.int .i64 (m : Int))
  simp only [World.size_alloc] at bS
  refine (wpIn_wide (n := 20)).1 ?_
  refine wp_each (n := 20) (by omega) (wz.heap.size + 1 + 1) m hm bS rfl
    (fun pre W => Rowed W N 49 endL ∧ Rowed W wz.heap.size 48 [lo pre 0, lo pre 1] ∧ Rowed W (wz.heap.size + 1) 48 [hi pre 0, hi pre 1] ∧ Below w.heap.size w W)
    ?hI ?start
    (fun x => { tmps := #[.int .i64 (m : Int), undef, .bool false, .pointer (some ⟨N, 0, none⟩), .pointer (some ⟨wz.heap.size, 0, none⟩), .pointer (some ⟨wz.heap.size + 1, 0, none⟩), .int .i64 (x.val : Int), undef, undef, undef, undef, .int .i64 (m : Int), .bool true, .bool false, .int .i64 (m : Int), .bool false, .agg (nums endL), .agg #[.int .i64 5, .int .i64 5], .agg #[.int .i64 1, .int .i64 1], .int .i64 (m : Int), .func (.func 28) #[] #[.pointer (some ⟨wz.heap.size + 1 + 1, 0, none⟩)], .int .i64 (x.val : Int), undef, undef, undef, undef, undef, undef, undef, undef, undef, undef, undef, undef, undef, undef, undef, undef, undef, undef, undef, undef, undef, undef, undef, undef, undef, undef, undef, undef, undef, undef, undef, undef, undef, undef, undef, undef, undef, undef, undef, undef, undef, undef, undef, undef, undef, undef, undef, undef, undef, undef, undef, undef, undef, undef, undef, undef, undef, undef, undef, undef, undef, undef, undef, undef], defers := [] })
    ?assign ?body ?done
  case hI => exact OwnFrom.and (Own.from (rowed_own N _ (fun _ => endL)) _) (OwnFrom.and (Own.from (rowed_own _ _ (fun pre => [lo pre 0, lo pre 1])) _) (OwnFrom.and (Own.from (rowed_own _ _ (fun pre => [hi pre 0, hi pre 1])) _) (ownFrom_below (Nat.le_refl _) (by simp; omega))))
  case start =>
    have r0 : Rowed wz N 49 endL := hz
    have r1 : Rowed (wz.alloc (.cells #[.int .i64 5, .int .i64 5] 48)) wz.heap.size 48 [lo [] 0, lo [] 1] := heap_alloc_new wz _
    have r2 : Rowed ((wz.alloc (.cells #[.int .i64 5, .int .i64 5] 48)).alloc (.cells #[.int .i64 1, .int .i64 1] 48)) (wz.heap.size + 1) 48 [hi [] 0, hi [] 1] := by
      have := heap_alloc_new (wz.alloc (.cells #[.int .i64 5, .int .i64 5] 48)) (.cells #[.int .i64 1, .int .i64 1] 48)
      rw [World.size_alloc] at this
      exact this
    exact ⟨r0.step (by go_grown), r1.step (((Below.refl _ _).alloc (Nat.le_refl _) _).alloc (by simp) _), r2.step ((Below.refl _ _).alloc (Nat.le_refl _) _), Sl.bstep hB0 (by go_grown)⟩
  case assign =>
    intro l x W K hK
    gi_wp2
    exact hK
  case body =>
    rintro l pre x W ⟨hE, hL, hH, hb⟩ hlen
    have hx0 : (0 : Int) ≤ (x.val : Int) := by omega
    have hx1 : (x.val : Int) < 13 := by have := x.isLt; omega
    have r0 := hE.cell (x.val * 2) (by simp [endL]; omega)
    have r1 := hE.cell (x.val * 2 + 1) (by simp [endL]; omega)
    gi_wp2
    gi_loopw [22] (fun i wr => ∃ k : Nat, k ≤ 2 ∧ i = .int .i64 k ∧ Rowed wr N 49 endL ∧ Rowed wr wz.heap.size 48 [lo (if 0 < k then pre ++ [x] else pre) 0, lo (if 1 < k then pre ++ [x] else pre) 1] ∧ Rowed wr (wz.heap.size + 1) 48 [hi (if 0 < k then pre ++ [x] else pre) 0, hi (if 1 < k then pre ++ [x] else pre) 1] ∧ Below w.heap.size w wr ∧ Kb (wz.heap.size + 1 + 1) 3 W wr ∧ KeepsOthers W wr) (fun i _ => 2 - (intOf i).toNat)
    case atStart => exact ⟨0, by omega, rfl, hE, by simpa using hL, by simpa using hH, hb, fun _ h => h, KeepsOthers.refl _⟩
    case round =>
      obtain ⟨wo, rfl⟩ : ∃ wo : World, wo = wr := ⟨_, rfl⟩
      obtain ⟨k, hk, rfl, gE, gL, gH, gb, gK, gO⟩ := hrel
      by_cases h2 : k < 2
      · have k2 : decide ((k : Int) < 2) = true := by simp; omega
        have i0 : (0 : Int) ≤ (k : Int) := by omega
        have i1 : (k : Int) < 2 := by omega
        gi_wp2
        refine wpIn_region_round (by kernel_rfl) (by kernel_rfl) ?_
        have c1 : wo.cell? ⟨N, x.val * 2 + k, none⟩ = some (.int .i64 ((en x.val k : Nat) : Int)) := gE.cell (x.val * 2 + k) (by simp [endL]; omega)
        have c2 : wo.cell? ⟨wz.heap.size, k, none⟩ = some (.int .i64 ((lo pre k : Nat) : Int)) := by
          have := gL.cell k (by simp; omega)
          rcases (by omega : k = 0 ∨ k = 1) with rfl | rfl <;> exact this
        have c3 : wo.cell? ⟨wz.heap.size + 1, k, none⟩ = some (.int .i64 ((hi pre k : Nat) : Int)) := by
          have := gH.cell k (by simp; omega)
          rcases (by omega : k = 0 ∨ k = 1) with rfl | rfl <;> exact this
        refine wpAny_held_last (fun V => V.cell? ⟨N, x.val * 2 + k, none⟩ = some (.int .i64 ((en x.val k : Nat) : Int)) ∧ V.cell? ⟨wz.heap.size + 1, k, none⟩ = some (.int .i64 ((hi pre k : Nat) : Int))) _ (List.take_append_drop 23 _).symm (by kernel_rfl) ?_
        have hS : ({ wo with drawn := wo.drawn + 1 } : World).cell? ⟨N, x.val * 2 + k, none⟩ = some (.int .i64 ((en x.val k : Nat) : Int)) ∧ ({ wo with drawn := wo.drawn + 1 } : World).cell? ⟨wz.heap.size + 1, k, none⟩ = some (.int .i64 ((hi pre k : Nat) : Int)) := ⟨c1, c3⟩
        simp only [List.take_succ_cons, List.take_zero]
        refine wpAnyH_take (i := 0) (v := ?tkv0) rfl (by kernel_rfl) (by kernel_rfl) (by kernel_rfl) (fun _ _ _ h => (by cases h.1)) (Or.inl ⟨by rfl, ?tky0⟩) hS ?tkr0
        case tky0 => intro V hV; obtain ⟨s1, s2⟩ := hV; go_simp; with_reducible rfl
        simp only [Act.put, List.setIfInBounds_toArray, List.set_cons_zero, List.set_cons_succ]
        refine wpAnyH_take (i := 1) (v := ?tkv1) rfl (by kernel_rfl) (by kernel_rfl) (by kernel_rfl) (fun _ _ _ h => (by cases h.1)) (Or.inl ⟨by rfl, ?tky1⟩) hS ?tkr1
        case tky1 => intro V hV; obtain ⟨s1, s2⟩ := hV; go_simp; with_reducible rfl
        simp only [Act.put, List.setIfInBounds_toArray, List.set_cons_zero, List.set_cons_succ]
        refine wpAnyH_take (i := 2) (v := ?tkv2) rfl (by kernel_rfl) (by kernel_rfl) (by kernel_rfl) (fun _ _ _ h => (by cases h.1)) (Or.inl ⟨by rfl, ?tky2⟩) hS ?tkr2
        case tky2 => intro V hV; obtain ⟨s1, s2⟩ := hV; go_simp; with_reducible rfl
        simp only [Act.put, List.setIfInBounds_toArray, List.set_cons_zero, List.set_cons_succ]
        refine wpAnyH_take (i := 3) (v := ?tkv3) rfl (by kernel_rfl) (by kernel_rfl) (by kernel_rfl) (fun _ _ _ h => (by cases h.1)) (Or.inl ⟨by rfl, ?tky3⟩) hS ?tkr3
        case tky3 => intro V hV; obtain ⟨s1, s2⟩ := hV; go_simp; with_reducible rfl
        simp only [Act.put, List.setIfInBounds_toArray, List.set_cons_zero, List.set_cons_succ]
        refine wpAnyH_take (i := 5) (v := ?tkv5) rfl (by kernel_rfl) (by kernel_rfl) (by kernel_rfl) (fun _ _ _ h => (by cases h.1)) (Or.inl ⟨by rfl, ?tky5⟩) hS ?tkr5
        case tky5 => intro V hV; obtain ⟨s1, s2⟩ := hV; go_simp; with_reducible rfl
        simp only [Act.put, List.setIfInBounds_toArray, List.set_cons_zero, List.set_cons_succ]
        refine wpAnyH_take (i := 6) (v := ?tkv6) rfl (by kernel_rfl) (by kernel_rfl) (by kernel_rfl) (fun _ _ _ h => (by cases h.1)) (Or.inl ⟨by rfl, ?tky6⟩) hS ?tkr6
        case tky6 => intro V hV; obtain ⟨s1, s2⟩ := hV; go_simp; with_reducible rfl
        simp only [Act.put, List.setIfInBounds_toArray, List.set_cons_zero, List.set_cons_succ]
        refine wpAnyH_take (i := 7) (v := ?tkv7) rfl (by kernel_rfl) (by kernel_rfl) (by kernel_rfl) (fun _ _ _ h => (by cases h.1)) (Or.inl ⟨by rfl, ?tky7⟩) hS ?tkr7
        case tky7 => intro V hV; obtain ⟨s1, s2⟩ := hV; go_simp; with_reducible rfl
        simp only [Act.put, List.setIfInBounds_toArray, List.set_cons_zero, List.set_cons_succ]
        refine wpAnyH_take (i := 8) (v := ?tkv8) rfl (by kernel_rfl) (by kernel_rfl) (by kernel_rfl) (fun _ _ _ h => (by cases h.1)) (Or.inl ⟨by rfl, ?tky8⟩) hS ?tkr8
        case tky8 => intro V hV; obtain ⟨s1, s2⟩ := hV; go_simp; with_reducible rfl
        simp only [Act.put, List.setIfInBounds_toArray, List.set_cons_zero, List.set_cons_succ]
        refine wpAnyH_take (i := 9) (v := ?tkv9) rfl (by kernel_rfl) (by kernel_rfl) (by kernel_rfl) (fun _ _ _ h => (by cases h.1)) (Or.inl ⟨by rfl, ?tky9⟩) hS ?tkr9
        case tky9 => intro V hV; obtain ⟨s1, s2⟩ := hV; go_simp; with_reducible rfl
        simp only [Act.put, List.setIfInBounds_toArray, List.set_cons_zero, List.set_cons_succ]
        refine wpAnyH_take (i := 11) (v := ?tkv11) rfl (by kernel_rfl) (by kernel_rfl) (by kernel_rfl) (fun _ _ _ h => (by cases h.1)) (Or.inl ⟨by rfl, ?tky11⟩) hS ?tkr11
        case tky11 => intro V hV; obtain ⟨s1, s2⟩ := hV; go_simp; with_reducible rfl
        simp only [Act.put, List.setIfInBounds_toArray, List.set_cons_zero, List.set_cons_succ]
        refine wpAnyH_take (i := 12) (v := ?tkv12) rfl (by kernel_rfl) (by kernel_rfl) (by kernel_rfl) (fun _ _ _ h => (by cases h.1)) (Or.inl ⟨by rfl, ?tky12⟩) hS ?tkr12
        case tky12 => intro V hV; obtain ⟨s1, s2⟩ := hV; go_simp; with_reducible rfl
        simp only [Act.put, List.setIfInBounds_toArray, List.set_cons_zero, List.set_cons_succ]
        refine wpAnyH_take (i := 13) (v := ?tkv13) rfl (by kernel_rfl) (by kernel_rfl) (by kernel_rfl) (fun _ _ _ h => (by cases h.1)) (Or.inl ⟨by rfl, ?tky13⟩) hS ?tkr13
        case tky13 => intro V hV; obtain ⟨s1, s2⟩ := hV; go_simp; with_reducible rfl
        simp only [Act.put, List.setIfInBounds_toArray, List.set_cons_zero, List.set_cons_succ]
        refine wpAnyH_take (i := 14) (v := ?tkv14) rfl (by kernel_rfl) (by kernel_rfl) (by kernel_rfl) (fun _ _ _ h => (by cases h.1)) (Or.inl ⟨by rfl, ?tky14⟩) hS ?tkr14
        case tky14 => intro V hV; obtain ⟨s1, s2⟩ := hV; go_simp; with_reducible rfl
        simp only [Act.put, List.setIfInBounds_toArray, List.set_cons_zero, List.set_cons_succ]
        refine wpAnyH_take (i := 15) (v := ?tkv15) rfl (by kernel_rfl) (by kernel_rfl) (by kernel_rfl) (fun _ _ _ h => (by cases h.1)) (Or.inl ⟨by rfl, ?tky15⟩) hS ?tkr15
        case tky15 => intro V hV; obtain ⟨s1, s2⟩ := hV; go_simp; with_reducible rfl
        simp only [Act.put, List.setIfInBounds_toArray, List.set_cons_zero, List.set_cons_succ]
        refine wpAnyH_take (i := 16) (v := ?tkv16) rfl (by kernel_rfl) (by kernel_rfl) (by kernel_rfl) (fun _ _ _ h => (by cases h.1)) (Or.inl ⟨by rfl, ?tky16⟩) hS ?tkr16
        case tky16 => intro V hV; obtain ⟨s1, s2⟩ := hV; go_simp; with_reducible rfl
        simp only [Act.put, List.setIfInBounds_toArray, List.set_cons_zero, List.set_cons_succ]
        refine wpAnyH_take (i := 17) (v := ?tkv17) rfl (by kernel_rfl) (by kernel_rfl) (by kernel_rfl) (fun _ _ _ h => (by cases h.1)) (Or.inl ⟨by rfl, ?tky17⟩) hS ?tkr17
        case tky17 => intro V hV; obtain ⟨s1, s2⟩ := hV; go_simp; with_reducible rfl
        simp only [Act.put, List.setIfInBounds_toArray, List.set_cons_zero, List.set_cons_succ]
        refine wpAnyH_take (i := 18) (v := ?tkv18) rfl (by kernel_rfl) (by kernel_rfl) (by kernel_rfl) (fun _ _ _ h => (by cases h.1)) (Or.inl ⟨by rfl, ?tky18⟩) hS ?tkr18
        case tky18 => intro V hV; obtain ⟨s1, s2⟩ := hV; go_simp; with_reducible rfl
        simp only [Act.put, List.setIfInBounds_toArray, List.set_cons_zero, List.set_cons_succ]
        refine wpAnyH_take (i := 19) (v := ?tkv19) rfl (by kernel_rfl) (by kernel_rfl) (by kernel_rfl) (fun _ _ _ h => (by cases h.1)) (Or.inl ⟨by rfl, ?tky19⟩) hS ?tkr19
        case tky19 => intro V hV; obtain ⟨s1, s2⟩ := hV; go_simp; with_reducible rfl
        simp only [Act.put, List.setIfInBounds_toArray, List.set_cons_zero, List.set_cons_succ]
        refine wpAnyH_one 4 (by kernel_rfl) rfl (by rfl) fun K hK => ?_
        go_simp
        refine hK _ _ hS ?_
        refine wpAnyH_take (i := 10) (v := ?tkv10) rfl (by kernel_rfl) (by kernel_rfl) (by kernel_rfl) (fun _ _ _ h => (by cases h.1)) (Or.inl ⟨by rfl, ?tky10⟩) hS ?tkr10
        case tky10 => intro V hV; obtain ⟨s1, s2⟩ := hV; go_simp; with_reducible rfl
        simp only [Act.put, List.setIfInBounds_toArray, List.set_cons_zero, List.set_cons_succ]
        refine wpAnyH_take (i := 20) (v := ?tkv20) rfl (by kernel_rfl) (by kernel_rfl) (by kernel_rfl) (fun _ _ _ h => (by cases h.1)) (Or.inl ⟨by rfl, ?tky20⟩) hS ?tkr20
        case tky20 => intro V hV; obtain ⟨s1, s2⟩ := hV; go_simp; with_reducible rfl
        simp only [Act.put, List.setIfInBounds_toArray, List.set_cons_zero, List.set_cons_succ]
        have hmn : (if en x.val k < lo pre k then ((en x.val k : Nat) : Int) else ((lo pre k : Nat) : Int)) = ((min (lo pre k) (en x.val k) : Nat) : Int) := by split <;> omega
        have hmx : (if hi pre k < en x.val k then ((en x.val k : Nat) : Int) else ((hi pre k : Nat) : Int)) = ((max (hi pre k) (en x.val k) : Nat) : Int) := by split <;> omega
        simp only [hmn, hmx]
        have f2 : wo.frozen? ⟨wz.heap.size, k, none⟩ = false := gL.frozen k
        refine wpAnyH_one 21 (by kernel_rfl) rfl (by rfl) fun K hK => ?_
        go_simp
        have d1 : ∀ u, (({ wo with drawn := wo.drawn + 1 } : World).setCell ⟨wz.heap.size, k, none⟩ u).cell? ⟨N, x.val * 2 + k, none⟩ = some (.int .i64 ((en x.val k : Nat) : Int)) := fun u => by
          rw [World.cell?_setCell_other (h := by intro e; injection e; omega)]; exact c1
        have d3 : ∀ u, (({ wo with drawn := wo.drawn + 1 } : World).setCell ⟨wz.heap.size, k, none⟩ u).cell? ⟨wz.heap.size + 1, k, none⟩ = some (.int .i64 ((hi pre k : Nat) : Int)) := fun u => by
          rw [World.cell?_setCell_other (h := by intro e; injection e; omega)]; exact c3
        refine hK _ _ ⟨d1 _, d3 _⟩ ?_
        refine wpAnyH_take (i := 22) (v := ?tkv22) rfl (by kernel_rfl) (by kernel_rfl) (by kernel_rfl) (fun _ _ _ h => (by cases h.1)) (Or.inl ⟨by rfl, ?tky22⟩) ⟨d1 _, d3 _⟩ ?tkr22
        case tky22 => intro V hV; obtain ⟨s1, s2⟩ := hV; go_simp; with_reducible rfl
        simp only [Act.put, List.setIfInBounds_toArray, List.set_cons_zero, List.set_cons_succ]
        refine wpAnyH_done (by kernel_rfl) ?_ _
        refine thenLast_of (by rfl) ?_
        clear hK K d1 d3 hS
        have g2 : Rowed (wo.setCell ⟨wz.heap.size, k, none⟩ (.int .i64 ((min (lo pre k) (en x.val k) : Nat) : Int))) (wz.heap.size + 1) 48 [hi (if 0 < k then pre ++ [x] else pre) 0, hi (if 1 < k then pre ++ [x] else pre) 1] := gH.other (by omega)
        have d3 : (wo.setCell ⟨wz.heap.size, k, none⟩ (.int .i64 ((min (lo pre k) (en x.val k) : Nat) : Int))).cell? ⟨wz.heap.size + 1, k, none⟩ = some (.int .i64 ((hi pre k : Nat) : Int)) := by
          rw [World.cell?_setCell_other (h := by intro e; injection e; omega)]; exact c3
        have f3 := g2.frozen k
        go_simp
        refine ⟨rfl, ?_⟩
        have rE := (gE.other (p := k) (u := .int .i64 ((min (lo pre k) (en x.val k) : Nat) : Int)) (by omega : N ≠ wz.heap.size)).other (p := k) (u := .int .i64 ((max (hi pre k) (en x.val k) : Nat) : Int)) (by omega : N ≠ wz.heap.size + 1)
        have rL := (gL.store k (min (lo pre k) (en x.val k))).other (p := k) (u := .int .i64 ((max (hi pre k) (en x.val k) : Nat) : Int)) (by omega : wz.heap.size ≠ wz.heap.size + 1)
        have rH := g2.store k (max (hi pre k) (en x.val k))
        have eL : [lo (if 0 < k then pre ++ [x] else pre) 0, lo (if 1 < k then pre ++ [x] else pre) 1].set k (min (lo pre k) (en x.val k)) = [lo (if 0 < k + 1 then pre ++ [x] else pre) 0, lo (if 1 < k + 1 then pre ++ [x] else pre) 1] := by
          rcases (by omega : k = 0 ∨ k = 1) with rfl | rfl <;> simp [lo_snoc]
        have eH : [hi (if 0 < k then pre ++ [x] else pre) 0, hi (if 1 < k then pre ++ [x] else pre) 1].set k (max (hi pre k) (en x.val k)) = [hi (if 0 < k + 1 then pre ++ [x] else pre) 0, hi (if 1 < k + 1 then pre ++ [x] else pre) 1] := by
          rcases (by omega : k = 0 ∨ k = 1) with rfl | rfl <;> simp [hi_snoc]
        rw [eL] at rL
        rw [eH] at rH
        have rO := (gO.trans (keeps_set (p := k) (u := .int .i64 ((min (lo pre k) (en x.val k) : Nat) : Int)) gL)).trans (keeps_set (p := k) (u := .int .i64 ((max (hi pre k) (en x.val k) : Nat) : Int)) g2)
        have rB := (gb.setCell (p := (⟨wz.heap.size, k, none⟩ : Addr)) (show w.heap.size ≤ wz.heap.size by omega) (.int .i64 ((min (lo pre k) (en x.val k) : Nat) : Int))).setCell (p := (⟨wz.heap.size + 1, k, none⟩ : Addr)) (show w.heap.size ≤ wz.heap.size + 1 by omega) (.int .i64 ((max (hi pre k) (en x.val k) : Nat) : Int))
        have rK : Kb (wz.heap.size + 1 + 1) 3 W ((wo.setCell ⟨wz.heap.size, k, none⟩ (.int .i64 ((min (lo pre k) (en x.val k) : Nat) : Int))).setCell ⟨wz.heap.size + 1, k, none⟩ (.int .i64 ((max (hi pre k) (en x.val k) : Nat) : Int))) := fun v hv => by
          have := gK v hv
          unfold Boxed at *
          rw [heap_setCell_other _ _ _ _ (by simp), heap_setCell_other _ _ _ _ (by simp; omega)]
          exact this
        have RR := Lib.hid (And.intro rE (And.intro rL (And.intro rH (And.intro rB (And.intro rK rO)))))
        clear rE rL rH rB rK rO eL eH d3 f3 f2 g2 hmn hmx c1 c2 c3 gE gL gH gb gK gO
        gi_wp2
        go_roundw
        case rel => exact ⟨k + 1, by omega, by go_num, RR.out.1, RR.out.2.1, RR.out.2.2.1, (show Below w.heap.size w (World.drew _) from RR.out.2.2.2.1.drew), RR.out.2.2.2.2.1, ⟨RR.out.2.2.2.2.2.size, RR.out.2.2.2.2.2.same⟩⟩
        case measure => simp [intOf]; omega
      · obtain rfl : k = 2 := by omega
        have RR := Lib.hid (And.intro gE (And.intro gL (And.intro gH (And.intro gb (And.intro gK gO)))))
        clear gE gL gH gb gK gO
        gi_wp2
        exact ⟨RR.out.2.2.2.2.2, RR.out.2.2.2.2.1, RR.out.1, RR.out.2.1, RR.out.2.2.1, RR.out.2.2.2.1⟩
  case done =>
    rintro D W hD ⟨hE, hL, hH, hb⟩ hK
    have HH := Lib.hid (And.intro hE (And.intro hL (And.intro hH (And.intro hb hK))))
    clear hE hL hH hb hK
    go_wp2
    go_loopw [48] (fun i wr => ∃ r : Nat, r ≤ 13 ∧ i = .int .i64 r ∧ (∀ q < r, inBox m q = m.testBit q) ∧ Rowed wr N 49 endL ∧ Rowed wr wz.heap.size 48 [lo (singF m) 0, lo (singF m) 1] ∧ Rowed wr (wz.heap.size + 1) 48 [hi (singF m) 0, hi (singF m) 1] ∧ Below w.heap.size w wr ∧ wr.heap[D]? = some (.deferred (some []))) (fun i _ => 13 - (intOf i).toNat)
    case atStart => exact ⟨0, by omega, rfl, fun q hq => absurd hq (by omega), HH.out⟩
    case round =>
      obtain ⟨wo, rfl⟩ : ∃ wo : World, wo = wr := ⟨_, rfl⟩
      obtain ⟨r, hr, rfl, hq, hR⟩ := hrel
      have HR := Lib.hid hR
      clear hR
      by_cases hlt : r < 13
      · have r13 : decide ((r : Int) < 13) = true := by simp; omega
        go_wp2
        go_loopw [9, 51] (fun b i wr => ∃ k : Nat, k ≤ 2 ∧ i = .int .i64 k ∧ b = .bool (boxTo m r k) ∧ Rowed wr N 49 endL ∧ Rowed wr wz.heap.size 48 [lo (singF m) 0, lo (singF m) 1] ∧ Rowed wr (wz.heap.size + 1) 48 [hi (singF m) 0, hi (singF m) 1] ∧ Below w.heap.size w wr ∧ wr.heap[D]? = some (.deferred (some []))) (fun _ i _ => 2 - (intOf i).toNat)
        case atStart => exact ⟨0, by omega, rfl, by rw [boxTo_zero], HR.out⟩
        case round =>
          obtain ⟨wp, rfl⟩ : ∃ wp : World, wp = wr := ⟨_, rfl⟩
          obtain ⟨k, hk, rfl, rfl, hR⟩ := hrel
          by_cases h2 : k < 2
          · have k2 : decide ((k : Int) < 2) = true := by simp; omega
            have i0 : (0 : Int) ≤ (k : Int) := by omega
            have i1 : (k : Int) < 2 := by omega
            have j0 : (0 : Int) ≤ (r : Int) := by omega
            have j1 : (r : Int) < 13 := by omega
            obtain ⟨gE, gL, gH, gb, gD⟩ := hR
            have c1 : wp.cell? ⟨N, r * 2 + k, none⟩ = some (.int .i64 ((en r k : Nat) : Int)) := gE.cell (r * 2 + k) (by simp [endL]; omega)
            have c2 : wp.cell? ⟨wz.heap.size, k, none⟩ = some (.int .i64 ((lo (singF m) k : Nat) : Int)) := by
              have := gL.cell k (by simp; omega)
              rcases (by omega : k = 0 ∨ k = 1) with rfl | rfl <;> exact this
            have c3 : wp.cell? ⟨wz.heap.size + 1, k, none⟩ = some (.int .i64 ((hi (singF m) k : Nat) : Int)) := by
              have := gH.cell k (by simp; omega)
              rcases (by omega : k = 0 ∨ k = 1) with rfl | rfl <;> exact this
            have hst := boxTo_step m r k h2
            have RR := Lib.hid (And.intro hst (And.intro gE (And.intro gL (And.intro gH (And.intro gb gD)))))
            clear hst gE gL gH gb gD
            cases hbt : boxTo m r k
            · go_wp2
              go_quiet (fail)
              go_wp2
              go_roundw
              case rel => exact ⟨k + 1, by omega, by go_num, by rw [RR.out.1, hbt]; rfl, RR.out.2.1, RR.out.2.2.1, RR.out.2.2.2.1, bdN RR.out.2.2.2.2.1 _, RR.out.2.2.2.2.2⟩
              case measure => simp [intOf]; omega
            · by_cases h5 : lo (singF m) k ≤ en r k
              · have h6 : decide (((lo (singF m) k : Nat) : Int) ≤ ((en r k : Nat) : Int)) = true := by simp; omega
                go_wp2
                go_quiet (fail)
                go_wp2
                go_roundw
                case rel => exact ⟨k + 1, by omega, by go_num, by rw [RR.out.1, hbt]; simp [h5], RR.out.2.1, RR.out.2.2.1, RR.out.2.2.2.1, bdN RR.out.2.2.2.2.1 _, RR.out.2.2.2.2.2⟩
                case measure => simp [intOf]; omega
              · have h6 : decide (((lo (singF m) k : Nat) : Int) ≤ ((en r k : Nat) : Int)) = false := by simp; omega
                go_wp2
                go_quiet (fail)
                go_wp2
                go_roundw
                case rel => exact ⟨k + 1, by omega, by go_num, by rw [RR.out.1, hbt]; simp [h5], RR.out.2.1, RR.out.2.2.1, RR.out.2.2.2.1, bdN RR.out.2.2.2.2.1 _, RR.out.2.2.2.2.2⟩
                case measure => simp [intOf]; omega
          · obtain rfl : k = 2 := by omega
            have hbt := bit_test m r (by omega)
            rw [boxTo_two]
            obtain ⟨gE, gL, gH, gb, gD⟩ := hR
            cases hb : m.testBit r
            · rw [hb] at hbt
              cases hx : inBox m r
              · have hq2 : ∀ q < r + 1, inBox m q = m.testBit q := fun q hlt => by
                  by_cases e : q = r
                  · subst e; rw [hb, hx]
                  · exact hq q (by omega)
                have RR := Lib.hid (And.intro hq2 (And.intro gE (And.intro gL (And.intro gH (And.intro gb gD)))))
                clear hq2 gE gL gH gb gD hq
                go_wp2
                go_roundw
                case rel => exact ⟨r + 1, by omega, by go_num, RR.out⟩
                case measure => simp [intOf]; omega
              · have hno := cvx_no m r hlt (by rw [hb, hx]; decide)
                have RR := Lib.hid (And.intro hno (And.intro gE (And.intro gL (And.intro gH (And.intro gb gD)))))
                clear hno gE gL gH gb gD hq
                go_wp2
                refine ⟨by simp, .inl ⟨_, _, rfl, run_takeDeferred RR.out.2.2.2.2.2, ?_⟩⟩
                exact ⟨_, results_tmp rfl _ _ _, by rw [RR.out.1]; rfl, RR.out.2.2.2.2.1.trans (belowK_b (w := w) (Nat.le_refl _) wp D _ _ (by simp at hD; omega) RR.out.2.2.2.2.2 rfl rfl)⟩
            · rw [hb] at hbt
              cases hx : inBox m r
              · have hno := cvx_no m r hlt (by rw [hb, hx]; decide)
                have RR := Lib.hid (And.intro hno (And.intro gE (And.intro gL (And.intro gH (And.intro gb gD)))))
                clear hno gE gL gH gb gD hq
                go_wp2
                refine ⟨by simp, .inl ⟨_, _, rfl, run_takeDeferred RR.out.2.2.2.2.2, ?_⟩⟩
                exact ⟨_, results_tmp rfl _ _ _, by rw [RR.out.1]; rfl, RR.out.2.2.2.2.1.trans (belowK_b (w := w) (Nat.le_refl _) wp D _ _ (by simp at hD; omega) RR.out.2.2.2.2.2 rfl rfl)⟩
              · have hq2 : ∀ q < r + 1, inBox m q = m.testBit q := fun q hlt => by
                  by_cases e : q = r
                  · subst e; rw [hb, hx]
                  · exact hq q (by omega)
                have RR := Lib.hid (And.intro hq2 (And.intro gE (And.intro gL (And.intro gH (And.intro gb gD)))))
                clear hq2 gE gL gH gb gD hq
                go_wp2
                go_roundw
                case rel => exact ⟨r + 1, by omega, by go_num, RR.out⟩
                case measure => simp [intOf]; omega
      · obtain rfl : r = 13 := by omega
        have RR := Lib.hid (And.intro (cvx_yes m hq) HR.out)
        clear hq
        go_wp2
        refine ⟨by simp, .inl ⟨_, _, rfl, run_takeDeferred RR.out.2.2.2.2.2, ?_⟩⟩
        exact ⟨_, results_tmp rfl _ _ _, by rw [RR.out.1]; rfl, RR.out.2.2.2.2.1.trans (belowK_b (w := w) (Nat.le_refl _) wo D _ _ (by simp at hD; omega) RR.out.2.2.2.2.2 rfl rfl)⟩
theorem convex_none (s : Int) (w : World) (h : isSetB s = false) : Calls Tryd.prog 15 #[.int .i64 s] w fun e w' => e = .returned (.bool false) ∧ Below w.heap.size w w' := by
  go_enter Tryd.func15, Tryd.ntmps15
  go_wp2_with (go_at_call 20; refine (isSet_any _ _).mono ?_; rintro e w' ⟨rfl, rfl⟩)
  go_ret
  exact ⟨rfl, by go_grown⟩
theorem convex_zero (w : World) : Calls Tryd.prog 15 #[.int .i64 0] w fun e w' => e = .returned (.bool true) ∧ Below w.heap.size w w' := by
  have his : isSetB 0 = true := by decide
  go_enter Tryd.func15, Tryd.ntmps15
  go_wp2_with (go_at_call 20; refine (isSet_any _ _).mono ?_; rintro e w' ⟨rfl, rfl⟩)
  go_ret
  exact ⟨rfl, by go_grown⟩
theorem convex_any (s : Int) (w : World) : Calls Tryd.prog 15 #[.int .i64 s] w fun e w' => e = .returned (.bool (cvxB s)) ∧ Below w.heap.size w w' := by
  unfold cvxB
  cases h : isSetB s
  · exact convex_none s w h
  obtain ⟨m, rfl⟩ : ∃ m : Nat, s = m := ⟨s.toNat, by simp [isSetB] at h; omega⟩
  by_cases h0 : m = 0
  · subst h0
    exact convex_zero w
  · exact callsIn_wide.1 (convex_set m (by simp [isSetB] at h; omega) h0 w)
end Go.Proofs.YtknnpgaabejjlaaDoor.Al
