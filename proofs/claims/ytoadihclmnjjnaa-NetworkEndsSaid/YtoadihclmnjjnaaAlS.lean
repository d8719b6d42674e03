/-
  The walks of allen's Singles and Inverse (loops over the relations of a set).
-/
import Derived.Test.YtoadihclmnjjnaaRf
import Derived.Maps.AppendAt
import Derived.RangeFuncBox
import Derived.Deep.DeepMust
import Derived.RegionIn
import Derived.BigRegionIn
set_option linter.unusedSimpArgs false
set_option linter.unusedVariables false
namespace Go.Proofs.Ytoadihclmnjjnaa.Al
open Go Go.RowKit Go.Shelf Go.Proofs.Ytoadihclmnjjnaa.Bt Go.Proofs.Ytoadihclmnjjnaa.Sl
attribute [local go_sem] Oper.semAt_some

theorem appended2 {W w1 : World} {n₀ base B : Nat} {t e : TypeId} {size : Nat} {v v' : Value} {k m : Nat} {xs ys : List Value} {tmp : Obj}
    (hv : Boxed W B t v) (hBb : B < base) (hrow : W.ownsRow base e size v k xs) (hn : n₀ ≤ B)
    (hown' : w1.ownsRow base e size v' m ys) (hgrow : (W.alloc tmp).grownBy w1 v.ownBlock) :
    Boxed w1 B t v ∧ Boxed (w1.setCell ⟨B, 0, none⟩ v') B t v' ∧ (w1.setCell ⟨B, 0, none⟩ v').ownsRow base e size v' m ys ∧ KeepsOthers W (w1.setCell ⟨B, 0, none⟩ v') ∧ Below n₀ W (w1.setCell ⟨B, 0, none⟩ v') ∧
      (∀ Bn tn u, Bn < base → Bn ≠ B → Boxed W Bn tn u → Boxed (w1.setCell ⟨B, 0, none⟩ v') Bn tn u) := by
  have hlt : ∀ j, v.ownBlock = some j → base ≤ j := fun j h => (World.ownsRow.lt hrow j h).1
  have hlt' : ∀ j, v'.ownBlock = some j → base ≤ j := fun j h => (World.ownsRow.lt hown' j h).1
  have hv1 : Boxed w1 B t v := (hv.alloc tmp).kept hgrow (fun e => by have := hlt B e.symm; omega)
  have hlt1 := hv.lt
  refine ⟨hv1, hv1.set v', hown'.kept (grownBy_setCell' w1 B v') ?_, ?_, ?_, ?_⟩
  · by_cases c : v'.ownBlock = none
    · exact .inl c
    · exact .inr (fun e => by have := hlt' B e; omega)
  · refine ((KeepsOthers.alloc W tmp).trans (KeepsOthers.of_grownBy hgrow fun j o ej hj => ?_)).trans (KeepsOthers.setCell _ _ _)
    rcases (hrow.alloc tmp).2 with ⟨rfl, _⟩ | ⟨g, cap, cur, rfl, _, hgb, _⟩
    · simp [Value.ownBlock] at ej
    · obtain rfl : g = j := by simpa [Value.ownBlock] using ej
      rw [hgb] at hj; cases hj; rfl
  · exact (((Below.refl n₀ W).alloc (by omega) tmp).grown hgrow (by simp; omega) fun j ej => by have := hlt j ej; omega).setCell (p := ⟨B, 0, none⟩) hn v'
  · intro Bn tn u h1 h2 hb
    exact ((hb.alloc tmp).kept hgrow (fun e => by have := hlt Bn e.symm; omega)).other h2 v'

theorem stored2 {W : World} {n₀ B : Nat} {t : TypeId} {v : Value} (u : Value) (hv : Boxed W B t v) (hn : n₀ ≤ B) :
    KeepsOthers W (W.setCell ⟨B, 0, none⟩ u).drew ∧ Boxed (W.setCell ⟨B, 0, none⟩ u).drew B t u ∧ Below n₀ W (W.setCell ⟨B, 0, none⟩ u).drew ∧ (∀ Bn tn x, Bn ≠ B → Boxed W Bn tn x → Boxed (W.setCell ⟨B, 0, none⟩ u).drew Bn tn x) :=
  ⟨⟨(KeepsOthers.setCell W ⟨B, 0, none⟩ u).size, (KeepsOthers.setCell W ⟨B, 0, none⟩ u).same⟩, hv.set u, ((Below.refl n₀ W).setCell (p := ⟨B, 0, none⟩) hn u).drew, fun Bn tn x h hb => hb.other h u⟩

theorem info_int : (Try.prog.info? 3).map (fun i => (i.zero, i.size, i.bytes)) = some (some (.int .i64 0), 1, 8) := by kernel_rfl
def relV (x : Fin 13) : Value := .int .i64 (x.val : Int)

theorem singles_none (s : Int) (w : World) (h : isSetB s = false) : Calls Try.prog 37 #[.int .i64 s] w fun e w' => e = .returned (.slice none 0 0) ∧ Below w.heap.size w w' := by
  go_enter Try.func37, Try.ntmps37
  go_wp2_with (go_at_call 78; refine (isSet_any _ _).mono ?_; rintro e w' ⟨rfl, rfl⟩)
  go_ret
  exact ⟨rfl, by go_grown⟩

def SomeInts (L : List (Fin 13)) (w : World) (e : Ending) (w' : World) : Prop := ∃ v, e = .returned v ∧ Sl w' v L.length 1 (L.map relV) ∧ Below w.heap.size w w'
set_option maxRecDepth 100000 in
set_option maxHeartbeats 4000000 in
theorem singles_in (m : Nat) (hm : m < 8192) (w : World) : CallsIn Fence.wide 20 Try.prog 37 #[.int .i64 (m : Int)] w (SomeInts (singF m) w) := by
  obtain ⟨i0, hi, hz0, hz1, hz2⟩ := info_parts info_int
  have hwf : ∀ f, Fence.wide.fn f := fun _ => trivial
  have his : isSetB (m : Int) = true := by simp [isSetB]; omega
  refine callsIn_of_wp_marks Try.func37 rfl trivial ?_ rfl
  simp only [Try.ntmps37, List.size_toArray, List.length_cons, List.length_nil, Nat.reduceAdd, Nat.reduceSub, Array.replicate_succ, Array.replicate_zero, List.push_toArray, List.append_toArray, List.nil_append, List.cons_append]
  gi_wp2_with (first | (gi_at_call 78; refine (callsIn_wide.2 (isSet_any _ _)).mono ?_; rintro e w' ⟨rfl, rfl⟩) | (gi_at_call 79; refine (callsIn_wide.2 (each_any _ _)).mono ?_; rintro e w' ⟨rfl, rfl⟩))
  have bO := (Boxed.new w 25 (.slice none 0 0)).alloc (.cells #[.int .i64 (m : Int)] 3)
  have bS := Boxed.new (w.alloc (.cells #[.slice none 0 0] 25)) 3 (.int .i64 (m : Int))
  simp only [World.size_alloc] at bS
  refine wp_each (by omega) (w.heap.size + 1) m hm bS rfl
    (fun pre W => (∃ v, Boxed W w.heap.size 25 v ∧ W.ownsRow (w.heap.size + 2) 3 1 v pre.length (pre.map relV) ∧ True) ∧ Below w.heap.size w W ∧ w.heap.size + 2 ≤ W.heap.size)
    ?hI ⟨⟨_, bO, World.ownsRow_nil _ _ _ _, trivial⟩, by go_grown, by simp⟩
    (fun x => { tmps := #[.int .i64 (m : Int), undef, .slice none 0 0, .pointer (some ⟨w.heap.size, 0, none⟩), .int .i64 (x.val : Int), .int .i64 (m : Int), .bool true, .bool false, .int .i64 (m : Int), .func (.func 96) #[] #[.pointer (some ⟨w.heap.size + 1, 0, none⟩)], .int .i64 (x.val : Int), undef, undef, undef, undef, undef], defers := [] })
    ?assign ?body ?done
  case hI => exact OwnFrom.and (Own.from (holdsRow_own (w.heap.size + 2) w.heap.size 25 3 1 (fun (pre : List (Fin 13)) => pre.length) (fun pre => pre.map relV) (fun _ _ => True)) _) (OwnFrom.and (ownFrom_below (Nat.le_refl _) (by simp; omega)) (fun _ W W' row hs hg hr => Nat.le_trans hs hg.size))
  case assign =>
    intro l x W K hK
    gi_wp2
    exact hK
  case body =>
    rintro l pre x W ⟨⟨v, hv, hr, _⟩, hb, hs⟩ hlen
    have hc := hv.cell
    gi_wp2_with (gi_at_builtin; go_must (refine wpListIn_append_own _ rfl _ _ 25 rfl (w.heap.size + 2) 3 i0 (.int .i64 0) 1 8 Try.underlying25 hi hz0 hz1 hz2 rfl (by decide) _ _ _ rfl (hr.alloc _) ⟨W.heap.size, 0, none⟩ 1 1 [.int .i64 (x.val : Int)] rfl rfl (cell_one_new _ _ _) (by simp [Value.oneCell']) (by unfold maxLen; omega) (by omega) (by simp; omega) ?_); intro v' w1 hown' hgrow _; obtain ⟨g', cap', rfl⟩ := ownsRow_succ hown'; obtain ⟨hv1, hv2, hr2, hk2, hb2, hkb⟩ := appended2 hv (by omega) hr (Nat.le_refl _) hown' hgrow; have hc1 := hv1.cell; have hf1 := hv1.frozen)
    exact ⟨hk2, fun u hu => hkb _ _ _ (by omega) (by omega) hu, ⟨_, hv2, by rw [List.length_append, List.map_append]; exact hr2, trivial⟩, hb.trans hb2, Nat.le_trans hs hk2.size⟩
  case done =>
    rintro D W hD ⟨⟨v, hv, hr, _⟩, hb, hs⟩ hK
    have hc := hv.cell
    gi_wp2
    refine ⟨by simp, .inl ⟨_, _, rfl, run_takeDeferred hK, ?_⟩⟩
    exact ⟨_, results_tmp rfl _ _ _, v, rfl, Sl.of_owns (ownsRow_putObj hr _ hK rfl) |>.cast rfl rfl, hb.trans (belowK_b (w := w) (Nat.le_refl _) W D _ _ (by simp at hD; omega) hK rfl rfl)⟩
theorem singles_any (m : Nat) (hm : m < 8192) (w : World) : Calls Try.prog 37 #[.int .i64 (m : Int)] w (SomeInts (singF m) w) := callsIn_wide.1 (singles_in m hm w)

/-- A power of two that simp does not lay open. -/
def pw (k : Nat) : Nat := 2 ^ k
theorem wrap_pw (k : Nat) (h : k ≤ 12) : IntKind.i64.wrap ((2 : Int) ^ k) = ((pw k : Nat) : Int) := wrap_pow k (by omega)
/-- The inverse of a set. -/
def invN (m : Nat) : Nat := (singF m).foldl (fun o r => o ||| 2 ^ (12 - r.val)) 0
def invTo (pre : List (Fin 13)) : Nat := pre.foldl (fun o r => o ||| 2 ^ (12 - r.val)) 0
theorem invTo_snoc (pre : List (Fin 13)) (x : Fin 13) : invTo (pre ++ [x]) = invTo pre ||| 2 ^ (12 - x.val) := by simp [invTo]
theorem pow_lt (k : Nat) (h : k ≤ 12) : 2 ^ k < 8192 := Nat.lt_of_le_of_lt (Nat.pow_le_pow_right (by omega) h) (by decide)
theorem invTo_lt (pre : List (Fin 13)) : invTo pre < 8192 := by
  suffices h : ∀ (l : List (Fin 13)) (o : Nat), o < 2 ^ 13 → l.foldl (fun o r => o ||| 2 ^ (12 - r.val)) o < 2 ^ 13 from h pre 0 (by decide)
  intro l
  induction l with
  | nil => intro o h; exact h
  | cons r l ih => intro o h; exact ih _ (Nat.or_lt_two_pow h (pow_lt _ (by omega)))

theorem inverse_none (s : Int) (w : World) (h : isSetB s = false) : Calls Try.prog 86 #[.int .i64 s] w fun e w' => e = .returned (.int .i64 (-1)) ∧ Below w.heap.size w w' := by
  go_enter Try.func86, Try.ntmps86
  go_wp2_with (go_at_call 78; refine (isSet_any _ _).mono ?_; rintro e w' ⟨rfl, rfl⟩)
  go_ret
  exact ⟨rfl, by go_grown⟩

set_option maxRecDepth 100000 in
set_option maxHeartbeats 4000000 in
theorem inverse_in (m : Nat) (hm : m < 8192) (w : World) : CallsIn Fence.wide 20 Try.prog 86 #[.int .i64 (m : Int)] w fun e w' => e = .returned (.int .i64 ((invN m : Nat) : Int)) ∧ Below w.heap.size w w' := by
  have hwf : ∀ f, Fence.wide.fn f := fun _ => trivial
  have his : isSetB (m : Int) = true := by simp [isSetB]; omega
  refine callsIn_of_wp_marks Try.func86 rfl trivial ?_ rfl
  simp only [Try.ntmps86, List.size_toArray, List.length_cons, List.length_nil, Nat.reduceAdd, Nat.reduceSub, Array.replicate_succ, Array.replicate_zero, List.push_toArray, List.append_toArray, List.nil_append, List.cons_append]
  gi_wp2_with (first | (gi_at_call 78; refine (callsIn_wide.2 (isSet_any _ _)).mono ?_; rintro e w' ⟨rfl, rfl⟩) | (gi_at_call 79; refine (callsIn_wide.2 (each_any _ _)).mono ?_; rintro e w' ⟨rfl, rfl⟩))
  have bO := (Boxed.new w 3 (.int .i64 0)).alloc (.cells #[.int .i64 (m : Int)] 3)
  have bS := Boxed.new (w.alloc (.cells #[.int .i64 0] 3)) 3 (.int .i64 (m : Int))
  simp only [World.size_alloc] at bS
  refine wp_each (by omega) (w.heap.size + 1) m hm bS rfl
    (fun pre W => Boxed W w.heap.size 3 (.int .i64 ((invTo pre : Nat) : Int)) ∧ Below w.heap.size w W)
    ?hI ⟨bO, by go_grown⟩
    (fun x => { tmps := #[.int .i64 (m : Int), undef, .int .i64 0, .pointer (some ⟨w.heap.size, 0, none⟩), .int .i64 (x.val : Int), .int .i64 (m : Int), .bool true, .bool false, .int .i64 (m : Int), .func (.func 96) #[] #[.pointer (some ⟨w.heap.size + 1, 0, none⟩)], .int .i64 (x.val : Int), undef, undef, undef, undef, undef, undef], defers := [] })
    ?assign ?body ?done
  case hI => exact OwnFrom.and (Own.from (boxed_own _ _ _) _) (ownFrom_below (Nat.le_refl _) (by simp; omega))
  case assign =>
    intro l x W K hK
    gi_wp2
    exact hK
  case body =>
    rintro l pre x W ⟨hv, hb⟩ hlen
    have hc := hv.cell
    have hf := hv.frozen
    have hx0 : (0 : Int) ≤ (x.val : Int) := by omega
    have hx1 : (x.val : Int) ≤ 12 := by have := x.isLt; omega
    have hw12 : IntKind.i64.wrap (12 - (x.val : Int)) = 12 - (x.val : Int) := IntWalk.i64_in _ (by omega)
    have hp := wrap_pw (12 - x.val) (by omega)
    have ho : bits .or .i64 ((invTo pre : Nat) : Int) ((pw (12 - x.val) : Nat) : Int) = ((invTo (pre ++ [x]) : Nat) : Int) := by
      rw [bits_or _ _ (by have := invTo_lt pre; omega) (by have := pow_lt (12 - x.val) (by omega); unfold pw; omega), invTo_snoc]; rfl
    gi_wp2
    have hst := stored2 (.int .i64 ((invTo (pre ++ [x]) : Nat) : Int)) hv (Nat.le_refl _)
    have HST := Lib.hid hst
    clear hst
    gi_region
    all_goals
      gi_wp2
      exact ⟨HST.out.1, fun u hu => HST.out.2.2.2 _ _ _ (by omega) hu, HST.out.2.1, hb.trans HST.out.2.2.1⟩
  case done =>
    rintro D W hD ⟨hv, hb⟩ hK
    have hc := hv.cell
    gi_wp2
    refine ⟨by simp, .inl ⟨_, _, rfl, run_takeDeferred hK, ?_⟩⟩
    exact ⟨_, results_tmp rfl _ _ _, rfl, hb.trans (belowK_b (w := w) (Nat.le_refl _) W D _ _ (by simp at hD; omega) hK rfl rfl)⟩
end Go.Proofs.Ytoadihclmnjjnaa.Al
