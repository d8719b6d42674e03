/-
  Singles, and whose the row is (layer 11).
-/
import Derived.Test.YtoadihclmnjjnaaAlS
set_option linter.unusedSimpArgs false
set_option linter.unusedVariables false
namespace Go.Proofs.Ytoadihclmnjjnaa.Al
open Go Go.RowKit Go.Shelf Go.Proofs.Ytoadihclmnjjnaa.Bt Go.Proofs.Ytoadihclmnjjnaa.Sl
attribute [local go_sem] Oper.semAt_some

theorem owns_base {w : World} {a b n size : Nat} {t : TypeId} {v : Value} {xs : List Value} (h : w.ownsRow a t size v n xs) (hb : b ≤ a) : w.ownsRow b t size v n xs := by
  refine ⟨h.1, ?_⟩
  rcases h.2 with h2 | ⟨g, cap, cur, h1, h2, h3⟩
  · exact .inl h2
  · exact .inr ⟨g, cap, cur, h1, Nat.le_trans hb h2, h3⟩
def OwnInts (L : List (Fin 13)) (w : World) (e : Ending) (w' : World) : Prop := ∃ v, e = .returned v ∧ w'.ownsRow w.heap.size 3 1 v L.length (L.map relV) ∧ Below w.heap.size w w'
set_option maxRecDepth 100000 in
set_option maxHeartbeats 4000000 in
theorem singles2_in (m : Nat) (hm : m < 8192) (w : World) : CallsIn Fence.wide 20 Try.prog 37 #[.int .i64 (m : Int)] w (OwnInts (singF m) w) := by
  obtain ⟨i0, hi, hz0, hz1, hz2⟩ := info_parts info_int
  have hwf : ∀ f, Fence.wide.fn f := fun _ => trivial
  have his : isSetB (m : Int) = true := by simp [isSetB]; omega
  refine callsIn_of_wp_marks Try.func37 rfl trivial ?_ rfl
  simp only [Try.ntmps37, List.size_toArray, List.length_cons, List.length_nil, Nat.reduceAdd, Nat.reduceSub, Array.replicate_succ, Array.replicate_zero, List.push_toArray, List.append_toArray, List.nil_append, List.cons_append]
  gi_wp2_with (first | (gi_at_call 78; refine (callsIn_wide.2 (isSet_any _ _)).mono ?_; rintro e w' ⟨rfl, rfl⟩) | (gi_at_call 79; refine (callsIn_wide.2 (each_any _ _)).mono ?_; rintro e w' ⟨rfl, rfl⟩))
  have bO := (Boxed.new w 25 (.slice none 0 0)).alloc (.cells #[.int .i64 (m : Int)] 3)
  have bS := Boxed.new (w.alloc (.cells #[.slice none 0 0] 25)) 3 (.int .i64 (m : Int))
  simp only [World.size_alloc] at bS
  refine wp_each (by omega) (w.heap.size + 1) m hm bS rfl
    (fun pre W => (∃ v, Boxed W w.heap.size 25 v ∧ W.ownsRow (w.heap.size + 2) 3 1 v pre.length (pre.map relV) ∧ True) ∧ Below w.heap.size w W ∧ w.heap.size + 2 ≤ W.heap.size)
    ?hI ⟨⟨_, bO, World.ownsRow_nil _ _ _ _, trivial⟩, by go_grown, by simp⟩
    (fun x => { tmps := #[.int .i64 (m : Int), undef, .slice none 0 0, .pointer (some ⟨w.heap.size, 0, none⟩), .int .i64 (x.val : Int), .int .i64 (m : Int), .bool true, .bool false, .int .i64 (m : Int), .func (.func 96) #[] #[.pointer (some ⟨w.heap.size + 1, 0, none⟩)], .int .i64 (x.val : Int), undef, undef, undef, undef, undef], defers := [] })
    ?assign ?body ?done
  case hI => exact OwnFrom.and (Own.from (holdsRow_own (w.heap.size + 2) w.heap.size 25 3 1 (fun (pre : List (Fin 13)) => pre.length) (fun pre => pre.map relV) (fun _ _ => True)) _) (OwnFrom.and (ownFrom_below (Nat.le_refl _) (by simp; omega)) (fun _ W W' row hs hg hr => Nat.le_trans hs hg.size))
  case assign =>
    intro l x W K hK
    gi_wp2
    exact hK
  case body =>
    rintro l pre x W ⟨⟨v, hv, hr, _⟩, hb, hs⟩ hlen
    have hc := hv.cell
    gi_wp2_with (gi_at_builtin; go_must (refine wpListIn_append_own _ rfl _ _ 25 rfl (w.heap.size + 2) 3 i0 (.int .i64 0) 1 8 Try.underlying25 hi hz0 hz1 hz2 rfl (by decide) _ _ _ rfl (hr.alloc _) ⟨W.heap.size, 0, none⟩ 1 1 [.int .i64 (x.val : Int)] rfl rfl (cell_one_new _ _ _) (by simp [Value.oneCell']) (by unfold maxLen; omega) (by omega) (by simp; omega) ?_); intro v' w1 hown' hgrow _; obtain ⟨g', cap', rfl⟩ := ownsRow_succ hown'; obtain ⟨hv1, hv2, hr2, hk2, hb2, hkb⟩ := appended2 hv (by omega) hr (Nat.le_refl _) hown' hgrow; have hc1 := hv1.cell; have hf1 := hv1.frozen)
    exact ⟨hk2, fun u hu => hkb _ _ _ (by omega) (by omega) hu, ⟨_, hv2, by rw [List.length_append, List.map_append]; exact hr2, trivial⟩, hb.trans hb2, Nat.le_trans hs hk2.size⟩
  case done =>
    rintro D W hD ⟨⟨v, hv, hr, _⟩, hb, hs⟩ hK
    have hc := hv.cell
    gi_wp2
    refine ⟨by simp, .inl ⟨_, _, rfl, run_takeDeferred hK, ?_⟩⟩
    exact ⟨_, results_tmp rfl _ _ _, v, rfl, owns_base (ownsRow_putObj hr _ hK rfl) (by omega), hb.trans (belowK_b (w := w) (Nat.le_refl _) W D _ _ (by simp at hD; omega) hK rfl rfl)⟩
theorem singles2_any (m : Nat) (hm : m < 8192) (w : World) : Calls Try.prog 37 #[.int .i64 (m : Int)] w (OwnInts (singF m) w) := callsIn_wide.1 (singles2_in m hm w)
end Go.Proofs.Ytoadihclmnjjnaa.Al
