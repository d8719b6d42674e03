/-
  The walks of allen's Text and Parse (layer 11's texts).
-/
import Derived.Test.YtknnpgaabejjlaaDoorAtP
import Derived.Test.YtknnpgaabejjlaaDoorRnd
import Derived.Test.YtknnpgaabejjlaaDoorShelf
set_option linter.unusedSimpArgs false
set_option linter.unusedVariables false
namespace Go.Proofs.YtknnpgaabejjlaaDoor.Al
open Go Go.RowKit Go.Shelf Go.Proofs.YtknnpgaabejjlaaDoor.Bt Go.Proofs.YtknnpgaabejjlaaDoor.Sl Go.Proofs.YtknnpgaabejjlaaDoor.Tp
open Go.Proofs.YtknnpgaabejjlaaDoor.Iv (nms name_in)
open Go.Proofs.YtknnpgaabejjlaaDoor.Lst Go.Sort
attribute [local go_sem] Oper.semAt_some

def strV (x : Fin 13) : Value := .string (nmF x)
theorem info_str : (Tryd.prog.info? 9).map (fun i => (i.zero, i.size, i.bytes)) = some (some (.string ⟨#[]⟩), 1, 16) := by kernel_rfl

theorem boxed_below {W w1 : World} {B : Nat} {t : TypeId} {v : Value} (h : Boxed W B t v) (hb : RowKit.Below W.heap.size W w1) : Boxed w1 B t v := (hb.block B h.lt).trans h
theorem keeps_below {W w1 : World} (hb : RowKit.Below W.heap.size W w1) : KeepsOthers W w1 := ⟨hb.size, fun k o hk _ => (hb.block k (Array.getElem?_eq_some_iff.1 hk).1).trans hk⟩
theorem own_below {B : Nat} {w w' : World} {e : TypeId} {size : Nat} {v : Value} {n : Nat} {xs : List Value} (h : w.ownsRow B e size v n xs) (hb : RowKit.Below w.heap.size w w') : w'.ownsRow B e size v n xs := by
  obtain ⟨h1, h2⟩ := h
  refine ⟨h1, ?_⟩
  rcases h2 with ⟨rfl, rfl⟩ | ⟨g, cap, cur, rfl, hg, hh, h3⟩
  · exact .inl ⟨rfl, rfl⟩
  · refine .inr ⟨g, cap, cur, rfl, hg, ?_, h3⟩
    rw [hb.block g (Array.getElem?_eq_some_iff.1 hh).1]; exact hh
theorem text_none (s : Int) (w : World) (h : isSetB s = false) : Calls Tryd.prog 8 #[.int .i64 s] w fun e w' => e = .returned (.string ⟨#[]⟩) ∧ Below w.heap.size w w' := by
  go_enter Tryd.func8, Tryd.ntmps8
  go_wp2_with (go_at_call 20; refine (isSet_any _ _).mono ?_; rintro e w' ⟨rfl, rfl⟩)
  go_ret
  exact ⟨rfl, by go_grown⟩
theorem text_zero (w : World) : Calls Tryd.prog 8 #[.int .i64 0] w fun e w' => e = .returned (.string noneT) ∧ Below w.heap.size w w' := by
  have h : isSetB 0 = true := rfl
  go_enter Tryd.func8, Tryd.ntmps8
  go_wp2_with (go_at_call 20; refine (isSet_any _ _).mono ?_; rintro e w' ⟨rfl, rfl⟩)
  go_ret
  exact ⟨rfl, by go_grown⟩
theorem text_full (w : World) : Calls Tryd.prog 8 #[.int .i64 8191] w fun e w' => e = .returned (.string anyT) ∧ Below w.heap.size w w' := by
  have h : isSetB 8191 = true := rfl
  go_enter Tryd.func8, Tryd.ntmps8
  go_wp2_with (go_at_call 20; refine (isSet_any _ _).mono ?_; rintro e w' ⟨rfl, rfl⟩)
  go_ret
  exact ⟨rfl, by go_grown⟩
/-- strings.Join over the names of relations. -/
theorem joinL_any (L : List (Fin 13)) (v : Value) (w : World) (hl : L.length ≤ 13) {B : Nat} (hown : w.ownsRow B 9 1 v L.length (L.map strV)) :
    Calls Tryd.prog 22 #[v, .string ⟨#[124]⟩] w fun e w' => e = .returned (.string (joinT L)) ∧ Below w.heap.size w w' := by
  have h : Sl w v L.length 1 (L.map strV) := Sl.of_owns hown
  by_cases h0 : L.length = 0
  · have e0 : L = [] := List.length_eq_zero_iff.1 h0
    subst e0
    obtain ⟨ad, cap, rfl⟩ := h.form
    exact (Tryd.strings_Join_none ad cap _ w).mono fun e w' ⟨he, hw⟩ => ⟨he, hw ▸ Below.refl _ _⟩
  · obtain ⟨g, off, cap, rfl, hc⟩ := h.open h0
    have hcell : ∀ (j : Nat) x, (L.map nmF)[j]? = some x → w.cell? ⟨g, off + j, none⟩ = some (.string x) := by
      intro j x hx
      refine hc j _ ?_
      rw [List.getElem?_map] at hx ⊢
      cases hj : L[j]? with
      | none => rw [hj] at hx; cases hx
      | some r => rw [hj] at hx; cases hx; rfl
    have hm : (L.map nmF).map (·.data.toList) = L.map fun r => (nmF r).data.toList := by rw [List.map_map]; rfl
    have hj : Lib.join ((L.map nmF).map (·.data.toList)) [124] = joinN (L.map fun r => (nmF r).data.toList) := by rw [hm, joinN_lib]
    have hlen := joinN_len L
    have hcap : L.length ≤ cap := by
      rcases hown.2 with ⟨hv, hn⟩ | ⟨g', cap', cur, hv, _, _, hn, _⟩
      · exact absurd (by cases hv) h0
      · cases hv
        exact hn
    have := Tryd.strings_Join g off cap (L.map nmF) ⟨#[124]⟩ w hcell (block_of_cell (hc 0 _ (by rw [List.getElem?_map, List.getElem?_eq_getElem (by omega)]; rfl))) (by rw [List.length_map]; omega) (by rw [List.length_map]; omega) (by show (Lib.join _ [124]).length ≤ _; rw [hj]; omega)
    rw [List.length_map] at this
    refine this.mono fun e w' ⟨he, hb⟩ => ⟨?_, hb⟩
    rw [he]
    show Ending.returned (.string ⟨(Lib.join _ [124]).toArray⟩) = _
    rw [hj]; rfl

set_option maxRecDepth 100000 in
set_option maxHeartbeats 4000000 in
theorem text_in (m : Nat) (hm : m < 8192) (h0 : ((m : Int) == 0) = false) (h1 : ((m : Int) == 8191) = false) (w : World) : CallsIn Fence.wide 20 Tryd.prog 8 #[.int .i64 (m : Int)] w fun e w' => e = .returned (.string (joinT (singF m))) ∧ Below w.heap.size w w' := by
  obtain ⟨i0, hi, hz0, hz1, hz2⟩ := info_parts info_str
  have hwf : ∀ f, Fence.wide.fn f := fun _ => trivial
  have his : isSetB (m : Int) = true := by simp [isSetB]; omega
  refine callsIn_of_wp_marks Tryd.func8 rfl trivial ?_ rfl
  simp only [Tryd.ntmps8, List.size_toArray, List.length_cons, List.length_nil, Nat.reduceAdd, Nat.reduceSub, Array.replicate_succ, Array.replicate_zero, List.push_toArray, List.append_toArray, List.nil_append, List.cons_append]
  gi_wp2_with (first | (gi_at_call 20; refine (callsIn_wide.2 (isSet_any _ _)).mono ?_; rintro e w' ⟨rfl, rfl⟩) | (gi_at_call 21; refine (callsIn_wide.2 (each_any _ _)).mono ?_; rintro e w' ⟨rfl, rfl⟩))
  have bO := (Boxed.new w 36 (.slice none 0 0)).alloc (.cells #[.int .i64 (m : Int)] 3)
  have bS := Boxed.new (w.alloc (.cells #[.slice none 0 0] 36)) 3 (.int .i64 (m : Int))
  simp only [World.size_alloc] at bS
  refine wp_each (by omega) (w.heap.size + 1) m hm bS rfl
    (fun pre W => (∃ v, Boxed W w.heap.size 36 v ∧ W.ownsRow (w.heap.size + 2) 9 1 v pre.length (pre.map strV) ∧ True) ∧ Below w.heap.size w W ∧ w.heap.size + 2 ≤ W.heap.size)
    ?hI ⟨⟨_, bO, World.ownsRow_nil _ _ _ _, trivial⟩, by go_grown, by simp⟩
    (fun x => { tmps := #[.int .i64 (m : Int), undef, .string ⟨#[]⟩, .pointer (some ⟨w.heap.size, 0, none⟩), .int .i64 (x.val : Int), .bool false, .int .i64 (m : Int), .bool true, .bool false, .bool false, .int .i64 (m : Int), .bool false, .bool false, .int .i64 (m : Int), .bool false, .int .i64 (m : Int), .func (.func 28) #[] #[.pointer (some ⟨w.heap.size + 1, 0, none⟩)], .int .i64 (x.val : Int), undef, undef, undef, undef, undef, undef, undef], defers := [] })
    ?assign ?body ?done
  case hI => exact OwnFrom.and (Own.from (holdsRow_own (w.heap.size + 2) w.heap.size 36 9 1 (fun (pre : List (Fin 13)) => pre.length) (fun pre => pre.map strV) (fun _ _ => True)) _) (OwnFrom.and (ownFrom_below (Nat.le_refl _) (by simp; omega)) (fun _ W W' row hs hg hr => Nat.le_trans hs hg.size))
  case assign =>
    intro l x W K hK
    gi_wp2
    exact hK
  case body =>
    rintro l pre x W ⟨⟨v, hv, hr, _⟩, hb, hs⟩ hlen
    have hc := hv.cell
    gi_wp2
    refine wpIn_region_round (by kernel_rfl) (by kernel_rfl) ?_
    have hS : ({ W with drawn := W.drawn + 1 } : World).cell? ⟨w.heap.size, 0, none⟩ = some v := hc
    refine wpAny_held_last (fun V => V.cell? ⟨w.heap.size, 0, none⟩ = some v) _ (List.take_append_drop 5 _).symm (by kernel_rfl) ?_
    simp only [List.take_succ_cons, List.take_zero]
    refine wpAnyH_take (i := 0) (v := ?tkv0) rfl (by kernel_rfl) (by kernel_rfl) (by kernel_rfl) (fun _ _ _ h => (by cases h.1)) (Or.inl ⟨by rfl, ?tky0⟩) hS ?tkr0
    case tky0 => intro V hV; go_simp; with_reducible rfl
    try simp only [Act.put, List.setIfInBounds_toArray, List.set_cons_zero, List.set_cons_succ]
    refine wpAnyH_ready (rs := [1]) (by kernel_rfl) (by simp) ?_
    refine AllReadyH.cons rfl (fun K hK => ?_) AllReadyH.nil
    go_simp
    refine hK.out _ _ hS (fun _ => ?_)
    clear hK K

    try simp only [Act.put, List.setIfInBounds_toArray, List.set_cons_zero, List.set_cons_succ]
    refine wpAnyH_ready (rs := [2]) (by kernel_rfl) (by simp) ?_
    refine AllReadyH.cons rfl (fun K hK => ?_) AllReadyH.nil

    go_simp
    refine (name_in x.val x.isLt _).mono ?_
    rintro e w1 ⟨rfl, hbN⟩
    have hb0 : RowKit.Below W.heap.size W w1 := ⟨hbN.os, hbN.tape, hbN.output, hbN.size, hbN.block⟩
    have hv0 := boxed_below hv hb0
    have hr0 := own_below hr hb0
    refine hK.out _ _ hv0.cell (fun _ => ?_)
    clear hK K
    try simp only [Act.put, List.setIfInBounds_toArray, List.set_cons_zero, List.set_cons_succ]
    refine wpAnyH_ready (rs := [3]) (by kernel_rfl) (by simp) ?_
    refine AllReadyH.cons rfl (fun K hK => ?_) AllReadyH.nil
    go_simp
    refine hK.out _ _ (hv0.alloc _).cell (fun _ => ?_)
    clear hK K
    try simp only [Act.put, List.setIfInBounds_toArray, List.set_cons_zero, List.set_cons_succ]
    refine wpAnyH_ready (rs := [4]) (by kernel_rfl) (by simp) ?_
    refine AllReadyH.cons rfl (fun K hK => ?_) AllReadyH.nil
    have hsz := hb0.size
    refine step_append_lies _ rfl _ _ 36 rfl (w.heap.size + 2) 9 i0 (.string ⟨#[]⟩) 1 16 Tryd.underlying36 hi hz0 hz1 hz2 rfl (by decide) _ _ _ rfl (hr0.alloc _) ⟨w1.heap.size, 0, none⟩ 1 1 [.string (nms.getD x.val ⟨#[]⟩)] rfl rfl (cell_one_new _ _ _) (by simp [Value.oneCell']) (by decide) (by unfold maxLen; omega) (by omega) (by simp; omega) _ rfl ?_
    intro g cap w2 hown' hgrow _ _
    obtain ⟨hv1, hv2, hr2, hk2, hb2, hkb⟩ := appended2 hv0 (by omega) hr0 (Nat.le_refl _) hown' hgrow
    have hc1 := hv1.cell
    have hf1 := hv1.frozen
    refine hK.out _ _ hc1 (fun _ => ?_)
    clear hK K
    try simp only [Act.put, List.setIfInBounds_toArray, List.set_cons_zero, List.set_cons_succ]
    refine wpAnyH_done (by kernel_rfl) ?_ _
    refine thenLast_of (by rfl) ?_
    go_simp
    refine ⟨rfl, ?_⟩
    exact ⟨(keeps_below hb0).trans hk2, fun u hu => hkb _ _ _ (by omega) (by omega) (boxed_below hu hb0), ⟨_, hv2, by rw [List.length_append, List.map_append]; exact hr2, trivial⟩, (hb.trans (hb0.mono hb.size)).trans hb2, Nat.le_trans hs (Nat.le_trans hsz hk2.size)⟩
  case done =>
    rintro D W hD ⟨⟨v, hv, hr, _⟩, hb, hs⟩ hK
    have hc := hv.cell
    gi_wp2_with (gi_at_call 22; refine (callsIn_wide.2 (joinL_any (singF m) v _ (singF_len m) hr)).mono ?_; rintro e w' ⟨rfl, hj⟩)
    refine ⟨by simp, .inl ⟨_, _, rfl, run_takeDeferred ((hj.block D (Array.getElem?_eq_some_iff.1 hK).1).trans hK), ?_⟩⟩
    exact ⟨_, results_tmp rfl _ _ _, rfl, (hb.trans (hj.mono hb.size)).trans (belowK_b (w := w) (Nat.le_refl _) w' D _ _ (by simp at hD; omega) ((hj.block D (Array.getElem?_eq_some_iff.1 hK).1).trans hK) rfl rfl)⟩
theorem text_any (s : Int) (w : World) : Calls Tryd.prog 8 #[.int .i64 s] w fun e w' => e = .returned (.string (txtS s)) ∧ Below w.heap.size w w' := by
  unfold txtS
  cases h : isSetB s
  · exact text_none s w h
  rw [if_neg (by simp)]
  by_cases h0 : s = 0
  · subst h0; exact text_zero w
  rw [if_neg h0]
  by_cases h1 : s = 8191
  · subst h1; exact text_full w
  rw [if_neg h1]
  obtain ⟨m, rfl⟩ : ∃ m : Nat, s = m := ⟨s.toNat, by simp [isSetB] at h; omega⟩
  exact callsIn_wide.1 (text_in m (by simp [isSetB] at h; omega) (by simpa using h0) (by simpa using h1) w)
end Go.Proofs.YtknnpgaabejjlaaDoor.Al
