/-
  The walk of the reference's Holds, and both Holds at any arguments (layer 33).
-/
import Derived.Test.YtgfppajbegcaeaaDoorVcJ
set_option linter.unusedSimpArgs false
set_option linter.unusedVariables false
namespace Go.Proofs.YtgfppajbegcaeaaDoor.Va
open Go.RowKit Go.ChangeShapes Go.WideShapes Go.Proofs.YtgfppajbegcaeaaDoor.Sl Go.Lib

set_option maxRecDepth 20000 in
theorem rholds_len (k : Int) (col oth : ByteArray) (v0 v1 : Int) (v2 : ByteArray) (s : Value) (a1 a2 : Option Addr) (n m c1 c2 : Nat) (w : World) (h : ¬ n = m) :
    Calls Tryd.prog 26 #[agC k col oth v0 v1 v2 s, .slice a1 n c1, .slice a2 m c2] w fun e w' => e = .returned (.tuple #[.bool false, .int .i64 1]) ∧ Below w.heap.size w w' := by
  have h1 : ¬ (n : Int) = (m : Int) := by omega
  have h2 : ((n : Int) == (m : Int)) = false := by simp; omega
  go_enter Tryd.func26, Tryd.ntmps26
  go_wp2
  go_ret2
  exact ⟨rfl, by go_grown⟩
set_option maxRecDepth 20000 in
theorem rholds_many (k : Int) (col oth : ByteArray) (v0 v1 : Int) (v2 : ByteArray) (s : Value) (a1 a2 : Option Addr) (n c1 c2 : Nat) (w : World) (h : (100 : Int) < (n : Int)) :
    Calls Tryd.prog 26 #[agC k col oth v0 v1 v2 s, .slice a1 n c1, .slice a2 n c2] w fun e w' => e = .returned (.tuple #[.bool false, .int .i64 1]) ∧ Below w.heap.size w w' := by
  go_enter Tryd.func26, Tryd.ntmps26
  go_wp2
  go_ret2
  exact ⟨rfl, by go_grown⟩
set_option maxRecDepth 20000 in
theorem rholds_bad (k : Int) (col oth : ByteArray) (v0 v1 : Int) (v2 : ByteArray) (s : Value) (a1 a2 : Option Addr) (n c1 c2 : Nat) (w : World) (h : (n : Int) ≤ 100)
    (HA : ∀ W, Below w.heap.size w W → Calls Tryd.prog 15 #[.slice a2 n c2] W fun e w' => e = .returned (.bool false) ∧ Below W.heap.size W w') :
    Calls Tryd.prog 26 #[agC k col oth v0 v1 v2 s, .slice a1 n c1, .slice a2 n c2] w fun e w' => e = .returned (.tuple #[.bool false, .int .i64 1]) ∧ Below w.heap.size w w' := by
  go_enter Tryd.func26, Tryd.ntmps26
  go_wp2_with (go_at_call 15; (with_reducible refine (HA _ (by go_grown)).mono ?_); rintro e w1 ⟨rfl, hb⟩; have hL : Below w.heap.size w w1 := bstep (by go_grown) hb; clear hb)
  go_ret2
  exact ⟨rfl, hL⟩
set_option maxRecDepth 20000 in
set_option maxHeartbeats 1000000 in
theorem rholds_go (c : CN) (k : Int) (col oth : ByteArray) (v0 v1 : Int) (v2 : ByteArray) (s : Value) (ns : List ByteArray) (vs : List V3) (a1 a2 : Option Addr) (n c1 c2 : Nat) (w : World) (hc : CnAt w [.int .i64 k, .string col, .string oth, .int .i64 v0, .int .i64 v1, .string v2, s] c)
    (hn : n = vs.length) (hn2 : ns.length = vs.length) (h100 : (n : Int) ≤ 100) (hv : allV vs = true) (hs1 : Ss w (.slice a1 n c1) ns) (hs2 : Vs w (.slice a2 n c2) vs) (hsc : szC c) (hsv : SzL vs) :
    Calls Tryd.prog 26 #[agC k col oth v0 v1 v2 s, .slice a1 n c1, .slice a2 n c2] w fun e w' => e = .returned (.tuple #[.bool (holdsC c ns vs).1, .int .i64 (holdsC c ns vs).2]) ∧ Below w.heap.size w w' := by
  have HA := fun (W : World) (h : Below w.heap.size w W) => rall_any vs (.slice a2 n c2) W (by omega) hsv (hs2.below h)
  rw [hv] at HA
  have HC := Lib.hid hc
  have HS1 := Lib.hid hs1
  have HS2 := Lib.hid hs2
  have HN := Lib.hid (show n = vs.length ∧ ns.length = vs.length from ⟨hn, hn2⟩)
  have HD : Hid (holdsC c ns vs = if chk c (colsOf ns vs) = 0 then (mng c (colsOf ns vs) vs, 0) else (false, chk c (colsOf ns vs))) := Lib.hid (by unfold holdsC; rw [if_neg (by rw [hv]; simp; omega)])
  clear hc hs1 hs2 hn hn2 hv
  generalize holdsC c ns vs = R at HD ⊢
  go_enter Tryd.func26, Tryd.ntmps26
  go_upto_region 3 with (go_at_call 15; (with_reducible refine (HA _ (by go_grown)).mono ?_); rintro e W0 ⟨rfl, hb⟩; obtain ⟨hL, p0, p1, p2, p3, p4, p5, p6⟩ := box7 hb; clear hb)
  clear HA
  have HL0 := Lib.hid hL
  clear hL
  go_wp2
  go_loopw [8, 9] (fun v i wr => ∃ j : Nat, j ≤ n ∧ i = .int .i64 j ∧ Cf W0 wr v (colsOf (ns.take j) (vs.take j))) (fun _ i _ => n - (intOf i).toNat)
  case atStart => exact ⟨0, Nat.zero_le _, rfl, World.ownsRow_nil _ _ _ _, Below.refl _ _⟩
  case round =>
    obtain ⟨j, hj, rfl, hB⟩ := hrel
    have hlen := colsOf_take_len ns vs j HN.out.2 (by rw [← HN.out.1]; exact hj)
    by_cases hlt : j < n
    · obtain ⟨a, ha⟩ : ∃ t, ns[j]? = some t := ⟨_, List.getElem?_eq_getElem (by rw [HN.out.2, ← HN.out.1]; exact hlt)⟩
      obtain ⟨⟨x0, x1, x2⟩, hx⟩ : ∃ t, vs[j]? = some t := ⟨_, List.getElem?_eq_getElem (by rw [← HN.out.1]; exact hlt)⟩
      obtain ⟨g1, o1, cp1, e1, hc1⟩ := HS1.out.open (by rw [HN.out.2, ← HN.out.1]; omega)
      simp only [Value.slice.injEq] at e1
      obtain ⟨rfl, _, rfl⟩ := e1
      obtain ⟨g2, o2, cp2, e2, hc2⟩ := HS2.out.open (by rw [← HN.out.1]; omega)
      simp only [Value.slice.injEq] at e2
      obtain ⟨rfl, _, rfl⟩ := e2
      have hLr := bstep HL0.out hB.2
      have q0w := ss_get hc1 ha
      have q1w := (vs_get hc2 hx).1
      have q0 := Go.Proofs.YtgfppajbegcaeaaDoor.Sl.cell_kept (ss_get hc1 ha) hLr
      have q1 := Go.Proofs.YtgfppajbegcaeaaDoor.Sl.cell_kept (vs_get hc2 hx).1 hLr
      have HT := Lib.hid (colsOf_take ns vs j a _ ha hx)
      have j0 : (0 : Int) ≤ (j : Int) := by omega
      have j1 : (j : Int) < (n : Int) := by omega
      clear hc1 hc2 ha hx hLr
      obtain ⟨va, vc, rfl⟩ := hB.cs.form
      have HG1 := Lib.hid (show g1 < wr.heap.size ∧ g2 < wr.heap.size from ⟨block_of_cell q0, block_of_cell q1⟩)
      have hgw : g1 < W0.heap.size ∧ g2 < W0.heap.size := ⟨Nat.lt_of_lt_of_le (block_of_cell q0w) HL0.out.size, Nat.lt_of_lt_of_le (block_of_cell q1w) HL0.out.size⟩
      have HNP := Lib.hid (show (Value.slice va (colsOf (ns.take j) (vs.take j)).length vc).ownBlock ≠ some g1 ∧ (Value.slice va (colsOf (ns.take j) (vs.take j)).length vc).ownBlock ≠ some g2 from ⟨fun e => by have := (hB.1.lt _ e).1; omega, fun e => by have := (hB.1.lt _ e).1; omega⟩)
      have HOW := Lib.hid hB.1
      have HB2 := Lib.hid hB.2
      have hwz := hB.2.size
      obtain ⟨i0, hi, hz0, hz1, hz2⟩ := info_parts infoC
      have HLEN := Lib.hid hlen
      rw [hlen] at HNP HOW
      rw [hlen]
      have jm : j ≤ 100 := by omega
      clear hgw hB hlen q0w q1w h100
      go_upto_region 7 with fail
      go_region_held_law (fun w' => w'.cell? ⟨g1, o1 + j, none⟩ = some (.string a) ∧ w'.cell? ⟨g2, o2 + j * 3, none⟩ = some (.int .i64 x0)) (first | go_keep | (go_split_ands; refine ⟨?_, ?_⟩ <;> (first | (rw [hgr.cell_far _ (by simp; have := HG1.out; omega) (Ne.symm HNP.out.1)]; assumption) | (rw [hgr.cell_far _ (by simp; have := HG1.out; omega) (Ne.symm HNP.out.2)]; assumption)))) ((refine step_append_lies _ (by rfl) _ _ _ (by rfl) W0.heap.size 80 i0 _ 2 24 Tryd.underlying48 hi hz0 hz1 hz2 rfl (by decide) (.slice va j vc) j (flatC (colsOf (ns.take j) (vs.take j))) (by rfl) ((HOW.out.alloc _).drew) ⟨wr.heap.size, 0, none⟩ 1 1 [.string a, .int .i64 x0] (by rfl) (by rfl) (World.news_of_block (cs := #[.string a, .int .i64 x0]) (t := 80) (fr := (0, 0)) (heap_alloc_new wr _)) (by simp [Value.oneCell']) (by omega) (by unfold maxLen; omega) (by omega) (by simp; omega) (wr.heap.size + 1) (by simp) ?_; intro gg1 cap1 w3 hown2 hgr hG hlt2))
      simp only [List.getElem_toArray, List.getElem_cons_succ, List.getElem_cons_zero, List.set_cons_zero, List.set_cons_succ, List.setIfInBounds_toArray]
      have hgr2 : wr.grownBy w3 (Value.slice va j vc).ownBlock := (gp_drew (gp_alloc (gp_refl wr _) _)).trans hgr
      have hL3 := grow_step HB2.out hgr2 (fun k hk => (HOW.out.lt k hk).1)
      have hB1 : Cf W0 w3 (.slice (some ⟨gg1, 0, none⟩) (j + 1) cap1) (colsOf (ns.take j) (vs.take j) ++ [(a, x0)]) := ⟨by
        rw [flatC_snoc, List.length_append, HLEN.out]
        exact hown2, hL3⟩
      clear hown2 hgr hG hgr2 hlt2
      go_wp2
      go_roundw
      case rel => exact ⟨j + 1, by omega, by go_num, by rw [HT.out]; exact hB1⟩
      case measure => simp [intOf]; omega
    · have e1 : ns.take j = ns := List.take_of_length_le (by rw [HN.out.2, ← HN.out.1]; omega)
      have e2 : vs.take j = vs := List.take_of_length_le (by rw [← HN.out.1]; omega)
      rw [e1, e2] at hB hlen
      have hLr := bstep HL0.out hB.2
      replace p0 := Go.Proofs.YtgfppajbegcaeaaDoor.Sl.cell_kept p0 hB.2
      replace p1 := Go.Proofs.YtgfppajbegcaeaaDoor.Sl.cell_kept p1 hB.2
      replace p2 := Go.Proofs.YtgfppajbegcaeaaDoor.Sl.cell_kept p2 hB.2
      replace p3 := Go.Proofs.YtgfppajbegcaeaaDoor.Sl.cell_kept p3 hB.2
      replace p4 := Go.Proofs.YtgfppajbegcaeaaDoor.Sl.cell_kept p4 hB.2
      replace p5 := Go.Proofs.YtgfppajbegcaeaaDoor.Sl.cell_kept p5 hB.2
      replace p6 := Go.Proofs.YtgfppajbegcaeaaDoor.Sl.cell_kept p6 hB.2
      have HQ := rcheck_any c _ (colsOf ns vs) (by rw [hlen]; omega) _ wr (CnAt.below hLr _ _ HC.out) hB.cs hsc
      by_cases hz : chk c (colsOf ns vs) = 0
      · have HW : wellF c = true := by
          cases hw : wellF c
          · unfold chk at hz; rw [hw] at hz; cases hz
          · rfl
        have HM := fun (W : World) (h : Below wr.heap.size wr W) => rmg_any (colsOf ns vs) vs (by rw [hlen]; omega) (by rw [hlen, ← HN.out.1]; omega) c _ 1 _ (.slice a2 n c2) W (CnAt.below h _ _ (CnAt.below hLr _ _ HC.out)) (wellF_good HW) (by unfold chk at hz; rw [HW] at hz; exact hz) (hB.cs.below h) ((HS2.out.below hLr).below h) hsc hsv
        have HR := HD.out
        rw [if_pos hz] at HR
        rw [hz] at HQ
        generalize mng c (colsOf ns vs) vs = mb at HM HR
        have HR2 := Lib.hid HR
        clear hz HR
        go_wp2_with (first | (go_at_call 28; with_reducible refine HQ.mono ?_; rintro e w2 ⟨rfl, hb2⟩; have r0 := Go.Proofs.YtgfppajbegcaeaaDoor.Sl.cell_kept p0 hb2; have r1 := Go.Proofs.YtgfppajbegcaeaaDoor.Sl.cell_kept p1 hb2; have r2 := Go.Proofs.YtgfppajbegcaeaaDoor.Sl.cell_kept p2 hb2; have r3 := Go.Proofs.YtgfppajbegcaeaaDoor.Sl.cell_kept p3 hb2; have r4 := Go.Proofs.YtgfppajbegcaeaaDoor.Sl.cell_kept p4 hb2; have r5 := Go.Proofs.YtgfppajbegcaeaaDoor.Sl.cell_kept p5 hb2; have r6 := Go.Proofs.YtgfppajbegcaeaaDoor.Sl.cell_kept p6 hb2) | (go_at_call 50; with_reducible refine (HM _ hb2).mono ?_; rintro e w3 ⟨rfl, hb3⟩))
        go_ret2
        exact ⟨by rw [HR2.out]; rfl, bstep (bstep hLr hb2) hb3⟩
      · have HR := HD.out
        rw [if_neg hz] at HR
        generalize chk c (colsOf ns vs) = z at HQ HR hz
        have HR2 := Lib.hid HR
        have hz2 : (z == 0) = false := by simpa using hz
        clear HR
        go_wp2_with (go_at_call 28; with_reducible refine HQ.mono ?_; rintro e w2 ⟨rfl, hb2⟩)
        go_ret2
        exact ⟨by rw [HR2.out]; rfl, bstep hLr hb2⟩

theorem holds_any (c : CN) (cs : List Value) (ns : List ByteArray) (vs : List V3) (s1 s2 : Value) (w : World) (hc : CnAt w cs c) (hs1 : Ss w s1 ns) (hs2 : Vs w s2 vs) :
    Calls Tryd.prog 25 #[.agg cs.toArray, s1, s2] w fun e w' => e = .returned (.tuple #[.bool (holdsC c ns vs).1, .int .i64 (holdsC c ns vs).2]) ∧ Below w.heap.size w w' := by
  obtain ⟨k, col, oth, v0, v1, v2, ad, n, cap, rfl⟩ := hc.shape
  obtain ⟨a1, c1, rfl⟩ := hs1.form
  obtain ⟨a2, c2, rfl⟩ := hs2.form
  show Calls Tryd.prog 25 #[agC k col oth v0 v1 v2 (.slice ad n cap), .slice a1 ns.length c1, .slice a2 vs.length c2] w _
  by_cases hl : ns.length = vs.length
  case neg =>
    rw [show holdsC c ns vs = (false, 1) by unfold holdsC; rw [if_pos (.inl hl)]]
    exact holds_len k col oth v0 v1 v2 _ a1 a2 _ _ c1 c2 w hl
  obtain ⟨n1, hn1⟩ : ∃ n1, n1 = ns.length := ⟨_, rfl⟩
  obtain ⟨n2, hn2⟩ : ∃ n2, n2 = vs.length := ⟨_, rfl⟩
  rw [← hn1] at hs1 ⊢
  rw [← hn2] at hs2 ⊢
  obtain rfl : n1 = n2 := by omega
  by_cases h1 : 100 < n1
  · rw [show holdsC c ns vs = (false, 1) by unfold holdsC; rw [if_pos (.inr (.inl (by omega)))]]
    exact holds_many k col oth v0 v1 v2 _ a1 a2 _ c1 c2 w (by omega)
  cases hv : allV vs
  · rw [show holdsC c ns vs = (false, 1) by unfold holdsC; rw [if_pos (.inr (.inr hv))]]
    have HA := fun (W : World) (h : Below w.heap.size w W) => all_any vs (.slice a2 n1 c2) W (by omega) (hs2.below h)
    rw [hv] at HA
    exact holds_bad k col oth v0 v1 v2 _ a1 a2 n1 c1 c2 w (by omega) HA
  · exact holds_go c k col oth v0 v1 v2 _ ns vs a1 a2 n1 c1 c2 w hc hn2 hl (by omega) hv (hn1 ▸ hs1) (hn2 ▸ hs2)
theorem rholds_any (c : CN) (cs : List Value) (ns : List ByteArray) (vs : List V3) (s1 s2 : Value) (w : World) (hc : CnAt w cs c) (hs1 : Ss w s1 ns) (hs2 : Vs w s2 vs) (hsc : szC c) (hsv : SzL vs) :
    Calls Tryd.prog 26 #[.agg cs.toArray, s1, s2] w fun e w' => e = .returned (.tuple #[.bool (holdsC c ns vs).1, .int .i64 (holdsC c ns vs).2]) ∧ Below w.heap.size w w' := by
  obtain ⟨k, col, oth, v0, v1, v2, ad, n, cap, rfl⟩ := hc.shape
  obtain ⟨a1, c1, rfl⟩ := hs1.form
  obtain ⟨a2, c2, rfl⟩ := hs2.form
  show Calls Tryd.prog 26 #[agC k col oth v0 v1 v2 (.slice ad n cap), .slice a1 ns.length c1, .slice a2 vs.length c2] w _
  by_cases hl : ns.length = vs.length
  case neg =>
    rw [show holdsC c ns vs = (false, 1) by unfold holdsC; rw [if_pos (.inl hl)]]
    exact rholds_len k col oth v0 v1 v2 _ a1 a2 _ _ c1 c2 w hl
  obtain ⟨n1, hn1⟩ : ∃ n1, n1 = ns.length := ⟨_, rfl⟩
  obtain ⟨n2, hn2⟩ : ∃ n2, n2 = vs.length := ⟨_, rfl⟩
  rw [← hn1] at hs1 ⊢
  rw [← hn2] at hs2 ⊢
  obtain rfl : n1 = n2 := by omega
  by_cases h1 : 100 < n1
  · rw [show holdsC c ns vs = (false, 1) by unfold holdsC; rw [if_pos (.inr (.inl (by omega)))]]
    exact rholds_many k col oth v0 v1 v2 _ a1 a2 _ c1 c2 w (by omega)
  cases hv : allV vs
  · rw [show holdsC c ns vs = (false, 1) by unfold holdsC; rw [if_pos (.inr (.inr hv))]]
    have HA := fun (W : World) (h : Below w.heap.size w W) => rall_any vs (.slice a2 n1 c2) W (by omega) hsv (hs2.below h)
    rw [hv] at HA
    exact rholds_bad k col oth v0 v1 v2 _ a1 a2 n1 c1 c2 w (by omega) HA
  · exact rholds_go c k col oth v0 v1 v2 _ ns vs a1 a2 n1 c1 c2 w hc hn2 hl (by omega) hv (hn1 ▸ hs1) (hn2 ▸ hs2) hsc hsv
end Go.Proofs.YtgfppajbegcaeaaDoor.Va
