/-
  The walk of the law NetworkMinimal (layer 46).
-/
import Derived.Test.YtoadihclmnjjnaaNxH
import Derived.Test.YtoadihclmnjjnaaCut
set_option linter.unusedSimpArgs false
set_option linter.unusedVariables false
set_option maxRecDepth 100000
namespace Go.Proofs.Ytoadihclmnjjnaa.Nw
open Go Go.RowKit Go.ChangeShapes Go.WideShapes Go.Proofs.Ytoadihclmnjjnaa.Sl Go.Proofs.Ytoadihclmnjjnaa.Al Go.Lib

/-- What Minimal returns, in one form. -/
theorem MiE.flat {n : Nat} {l : List Rl} {w w' : World} {e : Ending} (h : MiE n l w e w') : ∃ (a : Option Addr) (m c : Nat) (x : Int), e = .returned (.tuple #[.slice a m c, .int .i64 x]) ∧ Below w.heap.size w w' ∧
    ((SatL n l ∧ a = none ∧ m = 0 ∧ x = 6) ∨ (x = 0 ∧ ∃ K, m = K.length ∧ Is w' (.slice a m c) K ∧ MnI n l l.length K)) := by
  obtain ⟨hb, ⟨h1, he⟩ | ⟨v, K, he, hI, hM⟩⟩ := h
  · exact ⟨none, 0, 0, 6, he, hb, Or.inl ⟨h1, rfl, rfl, rfl⟩⟩
  · obtain ⟨ad, cap, rfl⟩ := hI.form
    exact ⟨ad, _, cap, 0, he, hb, Or.inr ⟨rfl, K, rfl, hI, hM⟩⟩
theorem sat_nil (n : Nat) : SatL n [] := by
  refine ⟨fun _ _ => 64, ⟨fun i j _ _ => ⟨6, by omega, rfl⟩, fun i j k _ _ _ => ?_, fun i j _ _ => ?_⟩, fun r h => by cases h⟩
  · have : cmp 64 64 = 64 := by kernel_rfl
    show Sub 64 (cmp 64 64)
    rw [this]; exact Sub.refl _
  · exact (show (64 : Nat) = invN 64 by kernel_rfl)
theorem box_new {w W : World} {v : Value} {t : TypeId} (h : w.alloc (.cells #[v] t) = W) : Below w.heap.size w W ∧ W.cell? ⟨w.heap.size, 0, none⟩ = some v := by
  subst h
  refine ⟨(Below.refl _ _).alloc (Nat.le_refl _) _, ?_⟩
  rw [cell_of_row _ _ 0 _ _ _ (heap_alloc_new w _)]; rfl
theorem inc_len2 : ∀ (K : List Nat) (b N : Nat), K.Pairwise (· < ·) → (∀ x ∈ K, b ≤ x ∧ x < N) → K = [] ∨ K.length + b ≤ N
  | [], _, _, _, _ => Or.inl rfl
  | x :: t, b, N, h, hb => by
    obtain ⟨h1, h2⟩ := List.pairwise_cons.1 h
    have hx := hb x (by simp)
    rcases inc_len2 t (x + 1) N h2 (fun y hy => ⟨h1 y hy, (hb y (by simp [hy])).2⟩) with rfl | h3
    · right; simp; omega
    · right; simp; omega
theorem inc_get {K : List Nat} (h : K.Pairwise (· < ·)) {i j x y : Nat} (hi : K[i]? = some x) (hj : K[j]? = some y) (hij : i < j) : x < y := by
  obtain ⟨hi1, rfl⟩ := List.getElem?_eq_some_iff.1 hi
  obtain ⟨hj1, rfl⟩ := List.getElem?_eq_some_iff.1 hj
  exact List.pairwise_iff_getElem.1 h i j hi1 hj1 hij
theorem need_at {n : Nat} {l : List Rl} {K : List Nat} (h : MnI n l l.length K) {i : Nat} (hi : i < K.length) : SatL n (selL l (pkL K (i : Int) K.length)) := by
  have hget : K[i]? = some K[i] := List.getElem?_eq_getElem hi
  refine (h.need K[i] (List.getElem_mem hi) (h.lt _ (List.getElem_mem hi))).mono (selL_mono fun x hx => ?_)
  obtain ⟨j, h1, h2, h3⟩ := (pkL_mem K (i : Int) x K.length (Nat.le_refl _)).1 hx
  refine wo_mem.2 ⟨List.mem_of_getElem? h3, fun e => ?_⟩
  rcases Nat.lt_trichotomy i j with h4 | h4 | h4
  · have := inc_get h.inc hget h3 h4; omega
  · omega
  · have := inc_get h.inc h3 hget h4; omega
theorem none_all {n : Nat} {l : List Rl} {K : List Nat} (h : MnI n l l.length K) : ¬ SatL n (selL l (pkL K (-1) K.length)) := fun hs => h.no (hs.mono (selL_mono fun x hx => by
  obtain ⟨j, hj⟩ := List.mem_iff_getElem?.1 hx
  exact (pkL_mem K (-1) x K.length (Nat.le_refl _)).2 ⟨j, (List.getElem?_eq_some_iff.1 hj).1, by omega, hj⟩))
theorem rcon_any (n : Nat) (l : List Rl) (v : Value) (w : World) (hn : 0 < n) (hn8 : n ≤ 8) (hs : Rs w v l) (hl : l.length ≤ 1000000) (hok : ∀ r ∈ l, OkR n r) : Calls Try.prog 16 #[.int .i64 (n : Int), v] w (RnE (SatL n l) w) := by
  obtain ⟨ad, c, rfl⟩ := hs.form
  exact rconsistent_any n l ad _ c w hn hn8 rfl hs hl hok
set_option maxHeartbeats 8000000 in
theorem networkMinimal_walk (n : Int) (v : Value) (l : List Rl) (w : World) (hn : (Lit.int .i64 n).wf = true) (hs : Rs w v l) (hg : ∀ r ∈ l, FitR r) : Calls Try.prog 3 #[.int .i64 n, v] w fun e w' => e = .returned (.bool true) ∧ Below w.heap.size w w' := by
  obtain ⟨ad, c, rfl⟩ := hs.form
  obtain ⟨q, hq⟩ : ∃ q, q = l.length := ⟨_, rfl⟩
  have HQ := Lib.hid hq
  rw [← hq] at hs ⊢
  clear hq
  have HG := fun W => great_any n ad q c W
  have HRV := fun W (h : Below w.heap.size w W) => rvalid_any n l _ W (hs.below h)
  go_enter Try.func3, Try.ntmps3
  go_upto_region 1 with fail
  obtain ⟨W0, hW0⟩ : ∃ W0, w.alloc (.cells #[.slice ad q c] 22) = W0 := ⟨_, rfl⟩
  obtain ⟨hL, cL⟩ := box_new hW0
  rw [hW0]
  clear hW0
  cases hgl : grN n q
  · rw [hgl] at HG
    cases hv : vldN n l
    · rw [hv] at HRV
      have HC := fun W (h : Below w.heap.size w W) => minimal_bad n l _ W (hs.below h) hv
      clear hs hgl hg hv
      go_upto_region 6 with (first | (go_at_call 12; (with_reducible refine (awake_any _).mono ?_); rintro e w1 ⟨rfl, hb⟩; replace cL := Go.Proofs.Ytoadihclmnjjnaa.Sl.cell_kept cL hb; replace hL := bstep hL hb; clear hb) | (go_at_call 13; (with_reducible refine (HG _).mono ?_); rintro e w2 ⟨rfl, rfl⟩) | (go_at_call 14; (with_reducible refine (HC _ (by assumption)).mono ?_); rintro e w4 ⟨rfl, hb⟩; replace cL := Go.Proofs.Ytoadihclmnjjnaa.Sl.cell_kept cL hb; replace hL := bstep hL hb; clear hb))
      obtain ⟨W5, hW5⟩ : ∃ W5, w4.alloc (.cells #[.slice none 0 0] 25) = W5 := ⟨_, rfl⟩
      obtain ⟨hK, cK⟩ := box_new hW5
      rw [hW5]
      clear hW5
      have cL5 := Go.Proofs.Ytoadihclmnjjnaa.Sl.cell_kept cL hK
      have hL5 := bstep hL hK
      clear cL hL
      clear hK
      generalize w4.heap.size = BK at *
      go_wp2_with (go_at_call 15; (with_reducible refine (HRV _ hL5).mono ?_); rintro e w3 ⟨rfl, rfl⟩)
      go_ret
      exact ⟨rfl, hL5⟩
    · rw [hv] at HRV
      obtain ⟨k, rfl, k0, k8, l200, hok⟩ := vld_ok hv
      have HC := fun W (h : Below w.heap.size w W) => minimal_ok k l _ W (hs.below h) hv
      have HCN := fun W (h : Below w.heap.size w W) => rconsistent_any k l ad q c W k0 k8 HQ.out (hs.below h) (by have := HQ.out; omega) hok
      have HS := Lib.hid hs
      have HOK := Lib.hid hok
      clear hs hgl hg hv hok
      go_upto_region 6 with (first | (go_at_call 12; (with_reducible refine (awake_any _).mono ?_); rintro e w1 ⟨rfl, hb⟩; replace cL := Go.Proofs.Ytoadihclmnjjnaa.Sl.cell_kept cL hb; replace hL := bstep hL hb; clear hb) | (go_at_call 13; (with_reducible refine (HG _).mono ?_); rintro e w2 ⟨rfl, rfl⟩) | (go_at_call 14; (with_reducible refine (HC _ (by assumption)).mono ?_); intro e w4 hmi; obtain ⟨ka, km, kc, kx, rfl, hb, hcs⟩ := hmi.flat; clear hmi; have HCS := Lib.hid hcs; clear hcs; replace cL := Go.Proofs.Ytoadihclmnjjnaa.Sl.cell_kept cL hb; replace hL := bstep hL hb; clear hb))
      obtain ⟨W5, hW5⟩ : ∃ W5, w4.alloc (.cells #[.slice ka km kc] 25) = W5 := ⟨_, rfl⟩
      obtain ⟨hK, cK⟩ := box_new hW5
      rw [hW5]
      clear hW5
      have cL5 := Go.Proofs.Ytoadihclmnjjnaa.Sl.cell_kept cL hK
      have hL5 := bstep hL hK
      clear cL hL
      rcases HCS.out with ⟨hsat, rfl, rfl, rfl⟩ | ⟨rfl, K, hkm, hI, hM⟩
      · have HSAT := Lib.hid hsat
        clear hK hsat HCS HC
        generalize w4.heap.size = BK at *
        go_wp2_with (first | (go_at_call 15; (with_reducible refine (HRV _ hL5).mono ?_); rintro e w3 ⟨rfl, rfl⟩) | (go_at_call 16; (with_reducible refine (HCN _ hL5).mono ?_); rintro e w8 ⟨b, rfl, hbi, hb8⟩; obtain rfl : b = true := hbi.2 HSAT.out; clear hbi; replace cK := Go.Proofs.Ytoadihclmnjjnaa.Sl.cell_kept cK hb8; replace cL5 := Go.Proofs.Ytoadihclmnjjnaa.Sl.cell_kept cL5 hb8; replace hL5 := bstep hL5 hb8; clear hb8))
        go_ret
        exact ⟨rfl, hL5⟩
      · have hno : ¬ SatL k l := fun h => hM.no (h.mono fun r hr => by
          obtain ⟨x, hx, rfl⟩ := List.mem_map.1 hr
          have hxl := hM.lt x hx
          rw [List.getD_eq_getElem?_getD, List.getElem?_eq_getElem hxl]
          exact List.getElem_mem hxl)
        have HNO := Lib.hid hno
        have HK := Lib.hid hkm
        have HI := Lib.hid (hI.below hK)
        have HM := Lib.hid hM
        clear hK hno hkm hI hM HCS HC
        generalize w4.heap.size = BK at *
        go_upto_region 10 with (first | (go_at_call 15; (with_reducible refine (HRV _ hL5).mono ?_); rintro e w3 ⟨rfl, rfl⟩) | (go_at_call 16; (with_reducible refine (HCN _ hL5).mono ?_); rintro e w8 ⟨b, rfl, hbi, hb8⟩; obtain rfl : b = false := Bool.eq_false_iff.2 (fun h => HNO.out (hbi.1 h)); clear hbi; replace cK := Go.Proofs.Ytoadihclmnjjnaa.Sl.cell_kept cK hb8; replace cL5 := Go.Proofs.Ytoadihclmnjjnaa.Sl.cell_kept cL5 hb8; replace hL5 := bstep hL5 hb8; have HI8 := Lib.hid (HI.out.below hb8); clear hb8))
        have hK0 : 0 < K.length := by
          rcases Nat.eq_zero_or_pos K.length with h | h
          · obtain rfl := List.length_eq_zero_iff.1 h
            exact (HM.out.no (sat_nil k)).elim
          · exact h
        have hK2 : K.length ≤ 200 := by
          rcases inc_len2 K 0 l.length HM.out.inc (fun x hx => ⟨Nat.zero_le _, HM.out.lt x hx⟩) with h | h
          · rw [h]; simp
          · omega
        obtain ⟨g, off, cp, e1, hcl⟩ := HI8.out.open (by omega)
        rw [← HK.out] at e1
        cases e1
        have hkm := HK.out
        obtain ⟨x0, hx0⟩ : ∃ t, K[0]? = some t := ⟨_, List.getElem?_eq_getElem hK0⟩
        obtain ⟨x1, hx1⟩ : ∃ t, K[km - 1]? = some t := ⟨_, List.getElem?_eq_getElem (by omega)⟩
        have y0 := is_get hcl hx0
        have y1 := is_get hcl hx1
        rw [Nat.add_zero] at y0
        have km0 : (0 : Int) < (km : Int) := by omega
        have km2 : (km : Int) ≤ 200 := by omega
        have gm : ((km : Int) == 0) = false := by simp; omega
        have gx0 : decide ((x0 : Int) < 0) = false := by simp
        have hw1 : IntKind.i64.wrap ((km : Int) - 1) = ((km - 1 : Nat) : Int) := by rw [IntKind.wrap_i64]; omega
        have km1 : ((km - 1 : Nat) : Int) < (km : Int) := by omega
        have km3 : (0 : Int) ≤ ((km - 1 : Nat) : Int) := by omega
        have gx1 : decide ((q : Int) ≤ (x1 : Int)) = false := by
          have := HM.out.lt x1 (List.mem_of_getElem? hx1)
          have := HQ.out
          simp; omega
        have gx2 : decide (q ≤ x1) = false := by simpa using gx1
        have gx3 : ¬ q ≤ x1 := by simpa using gx1
        have z0 := cell_regrown y0
        have z1 := cell_regrown y1
        have z2 := cell_regrown cK
        have z3 := cell_regrown cL5
        have HL8 := Lib.hid hL5
        have HCK := Lib.hid cK
        have HCL := Lib.hid cL5
        have HC8 := Lib.hid hcl
        clear hx0 hx1 hkm hcl y0 y1 cK cL5
        refine wp_region_quiet_below (by kernel_rfl) (by kernel_rfl) ?_
        repeat (go_big_quiet_step (fail))
        refine wpQuiet_nil ?_
        intro w9 hw9
        obtain ⟨⟨dq, osq⟩, hw9⟩ := hw9
        have hb9 : Below w8.heap.size w8 w9 := by rw [hw9]; exact below_regrown _ dq osq
        clear z0 z1 z2 z3 hw9
        have cK := Go.Proofs.Ytoadihclmnjjnaa.Sl.cell_kept HCK.out hb9
        have cL := Go.Proofs.Ytoadihclmnjjnaa.Sl.cell_kept HCL.out hb9
        have hL := bstep HL8.out hb9
        have HI9 := Lib.hid (HI8.out.below hb9)
        have HCEL := Lib.hid (fun j u hu => Go.Proofs.Ytoadihclmnjjnaa.Sl.cell_kept (HC8.out j u hu) hb9)
        have HL9 := Lib.hid hL
        have HSL := fun (z : Int) => (show ∀ r ∈ selL l (pkL K z K.length), OkR k r from selL_ok HOK.out (fun x hx => by
          obtain ⟨j, _, _, h3⟩ := (pkL_mem K z x K.length (Nat.le_refl _)).1 hx
          exact HM.out.lt x (List.mem_of_getElem? h3)))
        have HSZ := fun (z : Int) => (show (selL l (pkL K z K.length)).length ≤ 1000000 by have := pkL_len K z K.length; unfold selL; rw [List.length_map]; omega)
        have HPK := fun W (z : Int) (h : Below w9.heap.size w9 W) => pick_any BK w.heap.size l _ _ K z W (HS.out.below (bstep HL9.out h)) l200 (HI9.out.below h) hK2 HM.out.lt (Go.Proofs.Ytoadihclmnjjnaa.Sl.cell_kept cK h) (Go.Proofs.Ytoadihclmnjjnaa.Sl.cell_kept cL h)
        have HCP := fun (v : Value) W (z : Int) (h : Rs W v (selL l (pkL K z K.length))) => rcon_any k _ v W k0 k8 h (HSZ z) (HSL z)
        have HRS := Lib.hid (fun (W0 W : World) (v : Value) (z : Int) (h : Rf W0 W v (selL l (pkL K z K.length))) => h.rs (HSZ z))
        have HY := Lib.hid (fun i (hi : i < km) => need_at HM.out (show i < K.length by rw [← HK.out]; exact hi))
        have HN1 := Lib.hid (none_all HM.out)
        clear HSL HSZ hb9 HCK HCL HI8 HI HCN HRV HG HL8 HC8 hL5 hK0 hK2 gm gx0 hw1 km1 km3
        go_wp2
        clear gx1 gx2 gx3
        go_loopw [68] (fun iv wi => ∃ i, i ≤ km ∧ iv = .int .i64 (i : Int) ∧ Below w9.heap.size w9 wi) (fun iv _ => km - (RowKit.intOf iv).toNat)
        case atStart => exact ⟨0, Nat.zero_le _, rfl, Below.refl _ _⟩
        case round =>
          obtain ⟨i, hi, rfl, hL9⟩ := hrel
          by_cases hik : i < km
          · have i0 : (0 : Int) ≤ (i : Int) := by omega
            have i1 : (i : Int) < (km : Int) := by omega
            by_cases hz : i = 0
            · subst hz
              have gz : decide ((0 : Int) < ((0 : Nat) : Int)) = false := by simp
              have HSS := Lib.hid (fun W (h : Below w9.heap.size w9 W) => Go.Proofs.Ytoadihclmnjjnaa.Sl.cell_kept cK h)
              have hSS := HSS.out _ hL9
              go_upto_region 16 with fail
              have z0 := cell_regrown hSS
              refine Lst.wp_region_below_cut 15 _ rfl (by rfl) (by kernel_rfl) (by kernel_rfl) (by kernel_rfl) (by kernel_rfl) (by kernel_rfl) ?_
              simp only [List.take_succ_cons, List.take_zero]
              repeat (go_big_quiet_step (fail))
              refine wpQuiet_nil ?_
              clear z0 gz
              intro wd hbd
              have hLd := bstep hL9 hbd
              have hSd := HSS.out _ hLd
              clear hL9 hSS hbd
              refine wpAny_of_held (S := fun V => V.cell? ⟨BK, 0, none⟩ = some (.slice (some ⟨g, off, none⟩) km kc)) _ _ _ _ ?_
              (refine wpAnyH_take (i := 15) (v := ?tkv15_1) rfl (by kernel_rfl) (by kernel_rfl) (by kernel_rfl) (fun _ _ _ h => h) (Or.inl ⟨by rfl, ?tky15_1⟩) (by assumption) ?tkr15_1; case tky15_1 => (intro V hV; (try dsimp only at hV); go_simp; (try with_reducible rfl)); try simp only [Act.put, List.setIfInBounds_toArray, List.set_cons_zero, List.set_cons_succ])
              (refine wpAnyH_take (i := 16) (v := ?tkv16_2) rfl (by kernel_rfl) (by kernel_rfl) (by kernel_rfl) (fun _ _ _ h => h) (Or.inl ⟨by rfl, ?tky16_2⟩) (by assumption) ?tkr16_2; case tky16_2 => (intro V hV; (try dsimp only at hV); go_simp; (try with_reducible rfl)); try simp only [Act.put, List.setIfInBounds_toArray, List.set_cons_zero, List.set_cons_succ])
              (refine wpAnyH_take (i := 17) (v := ?tkv17_3) rfl (by kernel_rfl) (by kernel_rfl) (by kernel_rfl) (fun _ _ _ h => h) (Or.inl ⟨by rfl, ?tky17_3⟩) (by assumption) ?tkr17_3; case tky17_3 => (intro V hV; (try dsimp only at hV); go_simp; (try with_reducible rfl)); try simp only [Act.put, List.setIfInBounds_toArray, List.set_cons_zero, List.set_cons_succ])
              (refine wpAnyH_ready (rs := [18]) (by kernel_rfl) (by simp) ?_; refine AllReadyH.cons rfl (fun K hK => ?_) AllReadyH.nil; (try go_simp); (go_at_call 17; (with_reducible refine (HPK _ (0 : Int) hLd).mono ?_); rintro e w2 ⟨v2, rfl, hRf⟩; have hRs := HRS.out _ _ _ _ hRf; replace hLd := bstep hLd hRf.2; replace hSd := HSS.out _ hLd; clear hRf); refine hK.out _ _ (by (exact hSd)) (fun hHeld => ?_); clear hK K; try simp only [Act.put, List.setIfInBounds_toArray, List.set_cons_zero, List.set_cons_succ])
              (refine wpAnyH_ready (rs := [19]) (by kernel_rfl) (by simp) ?_; refine AllReadyH.cons rfl (fun K hK => ?_) AllReadyH.nil; (try go_simp); (go_at_call 16; (with_reducible refine (HCP _ _ (0 : Int) hRs).mono ?_); rintro e w3 ⟨b, rfl, hbi, hb3⟩; obtain rfl : b = true := hbi.2 (HY.out 0 hik); clear hbi hRs; replace hLd := bstep hLd hb3; replace hSd := HSS.out _ hLd; clear hb3); refine hK.out _ _ (by (exact hSd)) (fun hHeld => ?_); clear hK K; try simp only [Act.put, List.setIfInBounds_toArray, List.set_cons_zero, List.set_cons_succ])
              (refine wpAnyH_ready (rs := [20]) (by kernel_rfl) (by simp) ?_; refine AllReadyH.cons rfl (fun K hK => ?_) AllReadyH.nil; (try go_simp); refine hK.out _ _ (by (exact hSd)) (fun hHeld => ?_); clear hK K; try simp only [Act.put, List.setIfInBounds_toArray, List.set_cons_zero, List.set_cons_succ])
              (refine wpAnyH_ready (rs := [21]) (by kernel_rfl) (by simp) ?_; refine AllReadyH.cons rfl (fun K hK => ?_) AllReadyH.nil; (try go_simp); refine hK.out _ _ (by (exact hSd)) (fun hHeld => ?_); clear hK K; try simp only [Act.put, List.setIfInBounds_toArray, List.set_cons_zero, List.set_cons_succ])
              refine wpAnyH_done (by kernel_rfl) ?_ _
              clear hSd hHeld
              go_wp2
              go_roundw
              case rel => exact ⟨0 + 1, by omega, by go_num, hLd⟩
              case measure => simp [RowKit.intOf]; omega
            · have gz : decide ((0 : Int) < (i : Int)) = true := by simp; omega
              obtain ⟨xp, hxp⟩ : ∃ t, K[i - 1]? = some t := ⟨_, List.getElem?_eq_getElem (by rw [← HK.out]; omega)⟩
              obtain ⟨xi, hxi⟩ : ∃ t, K[i]? = some t := ⟨_, List.getElem?_eq_getElem (by rw [← HK.out]; exact hik)⟩
              have hlt := inc_get HM.out.inc hxp hxi (by omega)
              have gx : decide ((xi : Int) ≤ (xp : Int)) = false := by simp; omega
              have gz2 : decide (0 < i) = true := by simpa using gz
              have gz3 : 0 < i := by simpa using gz
              have gx2 : decide (xi ≤ xp) = false := by simpa using gx
              have gx3 : ¬ xi ≤ xp := by simpa using gx
              have hw1 : IntKind.i64.wrap ((i : Int) - 1) = ((i - 1 : Nat) : Int) := by rw [IntKind.wrap_i64]; omega
              have j0 : (0 : Int) ≤ ((i - 1 : Nat) : Int) := by omega
              have j1 : ((i - 1 : Nat) : Int) < (km : Int) := by omega
              have HSS := Lib.hid (fun W (h : Below w9.heap.size w9 W) => (show W.cell? ⟨BK, 0, none⟩ = some (.slice (some ⟨g, off, none⟩) km kc) ∧ W.cell? ⟨g, off + (i - 1), none⟩ = some (.int .i64 (xp : Int)) ∧ W.cell? ⟨g, off + i, none⟩ = some (.int .i64 (xi : Int)) from ⟨Go.Proofs.Ytoadihclmnjjnaa.Sl.cell_kept cK h, Go.Proofs.Ytoadihclmnjjnaa.Sl.cell_kept (is_get HCEL.out hxp) h, Go.Proofs.Ytoadihclmnjjnaa.Sl.cell_kept (is_get HCEL.out hxi) h⟩))
              have hSS := HSS.out _ hL9
              clear hxp hxi hlt
              go_upto_region 16 with fail
              have z0 := cell_regrown hSS.1
              have z1 := cell_regrown hSS.2.1
              have z2 := cell_regrown hSS.2.2
              refine Lst.wp_region_below_cut 15 _ rfl (by rfl) (by kernel_rfl) (by kernel_rfl) (by kernel_rfl) (by kernel_rfl) (by kernel_rfl) ?_
              simp only [List.take_succ_cons, List.take_zero]
              repeat (go_big_quiet_step (fail))
              refine wpQuiet_nil ?_
              clear z0 z1 z2 gz gx hw1 j0 j1 gz2 gz3 gx2 gx3
              intro wd hbd
              have hLd := bstep hL9 hbd
              have hSd := HSS.out _ hLd
              clear hL9 hSS hbd
              refine wpAny_of_held (S := fun V => V.cell? ⟨BK, 0, none⟩ = some (.slice (some ⟨g, off, none⟩) km kc) ∧ V.cell? ⟨g, off + (i - 1), none⟩ = some (.int .i64 (xp : Int)) ∧ V.cell? ⟨g, off + i, none⟩ = some (.int .i64 (xi : Int))) _ _ _ _ ?_
              (refine wpAnyH_take (i := 15) (v := ?tkv15_4) rfl (by kernel_rfl) (by kernel_rfl) (by kernel_rfl) (fun _ _ _ h => h) (Or.inl ⟨by rfl, ?tky15_4⟩) (by assumption) ?tkr15_4; case tky15_4 => (intro V hV; (try dsimp only at hV); go_simp; (try with_reducible rfl)); try simp only [Act.put, List.setIfInBounds_toArray, List.set_cons_zero, List.set_cons_succ])
              (refine wpAnyH_take (i := 16) (v := ?tkv16_5) rfl (by kernel_rfl) (by kernel_rfl) (by kernel_rfl) (fun _ _ _ h => h) (Or.inl ⟨by rfl, ?tky16_5⟩) (by assumption) ?tkr16_5; case tky16_5 => (intro V hV; (try dsimp only at hV); go_simp; (try with_reducible rfl)); try simp only [Act.put, List.setIfInBounds_toArray, List.set_cons_zero, List.set_cons_succ])
              (refine wpAnyH_take (i := 17) (v := ?tkv17_6) rfl (by kernel_rfl) (by kernel_rfl) (by kernel_rfl) (fun _ _ _ h => h) (Or.inl ⟨by rfl, ?tky17_6⟩) (by assumption) ?tkr17_6; case tky17_6 => (intro V hV; (try dsimp only at hV); go_simp; (try with_reducible rfl)); try simp only [Act.put, List.setIfInBounds_toArray, List.set_cons_zero, List.set_cons_succ])
              (refine wpAnyH_ready (rs := [18]) (by kernel_rfl) (by simp) ?_; refine AllReadyH.cons rfl (fun K hK => ?_) AllReadyH.nil; (try go_simp); (go_at_call 17; (with_reducible refine (HPK _ (i : Int) hLd).mono ?_); rintro e w2 ⟨v2, rfl, hRf⟩; have hRs := HRS.out _ _ _ _ hRf; replace hLd := bstep hLd hRf.2; replace hSd := HSS.out _ hLd; clear hRf); refine hK.out _ _ (by (exact hSd)) (fun hHeld => ?_); clear hK K; try simp only [Act.put, List.setIfInBounds_toArray, List.set_cons_zero, List.set_cons_succ])
              (refine wpAnyH_ready (rs := [19]) (by kernel_rfl) (by simp) ?_; refine AllReadyH.cons rfl (fun K hK => ?_) AllReadyH.nil; (try go_simp); (go_at_call 16; (with_reducible refine (HCP _ _ (i : Int) hRs).mono ?_); rintro e w3 ⟨b, rfl, hbi, hb3⟩; obtain rfl : b = true := hbi.2 (HY.out i hik); clear hbi hRs; replace hLd := bstep hLd hb3; replace hSd := HSS.out _ hLd; clear hb3); refine hK.out _ _ (by (exact hSd)) (fun hHeld => ?_); clear hK K; try simp only [Act.put, List.setIfInBounds_toArray, List.set_cons_zero, List.set_cons_succ])
              (refine wpAnyH_ready (rs := [20]) (by kernel_rfl) (by simp) ?_; refine AllReadyH.cons rfl (fun K hK => ?_) AllReadyH.nil; (try go_simp); refine hK.out _ _ (by (exact hSd)) (fun hHeld => ?_); clear hK K; try simp only [Act.put, List.setIfInBounds_toArray, List.set_cons_zero, List.set_cons_succ])
              (refine wpAnyH_ready (rs := [21]) (by kernel_rfl) (by simp) ?_; refine AllReadyH.cons rfl (fun K hK => ?_) AllReadyH.nil; (try go_simp); refine hK.out _ _ (by (exact hSd)) (fun hHeld => ?_); clear hK K; try simp only [Act.put, List.setIfInBounds_toArray, List.set_cons_zero, List.set_cons_succ])
              refine wpAnyH_done (by kernel_rfl) ?_ _
              clear hSd hHeld
              go_wp2
              go_roundw
              case rel => exact ⟨i + 1, by omega, by go_num, hLd⟩
              case measure => simp [RowKit.intOf]; omega
          · obtain rfl : i = km := by omega
            have c9 := Go.Proofs.Ytoadihclmnjjnaa.Sl.cell_kept cK hL9
            go_wp2_with (first | (go_at_call 17; (with_reducible refine (HPK _ (-1) hL9).mono ?_); rintro e w2 ⟨v2, rfl, hRf⟩; have hRs := HRS.out _ _ _ _ hRf; replace hL9 := bstep hL9 hRf.2; clear hRf) | (go_at_call 16; (with_reducible refine (HCP _ _ (-1) hRs).mono ?_); rintro e w3 ⟨b, rfl, hbi, hb3⟩; obtain rfl : b = false := Bool.eq_false_iff.2 (fun h => HN1.out (hbi.1 h)); clear hbi hRs; replace hL9 := bstep hL9 hb3; clear hb3))
            go_ret
            exact ⟨rfl, bstep hL hL9⟩
  · rw [hgl] at HG
    clear HRV hs hgl hg
    go_wp2_with (first | (go_at_call 12; (with_reducible refine (awake_any _).mono ?_); rintro e w1 ⟨rfl, hb⟩; replace cL := Go.Proofs.Ytoadihclmnjjnaa.Sl.cell_kept cL hb; replace hL := bstep hL hb; clear hb) | (go_at_call 13; (with_reducible refine (HG _).mono ?_); rintro e w2 ⟨rfl, rfl⟩))
    go_ret
    exact ⟨rfl, hL⟩
end Go.Proofs.Ytoadihclmnjjnaa.Nw
