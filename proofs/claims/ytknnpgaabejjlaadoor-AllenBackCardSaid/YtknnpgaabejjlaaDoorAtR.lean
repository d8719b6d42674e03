/-
  The walks of the reference's Text and Parse (layer 11).
-/
import Derived.Test.YtknnpgaabejjlaaDoorAtQ
import Derived.Test.YtknnpgaabejjlaaDoorRef
import Derived.Deep.RegionHeldLaw
set_option linter.unusedSimpArgs false
set_option linter.unusedVariables false
namespace Go.Proofs.YtknnpgaabejjlaaDoor.Al
open Go Go.RowKit Go.Proofs.YtknnpgaabejjlaaDoor.Bt Go.Proofs.YtknnpgaabejjlaaDoor.Sl Go.Proofs.YtknnpgaabejjlaaDoor.Tp Go.Proofs.YtknnpgaabejjlaaDoor.Lx
open Go.Proofs.YtknnpgaabejjlaaDoor.Iv (nms nmA)

theorem rsingles_none (s : Int) (w : World) (h : isSetB s = false) : Calls Tryd.prog 23 #[.int .i64 s] w fun e w' => e = .returned (.slice none 0 0) ∧ Below w.heap.size w w' := by
  go_enter Tryd.func23, Tryd.ntmps23
  go_wp2
  go_loopw [3, 4] (fun v i wr => v = .slice none 0 0 ∧ i = .int .i64 0 ∧ w = wr) (fun _ _ _ => 0)
  case atStart => exact ⟨rfl, rfl, rfl⟩
  case round =>
    obtain ⟨rfl, rfl, rfl⟩ := hrel
    go_wp2_with (go_at_call 32; ((with_reducible refine (rIsSet_any s _).mono ?_); rintro e w1 ⟨rfl, rfl⟩))
    go_ret
    exact ⟨rfl, by go_grown⟩
set_option maxHeartbeats 1000000 in
theorem rsingles_set (m : Nat) (hm : m < 8192) (w : World) : Calls Tryd.prog 23 #[.int .i64 (m : Int)] w (SomeInts (singF m) w) := by
  obtain ⟨i0, hi, hz0, hz1, hz2⟩ := info_parts info_int
  have his : isSetB (m : Int) = true := by simp [isSetB]; omega
  go_enter Tryd.func23, Tryd.ntmps23
  go_wp2
  go_loopw [3, 4] (fun v i wr => ∃ k : Nat, k ≤ 13 ∧ i = .int .i64 k ∧ wr.ownsRow w.heap.size 3 1 v (singTo m k).length ((singTo m k).map relV) ∧ Below w.heap.size w wr) (fun _ i _ => 13 - (intOf i).toNat)
  case atStart => exact ⟨0, by omega, rfl, World.ownsRow_nil _ _ _ _, Below.refl _ _⟩
  case round =>
    obtain ⟨wo, rfl⟩ : ∃ wo : World, wo = wr := ⟨_, rfl⟩
    obtain ⟨k, hk, rfl, hown, hL⟩ := hrel
    by_cases hlt : k < 13
    · have g1 : decide ((k : Int) ≤ 12) = true := by simp; omega
      have hs := singTo_step m k hlt
      have hh := rhas_any m k hm (by omega)
      have hlen := singTo_len m k
      cases hb : m.testBit k
      · rw [hb, if_neg (by simp), List.append_nil] at hs
        rw [hb] at hh
        have HS := Lib.hid hs
        clear hs
        go_wp2_with (first | (go_at_call 19; ((with_reducible refine (hh _).mono ?_); rintro e w1 ⟨rfl, rfl⟩)) | (go_at_call 32; ((with_reducible refine (rIsSet_any (m : Int) _).mono ?_); rintro e w1 ⟨rfl, rfl⟩)))
        go_roundw
        case rel => exact ⟨k + 1, by omega, by go_num, by rw [HS.out]; exact hown, hL⟩
        case measure => simp [intOf]; omega
      · rw [hb, if_pos rfl] at hs
        rw [hb] at hh
        have HS := Lib.hid hs
        clear hs
        go_wp2_with (first | (go_at_call 19; ((with_reducible refine (hh _).mono ?_); rintro e w1 ⟨rfl, rfl⟩)) | (go_at_call 32; ((with_reducible refine (rIsSet_any (m : Int) _).mono ?_); rintro e w1 ⟨rfl, rfl⟩)) | (at_builtin; go_must (refine wpList_app1 hL rfl (.tmp 16) (.tmp 18) 31 rfl 3 Tryd.underlying31 hi hz0 hz1 hz2 rfl (by decide) u3 (singTo m k).length ((singTo m k).map relV) rfl [.int .i64 (k : Int)] 3 hown rfl (by simp) rfl (by intro u hu; simp at hu; rcases hu with rfl; rfl) (by unfold maxLen; omega) (by omega) ?_); intro g cap w1 hown1 hL1))
        go_roundw
        case rel =>
          have R : w1.ownsRow w.heap.size 3 1 (.slice (some ⟨g, 0, none⟩) ((singTo m k).length + 1) cap) (singTo m (k + 1)).length ((singTo m (k + 1)).map relV) := by
            rw [HS.out, List.map_append, List.length_append]
            exact hown1
          exact ⟨k + 1, by omega, by go_num, R, hL1⟩
        case measure => simp [intOf]; omega
    · obtain rfl : k = 13 := by omega
      have hSl : Sl wo u3 (singF m).length 1 ((singF m).map relV) := Sl.of_owns hown
      go_wp2_with (go_at_call 32; ((with_reducible refine (rIsSet_any (m : Int) _).mono ?_); rintro e w1 ⟨rfl, rfl⟩))
      go_ret
      exact ⟨_, rfl, hSl, hL⟩


theorem rnames_any (w : World) : Calls Tryd.prog 18 #[] w fun e w' => e = .returned (.slice (some ⟨w.heap.size, 0, none⟩) 13 13) ∧ w.alloc (.cells nmA 9) = w' := by
  go_enter Tryd.func18, Tryd.ntmps18
  go_wp2
  go_ret
  exact ⟨rfl, rfl⟩
theorem nmA_at (k : Nat) (hk : k < 13) (w : World) (t : TypeId) : (w.alloc (.cells nmA t)).cell? ⟨w.heap.size, k, none⟩ = some (.string (nms.getD k ⟨#[]⟩)) := by
  have h := cells_new w nmA.toList t k (.string (nms.getD k ⟨#[]⟩)) (by
    have : ∀ j, j < 13 → nmA.toList[j]? = some (.string (nms.getD j ⟨#[]⟩)) := by
      intro j hj
      have : j = 0 ∨ j = 1 ∨ j = 2 ∨ j = 3 ∨ j = 4 ∨ j = 5 ∨ j = 6 ∨ j = 7 ∨ j = 8 ∨ j = 9 ∨ j = 10 ∨ j = 11 ∨ j = 12 := by omega
      rcases this with rfl | rfl | rfl | rfl | rfl | rfl | rfl | rfl | rfl | rfl | rfl | rfl | rfl <;> rfl
    exact this k hk)
  have hadd : (⟨w.heap.size, 0, none⟩ : Addr).add k = ⟨w.heap.size, k, none⟩ := by unfold Addr.add; split <;> simp_all
  rw [hadd] at h
  exact h
theorem rtext_zero (w : World) : Calls Tryd.prog 9 #[.int .i64 0] w fun e w' => e = .returned (.string noneT) ∧ Below w.heap.size w w' := by
  go_enter Tryd.func9, Tryd.ntmps9
  go_wp2
  go_ret
  exact ⟨rfl, by go_grown⟩
theorem rtext_full (w : World) : Calls Tryd.prog 9 #[.int .i64 8191] w fun e w' => e = .returned (.string anyT) ∧ Below w.heap.size w w' := by
  go_enter Tryd.func9, Tryd.ntmps9
  go_wp2
  go_ret
  exact ⟨rfl, by go_grown⟩
theorem rtext_none (s : Int) (w : World) (h : isSetB s = false) : Calls Tryd.prog 9 #[.int .i64 s] w fun e w' => e = .returned (.string ⟨#[]⟩) ∧ Below w.heap.size w w' := by
  have h0 : (s == 0) = false := by
    cases hs : (s == 0)
    · rfl
    · rw [beq_iff_eq] at hs; subst hs; cases h
  have h1 : (s == 8191) = false := by
    cases hs : (s == 8191)
    · rfl
    · rw [beq_iff_eq] at hs; subst hs; cases h
  go_enter Tryd.func9, Tryd.ntmps9
  go_wp2_with (go_at_call 23; (with_reducible refine (rsingles_none s _ h).mono ?_); rintro e w1 ⟨rfl, hL⟩)
  refine wp_loop_rounds 1 ?_
  rw [rounds_succ]
  go_wp2
  go_ret
  exact ⟨rfl, hL⟩
theorem joinT_snoc (L : List (Fin 13)) (k : Nat) (x : Fin 13) (h : L[k]? = some x) : joinT (L.take (k + 1)) = (if 0 < k then joinT (L.take k) ++ ⟨#[124]⟩ else joinT (L.take k)) ++ nmF x := by
  have ht : L.take (k + 1) = L.take k ++ [x] := by rw [List.take_add_one, h]; rfl
  apply ByteArray.ext
  apply Array.toList_inj.1
  rw [ht]
  have hkl : k < L.length := (List.getElem?_eq_some_iff.1 h).1
  by_cases hk : 0 < k
  · rw [if_pos hk]
    have hne : (L.take k).map (fun r => (nmF r).data.toList) ≠ [] := by
      intro e
      have := congrArg List.length e
      rw [List.length_map, List.length_take] at this
      simp only [List.length_nil] at this; omega
    show joinN ((L.take k ++ [x]).map fun r => (nmF r).data.toList) = ((joinT (L.take k) ++ ⟨#[124]⟩) ++ nmF x).data.toList
    rw [List.map_append, List.map_singleton, joinN_snoc _ _ hne]
    simp [ByteArray.data_append, Array.toList_append, joinT_data]
  · rw [if_neg hk]
    have : k = 0 := by omega
    subst this
    rw [List.take_zero]
    show joinN [(nmF x).data.toList] = (joinT [] ++ nmF x).data.toList
    rw [ByteArray.data_append, Array.toList_append, joinT_data]
    rfl
theorem rtext_set (m : Nat) (hm : m < 8192) (h0 : ((m : Int) == 0) = false) (h1 : ((m : Int) == 8191) = false) (w : World) : Calls Tryd.prog 9 #[.int .i64 (m : Int)] w fun e w' => e = .returned (.string (joinT (singF m))) ∧ Below w.heap.size w w' := by
  go_enter Tryd.func9, Tryd.ntmps9
  go_wp2_with (go_at_call 23; (with_reducible refine (rsingles_set m hm _).mono ?_); rintro e w1 ⟨v, rfl, hSl, hL⟩; obtain ⟨ad, cap, hv⟩ := hSl.form; rw [hv])
  subst hv
  obtain ⟨N, hN⟩ : ∃ N, N = (singF m).length := ⟨_, rfl⟩
  have hN13 : N ≤ 13 := by rw [hN]; exact singF_len m
  rw [← hN] at hSl ⊢
  have HN := Lib.hid hN
  have HS := Lib.hid hSl
  clear hSl hN
  go_loopw [3, 5] (fun o i wr => ∃ k : Nat, k ≤ N ∧ i = .int .i64 k ∧ o = .string (joinT ((singF m).take k)) ∧ Below w.heap.size w wr ∧ Below w1.heap.size w1 wr) (fun _ i _ => N - (intOf i).toNat)
  case atStart => exact ⟨0, Nat.zero_le _, rfl, rfl, hL, Below.refl _ _⟩
  case round =>
    obtain ⟨k, hk, rfl, rfl, hL2, hL3⟩ := hrel
    by_cases hlt : k < N
    · obtain ⟨x, hx⟩ : ∃ x, (singF m)[k]? = some x := ⟨_, List.getElem?_eq_getElem (by rw [← HN.out]; exact hlt)⟩
      obtain ⟨g, off, cap2, hv, hc⟩ := HS.out.open (by omega)
      cases hv
      have c0 : wr.cell? ⟨g, off + k, none⟩ = some (.int .i64 (x.val : Int))   := Sl.cell_kept (hc k _ (by rw [List.getElem?_map, hx]; rfl)) hL3
      have hjn := joinT_snoc (singF m) k x hx
      have HJ := Lib.hid hjn
      have hsz : (joinT ((singF m).take k)).size ≤ 169 := by
        rw [joinT_size]
        have := joinN_len ((singF m).take k)
        rw [List.length_take] at this
        omega
      have hnz := nmF_size x
      have hs2 : (joinT ((singF m).take k) ++ ⟨#[124]⟩).size ≤ 170 := by rw [ByteArray.size_append]; show _ + 1 ≤ 170; omega
      have hx0 : (0 : Int) ≤ (x.val : Int) := by omega
      have hx1 : (x.val : Int) < 13 := by have := x.isLt; omega
      have hnm : (wr.alloc (.cells nmA 9)).cell? ⟨wr.heap.size, x.val, none⟩ = some (.string (nmF x)) := nmA_at x.val x.isLt wr 9
      have k0 : (0 : Int) ≤ (k : Int) := by omega
      have k1 : (k : Int) < (N : Int) := by omega
      clear hc hx hjn
      by_cases hk0 : 0 < k
      · have HJ2 := Lib.hid (show joinT ((singF m).take (k + 1)) = (joinT ((singF m).take k) ++ ⟨#[124]⟩) ++ nmF x by rw [HJ.out, if_pos hk0])
        go_wp2
        refine wp_region_held_drew (S := fun V => V.cell? ⟨g, off + k, none⟩ = some (.int .i64 (x.val : Int))) (by kernel_rfl) c0 (fun hHeld => ?_)
        (refine wpAnyH_take (i := 0) (v := ?tkv0_1) rfl (by kernel_rfl) (by kernel_rfl) (by kernel_rfl) (fun _ _ _ h => h) (Or.inl ⟨by rfl, ?tky0_1⟩) (by assumption) ?tkr0_1; case tky0_1 => (intro V hV; (try dsimp only at hV); go_simp; (try with_reducible rfl)); try simp only [Act.put, List.setIfInBounds_toArray, List.set_cons_zero, List.set_cons_succ])
        (refine wpAnyH_take (i := 2) (v := ?tkv2_2) rfl (by kernel_rfl) (by kernel_rfl) (by kernel_rfl) (fun _ _ _ h => h) (Or.inl ⟨by rfl, ?tky2_2⟩) (by assumption) ?tkr2_2; case tky2_2 => (intro V hV; (try dsimp only at hV); go_simp; (try with_reducible rfl)); try simp only [Act.put, List.setIfInBounds_toArray, List.set_cons_zero, List.set_cons_succ])
        (refine wpAnyH_take (i := 3) (v := ?tkv3_3) rfl (by kernel_rfl) (by kernel_rfl) (by kernel_rfl) (fun _ _ _ h => h) (Or.inl ⟨by rfl, ?tky3_3⟩) (by assumption) ?tkr3_3; case tky3_3 => (intro V hV; (try dsimp only at hV); go_simp; (try with_reducible rfl)); try simp only [Act.put, List.setIfInBounds_toArray, List.set_cons_zero, List.set_cons_succ])
        (refine wpAnyH_take (i := 4) (v := ?tkv4_4) rfl (by kernel_rfl) (by kernel_rfl) (by kernel_rfl) (fun _ _ _ h => h) (Or.inl ⟨by rfl, ?tky4_4⟩) (by assumption) ?tkr4_4; case tky4_4 => (intro V hV; (try dsimp only at hV); go_simp; (try with_reducible rfl)); try simp only [Act.put, List.setIfInBounds_toArray, List.set_cons_zero, List.set_cons_succ])
        (refine wpAnyH_take (i := 5) (v := ?tkv5_5) rfl (by kernel_rfl) (by kernel_rfl) (by kernel_rfl) (fun _ _ _ h => h) (Or.inl ⟨by rfl, ?tky5_5⟩) (by assumption) ?tkr5_5; case tky5_5 => (intro V hV; (try dsimp only at hV); go_simp; (try with_reducible rfl)); try simp only [Act.put, List.setIfInBounds_toArray, List.set_cons_zero, List.set_cons_succ])
        (refine wpAnyH_ready (rs := [1]) (by kernel_rfl) (by simp) ?_; refine AllReadyH.cons rfl (fun K hK => ?_) AllReadyH.nil; (try go_simp); (go_at_call 18; (with_reducible refine (rnames_any _).mono ?_); rintro e w2 ⟨rfl, rfl⟩); refine hK.out _ _ (by (first | assumption | exact Sl.cell_kept c0 (by go_grown))) (fun hHeld => ?_); clear hK K; try simp only [Act.put, List.setIfInBounds_toArray, List.set_cons_zero, List.set_cons_succ])
        (refine wpAnyH_ready (rs := [6]) (by kernel_rfl) (by simp) ?_; refine AllReadyH.cons rfl (fun K hK => ?_) AllReadyH.nil; (try go_simp); refine hK.out _ _ (by assumption) (fun hHeld => ?_); clear hK K; try simp only [Act.put, List.setIfInBounds_toArray, List.set_cons_zero, List.set_cons_succ])
        (refine wpAnyH_ready (rs := [7]) (by kernel_rfl) (by simp) ?_; refine AllReadyH.cons rfl (fun K hK => ?_) AllReadyH.nil; (try go_simp); refine hK.out _ _ (by assumption) (fun hHeld => ?_); clear hK K; try simp only [Act.put, List.setIfInBounds_toArray, List.set_cons_zero, List.set_cons_succ])
        (refine wpAnyH_ready (rs := [8]) (by kernel_rfl) (by simp) ?_; refine AllReadyH.cons rfl (fun K hK => ?_) AllReadyH.nil; (try go_simp); (rw [if_neg (by omega)]; try go_simp); refine hK.out _ _ (by assumption) (fun hHeld => ?_); clear hK K; try simp only [Act.put, List.setIfInBounds_toArray, List.set_cons_zero, List.set_cons_succ])
        (refine wpAnyH_ready (rs := [9]) (by kernel_rfl) (by simp) ?_; refine AllReadyH.cons rfl (fun K hK => ?_) AllReadyH.nil; (try go_simp); refine hK.out _ _ (by assumption) (fun hHeld => ?_); clear hK K; try simp only [Act.put, List.setIfInBounds_toArray, List.set_cons_zero, List.set_cons_succ])
        refine wpAnyH_done (by kernel_rfl) ?_ _
        go_wp2
        go_roundw
        case rel => exact ⟨k + 1, by omega, by go_num, by rw [HJ2.out], (by have := hL2.size; go_grown), (by have := hL3.size; go_grown)⟩
        case measure => simp [intOf]; omega
      · have HJ2 := Lib.hid (show joinT ((singF m).take (k + 1)) = joinT ((singF m).take k) ++ nmF x by rw [HJ.out, if_neg hk0])
        go_wp2
        refine wp_region_held_drew (S := fun V => V.cell? ⟨g, off + k, none⟩ = some (.int .i64 (x.val : Int))) (by kernel_rfl) c0 (fun hHeld => ?_)
        (refine wpAnyH_take (i := 0) (v := ?tkv0_6) rfl (by kernel_rfl) (by kernel_rfl) (by kernel_rfl) (fun _ _ _ h => h) (Or.inl ⟨by rfl, ?tky0_6⟩) (by assumption) ?tkr0_6; case tky0_6 => (intro V hV; (try dsimp only at hV); go_simp; (try with_reducible rfl)); try simp only [Act.put, List.setIfInBounds_toArray, List.set_cons_zero, List.set_cons_succ])
        (refine wpAnyH_take (i := 2) (v := ?tkv2_7) rfl (by kernel_rfl) (by kernel_rfl) (by kernel_rfl) (fun _ _ _ h => h) (Or.inl ⟨by rfl, ?tky2_7⟩) (by assumption) ?tkr2_7; case tky2_7 => (intro V hV; (try dsimp only at hV); go_simp; (try with_reducible rfl)); try simp only [Act.put, List.setIfInBounds_toArray, List.set_cons_zero, List.set_cons_succ])
        (refine wpAnyH_take (i := 3) (v := ?tkv3_8) rfl (by kernel_rfl) (by kernel_rfl) (by kernel_rfl) (fun _ _ _ h => h) (Or.inl ⟨by rfl, ?tky3_8⟩) (by assumption) ?tkr3_8; case tky3_8 => (intro V hV; (try dsimp only at hV); go_simp; (try with_reducible rfl)); try simp only [Act.put, List.setIfInBounds_toArray, List.set_cons_zero, List.set_cons_succ])
        (refine wpAnyH_take (i := 4) (v := ?tkv4_9) rfl (by kernel_rfl) (by kernel_rfl) (by kernel_rfl) (fun _ _ _ h => h) (Or.inl ⟨by rfl, ?tky4_9⟩) (by assumption) ?tkr4_9; case tky4_9 => (intro V hV; (try dsimp only at hV); go_simp; (try with_reducible rfl)); try simp only [Act.put, List.setIfInBounds_toArray, List.set_cons_zero, List.set_cons_succ])
        (refine wpAnyH_take (i := 5) (v := ?tkv5_10) rfl (by kernel_rfl) (by kernel_rfl) (by kernel_rfl) (fun _ _ _ h => h) (Or.inl ⟨by rfl, ?tky5_10⟩) (by assumption) ?tkr5_10; case tky5_10 => (intro V hV; (try dsimp only at hV); go_simp; (try with_reducible rfl)); try simp only [Act.put, List.setIfInBounds_toArray, List.set_cons_zero, List.set_cons_succ])
        (refine wpAnyH_ready (rs := [1]) (by kernel_rfl) (by simp) ?_; refine AllReadyH.cons rfl (fun K hK => ?_) AllReadyH.nil; (try go_simp); (go_at_call 18; (with_reducible refine (rnames_any _).mono ?_); rintro e w2 ⟨rfl, rfl⟩); refine hK.out _ _ (by (first | assumption | exact Sl.cell_kept c0 (by go_grown))) (fun hHeld => ?_); clear hK K; try simp only [Act.put, List.setIfInBounds_toArray, List.set_cons_zero, List.set_cons_succ])
        (refine wpAnyH_ready (rs := [6]) (by kernel_rfl) (by simp) ?_; refine AllReadyH.cons rfl (fun K hK => ?_) AllReadyH.nil; (try go_simp); refine hK.out _ _ (by assumption) (fun hHeld => ?_); clear hK K; try simp only [Act.put, List.setIfInBounds_toArray, List.set_cons_zero, List.set_cons_succ])
        (refine wpAnyH_ready (rs := [7]) (by kernel_rfl) (by simp) ?_; refine AllReadyH.cons rfl (fun K hK => ?_) AllReadyH.nil; (try go_simp); refine hK.out _ _ (by assumption) (fun hHeld => ?_); clear hK K; try simp only [Act.put, List.setIfInBounds_toArray, List.set_cons_zero, List.set_cons_succ])
        (refine wpAnyH_ready (rs := [8]) (by kernel_rfl) (by simp) ?_; refine AllReadyH.cons rfl (fun K hK => ?_) AllReadyH.nil; (try go_simp); (rw [if_neg (by omega)]; try go_simp); refine hK.out _ _ (by assumption) (fun hHeld => ?_); clear hK K; try simp only [Act.put, List.setIfInBounds_toArray, List.set_cons_zero, List.set_cons_succ])
        (refine wpAnyH_ready (rs := [9]) (by kernel_rfl) (by simp) ?_; refine AllReadyH.cons rfl (fun K hK => ?_) AllReadyH.nil; (try go_simp); refine hK.out _ _ (by assumption) (fun hHeld => ?_); clear hK K; try simp only [Act.put, List.setIfInBounds_toArray, List.set_cons_zero, List.set_cons_succ])
        refine wpAnyH_done (by kernel_rfl) ?_ _
        go_wp2
        go_roundw
        case rel => exact ⟨k + 1, by omega, by go_num, by rw [HJ2.out], (by have := hL2.size; go_grown), (by have := hL3.size; go_grown)⟩
        case measure => simp [intOf]; omega
    · obtain rfl : k = N := by omega
      have ht : (singF m).take k = singF m := List.take_of_length_le (by rw [← HN.out]; exact Nat.le_refl _)
      rw [ht]
      go_wp2
      go_ret
      exact ⟨rfl, hL2⟩
theorem byt_at (s : ByteArray) (k : Nat) (h : k < s.size) : ∃ c, s[k] = c ∧ s.data.toList.drop k = c :: s.data.toList.drop (k + 1) := by
  refine ⟨s[k], rfl, ?_⟩
  rw [List.drop_eq_getElem_cons (by rw [Array.length_toList]; exact h)]
  congr 1
theorem lastN_snoc : ∀ (l : List (List UInt8)) (i : Nat) (z p : List UInt8) (o : Option Nat), lastN i (l ++ [z]) p o = if z = p then some (i + l.length) else lastN i l p o
  | [], i, z, p, o => by simp [lastN]
  | y :: l, i, z, p, o => by
    rw [List.cons_append, lastN, lastN_snoc l (i + 1) z p _, lastN]
    simp only [List.length_cons, Nat.add_assoc, Nat.add_comm 1]
def valR (o : Option Nat) : Int := match o with
  | none => -1
  | some r => (r : Int)
theorem nmL_at (q : Nat) (hq : q < 13) : nmL[q]? = some (nms.getD q ⟨#[]⟩).data.toList := by
  have := nmL_get ⟨q, hq⟩
  rw [List.getD_eq_getElem?_getD, List.getElem?_eq_getElem (by rw [nmL_len]; exact hq)] at this
  rw [List.getElem?_eq_getElem (by rw [nmL_len]; exact hq)]
  exact congrArg some this
theorem valR_step (q : Nat) (hq : q < 13) (p : List UInt8) : valR (lastN 0 (nmL.take (q + 1)) p none) = if (nms.getD q ⟨#[]⟩).data.toList = p then (q : Int) else valR (lastN 0 (nmL.take q) p none) := by
  rw [List.take_add_one, nmL_at q hq]
  show valR (lastN 0 (nmL.take q ++ [_]) p none) = _
  rw [lastN_snoc, List.length_take, nmL_len]
  split
  · show ((0 + min q 13 : Nat) : Int) = _
    omega
  · rfl
theorem valR_end (p : List UInt8) : valR (lastN 0 (nmL.take 13) p none) = valR (idxN 0 nmL p) := by
  rw [List.take_of_length_le (by rw [nmL_len]; exact Nat.le_refl _), lastN_is nmL 0 p none nmL_nodup]
  cases idxN 0 nmL p <;> rfl
theorem ext_list (s : ByteArray) (f i : Nat) : (s.extract f i).data.toList = (s.data.toList.take i).drop f := by
  simp [ByteArray.data_extract, Array.toList_extract, List.extract_eq_take_drop, List.drop_take]
theorem cmp_list (z x : ByteArray) : (z.toList == x.toList) = decide (z.data.toList = x.data.toList) := by
  rw [ByteArray.toList_eq, ByteArray.toList_eq]
  rw [Bool.eq_iff_iff]; simp
set_option maxHeartbeats 1000000 in
/-- The reference's loop over the names. -/
theorem rparse_split (s : ByteArray) (w : World) (h : ¬ 200 < s.size) (hn : ¬ s = noneT) (ha : ¬ s = anyT) :
    Calls Tryd.prog 7 #[.string s] w fun e w' => e = .returned (.tuple #[.int .i64 (finA (parsA nmL (splitL 124 s.data.toList) 0 false)).1, .int .i64 (finA (parsA nmL (splitL 124 s.data.toList) 0 false)).2]) ∧ Below w.heap.size w w' := by
  have b1 := str_nb s noneT hn
  have b2 := str_nb s anyT ha
  rw [show noneT.toList = [110, 111, 110, 101] by rw [ByteArray.toList_eq]; rfl] at b1
  rw [show anyT.toList = [97, 110, 121] by rw [ByteArray.toList_eq]; rfl] at b2
  rw [← runA_all]
  go_enter Tryd.func7, Tryd.ntmps7
  go_wp2
  go_loopw [4, 5, 6, 7] (fun st fr tv i wr => ∃ k f m : Nat, ∃ tw : Bool, i = .int .i64 k ∧ fr = .int .i64 f ∧ st = .int .i64 (m : Int) ∧ tv = .bool tw ∧ m < 8192 ∧ k ≤ s.size + 1 ∧ f ≤ k ∧ (k ≤ s.size → runA nmL (s.data.toList.drop k) ((s.data.toList.take k).drop f) m tw = runA nmL s.data.toList [] 0 false) ∧ (k = s.size + 1 → runA nmL s.data.toList [] 0 false = some (m, tw)) ∧ Below w.heap.size w wr) (fun _ _ _ i _ => s.size + 1 - (intOf i).toNat)
  case atStart => exact ⟨0, 0, 0, false, rfl, rfl, rfl, rfl, by omega, by omega, by omega, fun _ => by simp, fun h => by omega, Below.refl _ _⟩
  case round =>
    obtain ⟨k, f, m, tw, rfl, rfl, rfl, rfl, hm8, hk, hf, hr1, hr2, hL⟩ := hrel
    have HR1 := Lib.hid hr1
    have HR2 := Lib.hid hr2
    clear hr1 hr2
    by_cases hlt : k < s.size
    · obtain ⟨c, hc, hs⟩ := byt_at s k hlt
      have HS := Lib.hid hs
      clear hs
      by_cases h124 : c.toNat = 124
      · have g1 : ((c.toNat : Int) != 124) = false := by simp; omega
        obtain ⟨p, hp⟩ : ∃ p, p = (s.data.toList.take k).drop f := ⟨_, rfl⟩
        have hRn : idxN 0 nmL p = none → runA nmL s.data.toList [] 0 false = none := by
          intro h
          rw [← HR1.out (by omega), HS.out, ← hp, runA, if_pos (UInt8.toNat_inj.1 h124), h]
        have hRs : ∀ r, idxN 0 nmL p = some r → runA nmL (s.data.toList.drop (k + 1)) [] (m ||| 2 ^ r) (tw || m.testBit r) = runA nmL s.data.toList [] 0 false := by
          intro r h
          rw [← HR1.out (by omega), HS.out, ← hp, runA, if_pos (UInt8.toNat_inj.1 h124), h]
        have HRN := Lib.hid hRn
        have HRS := Lib.hid hRs
        have HP := Lib.hid hp
        have hle : s.size ≤ 200 := by omega
        have z0 : (0 : Int) ≤ (f : Int) := by omega
        have z1 : (f : Int) ≤ (k : Int) ∧ (k : Int) ≤ (s.size : Int) := by omega
        clear hRn hRs hp HR1 HR2
        obtain ⟨wi, rfl⟩ : ∃ wi : World, wi = wr := ⟨_, rfl⟩
        go_wp2
        go_loopw [8, 9] (fun r q wx => ∃ j : Nat, j ≤ 13 ∧ q = .int .i64 j ∧ r = .int .i64 (valR (lastN 0 (nmL.take j) p none)) ∧ Below w.heap.size w wx) (fun _ q _ => 13 - (intOf q).toNat)
        case atStart => exact ⟨0, by omega, rfl, rfl, hL⟩
        case round =>
          obtain ⟨j, hj, rfl, rfl, hI⟩ := hrel
          by_cases hjl : j < 13
          · have HV := Lib.hid (valR_step j hjl p)
            have hnm : (wr.alloc (.cells nmA 9)).cell? ⟨wr.heap.size, j, none⟩ = some (.string (nms.getD j ⟨#[]⟩)) := nmA_at j hjl wr _
            have hct := cmp_list (nms.getD j ⟨#[]⟩) (s.extract f k)
            rw [ext_list, ← HP.out] at hct
            generalize nms.getD j ⟨#[]⟩ = z at *
            have j0 : (0 : Int) ≤ (j : Int) := by omega
            have j1 : (j : Int) < 13 := by omega
            by_cases hb : z.data.toList = p
            · rw [decide_eq_true hb] at hct
              have HB := Lib.hid hb
              clear hb
              go_wp2
              refine wp_region_held_drew (S := fun _ => True) (by kernel_rfl) trivial (fun hHeld => ?_)
              (refine wpAnyH_take (i := 1) (v := ?tkv1_11) rfl (by kernel_rfl) (by kernel_rfl) (by kernel_rfl) (fun _ _ _ h => h) (Or.inl ⟨by rfl, ?tky1_11⟩) (by assumption) ?tkr1_11; case tky1_11 => (intro V hV; (try dsimp only at hV); go_simp; (try with_reducible rfl)); try simp only [Act.put, List.setIfInBounds_toArray, List.set_cons_zero, List.set_cons_succ])
              (refine wpAnyH_take (i := 4) (v := ?tkv4_12) rfl (by kernel_rfl) (by kernel_rfl) (by kernel_rfl) (fun _ _ _ h => h) (Or.inl ⟨by rfl, ?tky4_12⟩) (by assumption) ?tkr4_12; case tky4_12 => (intro V hV; (try dsimp only at hV); go_simp; (try with_reducible rfl)); try simp only [Act.put, List.setIfInBounds_toArray, List.set_cons_zero, List.set_cons_succ])
              (refine wpAnyH_take (i := 5) (v := ?tkv5_13) rfl (by kernel_rfl) (by kernel_rfl) (by kernel_rfl) (fun _ _ _ h => h) (Or.inl ⟨by rfl, ?tky5_13⟩) (by assumption) ?tkr5_13; case tky5_13 => (intro V hV; (try dsimp only at hV); go_simp; (try with_reducible rfl)); try simp only [Act.put, List.setIfInBounds_toArray, List.set_cons_zero, List.set_cons_succ])
              (refine wpAnyH_take (i := 6) (v := ?tkv6_14) rfl (by kernel_rfl) (by kernel_rfl) (by kernel_rfl) (fun _ _ _ h => h) (Or.inl ⟨by rfl, ?tky6_14⟩) (by assumption) ?tkr6_14; case tky6_14 => (intro V hV; (try dsimp only at hV); go_simp; (try with_reducible rfl)); try simp only [Act.put, List.setIfInBounds_toArray, List.set_cons_zero, List.set_cons_succ])
              (refine wpAnyH_take (i := 7) (v := ?tkv7_15) rfl (by kernel_rfl) (by kernel_rfl) (by kernel_rfl) (fun _ _ _ h => h) (Or.inl ⟨by rfl, ?tky7_15⟩) (by assumption) ?tkr7_15; case tky7_15 => (intro V hV; (try dsimp only at hV); go_simp; (try with_reducible rfl)); try simp only [Act.put, List.setIfInBounds_toArray, List.set_cons_zero, List.set_cons_succ])
              (refine wpAnyH_ready (rs := [0]) (by kernel_rfl) (by simp) ?_; refine AllReadyH.cons rfl (fun K hK => ?_) AllReadyH.nil; (try go_simp); (go_at_call 18; (with_reducible refine (rnames_any _).mono ?_); rintro e w2 ⟨rfl, rfl⟩); refine hK.out _ _ (by trivial) (fun hHeld => ?_); clear hK K; try simp only [Act.put, List.setIfInBounds_toArray, List.set_cons_zero, List.set_cons_succ])
              (refine wpAnyH_ready (rs := [2]) (by kernel_rfl) (by simp) ?_; refine AllReadyH.cons rfl (fun K hK => ?_) AllReadyH.nil; (try go_simp); refine hK.out _ _ (by trivial) (fun hHeld => ?_); clear hK K; try simp only [Act.put, List.setIfInBounds_toArray, List.set_cons_zero, List.set_cons_succ])
              (refine wpAnyH_ready (rs := [3]) (by kernel_rfl) (by simp) ?_; refine AllReadyH.cons rfl (fun K hK => ?_) AllReadyH.nil; (try go_simp); refine hK.out _ _ (by trivial) (fun hHeld => ?_); clear hK K; try simp only [Act.put, List.setIfInBounds_toArray, List.set_cons_zero, List.set_cons_succ])
              (refine wpAnyH_ready (rs := [8]) (by kernel_rfl) (by simp) ?_; refine AllReadyH.cons rfl (fun K hK => ?_) AllReadyH.nil; (try go_simp); refine hK.out _ _ (by trivial) (fun hHeld => ?_); clear hK K; try simp only [Act.put, List.setIfInBounds_toArray, List.set_cons_zero, List.set_cons_succ])
              refine wpAnyH_done (by kernel_rfl) ?_ _
              go_wp2
              go_roundw
              case rel => exact ⟨j + 1, by omega, by go_num, by rw [HV.out, if_pos HB.out], (by have := hI.size; go_grown)⟩
              case measure => simp [intOf]; omega
            · rw [decide_eq_false hb] at hct
              have HB := Lib.hid hb
              clear hb
              go_wp2
              refine wp_region_held_drew (S := fun _ => True) (by kernel_rfl) trivial (fun hHeld => ?_)
              (refine wpAnyH_take (i := 1) (v := ?tkv1_16) rfl (by kernel_rfl) (by kernel_rfl) (by kernel_rfl) (fun _ _ _ h => h) (Or.inl ⟨by rfl, ?tky1_16⟩) (by assumption) ?tkr1_16; case tky1_16 => (intro V hV; (try dsimp only at hV); go_simp; (try with_reducible rfl)); try simp only [Act.put, List.setIfInBounds_toArray, List.set_cons_zero, List.set_cons_succ])
              (refine wpAnyH_take (i := 4) (v := ?tkv4_17) rfl (by kernel_rfl) (by kernel_rfl) (by kernel_rfl) (fun _ _ _ h => h) (Or.inl ⟨by rfl, ?tky4_17⟩) (by assumption) ?tkr4_17; case tky4_17 => (intro V hV; (try dsimp only at hV); go_simp; (try with_reducible rfl)); try simp only [Act.put, List.setIfInBounds_toArray, List.set_cons_zero, List.set_cons_succ])
              (refine wpAnyH_take (i := 5) (v := ?tkv5_18) rfl (by kernel_rfl) (by kernel_rfl) (by kernel_rfl) (fun _ _ _ h => h) (Or.inl ⟨by rfl, ?tky5_18⟩) (by assumption) ?tkr5_18; case tky5_18 => (intro V hV; (try dsimp only at hV); go_simp; (try with_reducible rfl)); try simp only [Act.put, List.setIfInBounds_toArray, List.set_cons_zero, List.set_cons_succ])
              (refine wpAnyH_take (i := 6) (v := ?tkv6_19) rfl (by kernel_rfl) (by kernel_rfl) (by kernel_rfl) (fun _ _ _ h => h) (Or.inl ⟨by rfl, ?tky6_19⟩) (by assumption) ?tkr6_19; case tky6_19 => (intro V hV; (try dsimp only at hV); go_simp; (try with_reducible rfl)); try simp only [Act.put, List.setIfInBounds_toArray, List.set_cons_zero, List.set_cons_succ])
              (refine wpAnyH_take (i := 7) (v := ?tkv7_20) rfl (by kernel_rfl) (by kernel_rfl) (by kernel_rfl) (fun _ _ _ h => h) (Or.inl ⟨by rfl, ?tky7_20⟩) (by assumption) ?tkr7_20; case tky7_20 => (intro V hV; (try dsimp only at hV); go_simp; (try with_reducible rfl)); try simp only [Act.put, List.setIfInBounds_toArray, List.set_cons_zero, List.set_cons_succ])
              (refine wpAnyH_ready (rs := [0]) (by kernel_rfl) (by simp) ?_; refine AllReadyH.cons rfl (fun K hK => ?_) AllReadyH.nil; (try go_simp); (go_at_call 18; (with_reducible refine (rnames_any _).mono ?_); rintro e w2 ⟨rfl, rfl⟩); refine hK.out _ _ (by trivial) (fun hHeld => ?_); clear hK K; try simp only [Act.put, List.setIfInBounds_toArray, List.set_cons_zero, List.set_cons_succ])
              (refine wpAnyH_ready (rs := [2]) (by kernel_rfl) (by simp) ?_; refine AllReadyH.cons rfl (fun K hK => ?_) AllReadyH.nil; (try go_simp); refine hK.out _ _ (by trivial) (fun hHeld => ?_); clear hK K; try simp only [Act.put, List.setIfInBounds_toArray, List.set_cons_zero, List.set_cons_succ])
              (refine wpAnyH_ready (rs := [3]) (by kernel_rfl) (by simp) ?_; refine AllReadyH.cons rfl (fun K hK => ?_) AllReadyH.nil; (try go_simp); refine hK.out _ _ (by trivial) (fun hHeld => ?_); clear hK K; try simp only [Act.put, List.setIfInBounds_toArray, List.set_cons_zero, List.set_cons_succ])
              (refine wpAnyH_ready (rs := [8]) (by kernel_rfl) (by simp) ?_; refine AllReadyH.cons rfl (fun K hK => ?_) AllReadyH.nil; (try go_simp); refine hK.out _ _ (by trivial) (fun hHeld => ?_); clear hK K; try simp only [Act.put, List.setIfInBounds_toArray, List.set_cons_zero, List.set_cons_succ])
              refine wpAnyH_done (by kernel_rfl) ?_ _
              go_wp2
              go_roundw
              case rel => exact ⟨j + 1, by omega, by go_num, by rw [HV.out, if_neg HB.out], (by have := hI.size; go_grown)⟩
              case measure => simp [intOf]; omega
          · obtain rfl : j = 13 := by omega
            rw [valR_end]
            cases hid : idxN 0 nmL p with
            | none =>
              have HF := Lib.hid (HRN.out hid)
              simp only [valR]
              clear hid
              go_wp2
              go_ret2
              rw [HF.out]
              exact ⟨rfl, hI⟩
            | some r =>
              have hr := idx_lt _ _ hid
              have HF := Lib.hid (HRS.out r hid)
              simp only [valR]
              have hrh := rhas_any m r hm8 (by omega)
              have hpw := wrap_pw r (by omega)
              have hpl := pow_lt r (by omega)
              have ho : bits .or .i64 ((m : Nat) : Int) ((pw r : Nat) : Int) = (((m ||| 2 ^ r : Nat)) : Int) := by
                rw [bits_or _ _ (by omega) (by unfold pw; omega)]; rfl
              have hlt2 : m ||| 2 ^ r < 8192 := Nat.or_lt_two_pow (n := 13) hm8 hpl
              obtain ⟨m2, hm2⟩ : ∃ m2, m2 = m ||| 2 ^ r := ⟨_, rfl⟩
              have HF2 := HF.out
              rw [← hm2] at ho hlt2 HF2
              have HN2 := Lib.hid HF2
              have hr0 : (0 : Int) ≤ (r : Int) := by omega
              have hr1 : (r : Int) ≤ 12 := by omega
              clear hm2 hid HF HF2 hpl
              cases tw
              · cases htb : m.testBit r
                all_goals
                  rw [htb] at hrh HN2
                  go_wp2_with (go_at_call 19; ((with_reducible refine (hrh _).mono ?_); rintro e w1 ⟨rfl, rfl⟩))
                  go_roundw
                  case rel => exact ⟨k + 1, k + 1, m2, _, by go_num, by go_num, rfl, rfl, hlt2, by omega, by omega, fun _ => by rw [show (s.data.toList.take (k + 1)).drop (k + 1) = [] from List.drop_eq_nil_of_le (by rw [List.length_take]; omega)]; simpa using HN2.out, fun h => by omega, hI⟩
                  case measure => simp [intOf]; omega
              · go_wp2
                go_roundw
                case rel => exact ⟨k + 1, k + 1, m2, true, by go_num, by go_num, rfl, rfl, hlt2, by omega, by omega, fun _ => by rw [show (s.data.toList.take (k + 1)).drop (k + 1) = [] from List.drop_eq_nil_of_le (by rw [List.length_take]; omega)]; simpa using HN2.out, fun h => by omega, hI⟩
                case measure => simp [intOf]; omega
      · have g1 : ((c.toNat : Int) != 124) = true := by simp; omega
        have hrun : runA nmL (s.data.toList.drop (k + 1)) ((s.data.toList.take (k + 1)).drop f) m tw = runA nmL s.data.toList [] 0 false := by
          rw [← HR1.out (by omega), HS.out, runA, if_neg (by intro e; rw [e] at h124; exact h124 rfl)]
          have hkl : k < s.data.toList.length := by rw [Array.length_toList]; exact hlt
          have ht : s.data.toList.take (k + 1) = s.data.toList.take k ++ [c] := by
            rw [List.take_add_one, ← List.head?_drop, HS.out]; rfl
          rw [ht, List.drop_append_of_le_length (by rw [List.length_take]; omega)]
        have HN := Lib.hid hrun
        clear hrun h124
        go_wp2
        go_roundw
        case rel => exact ⟨k + 1, f, m, tw, by go_num, rfl, rfl, rfl, hm8, by omega, by omega, fun _ => HN.out, fun h => by omega, hL⟩
        case measure => simp [intOf]; omega
    · by_cases hk2 : k = s.size
      · have hlt3 : ¬ (k : Int) < (s.size : Int) := by omega
        obtain ⟨p, hp⟩ : ∃ p, p = (s.data.toList.take k).drop f := ⟨_, rfl⟩
        have hRn : idxN 0 nmL p = none → runA nmL s.data.toList [] 0 false = none := by
          intro h
          rw [← HR1.out (by omega), List.drop_of_length_le (by rw [Array.length_toList]; exact Nat.le_of_eq hk2.symm), ← hp, runA, h]; rfl
        have hRs : ∀ r, idxN 0 nmL p = some r → runA nmL s.data.toList [] 0 false = some (m ||| 2 ^ r, tw || m.testBit r) := by
          intro r h
          rw [← HR1.out (by omega), List.drop_of_length_le (by rw [Array.length_toList]; exact Nat.le_of_eq hk2.symm), ← hp, runA, h]; rfl
        have HRN := Lib.hid hRn
        have HRS := Lib.hid hRs
        have HP := Lib.hid hp
        have hle : s.size ≤ 200 := by omega
        have z0 : (0 : Int) ≤ (f : Int) := by omega
        have z1 : (f : Int) ≤ (k : Int) ∧ (k : Int) ≤ (s.size : Int) := by omega
        clear hRn hRs hp HR1 HR2 hk2
        obtain ⟨wi, rfl⟩ : ∃ wi : World, wi = wr := ⟨_, rfl⟩
        go_wp2
        go_loopw [8, 9] (fun r q wx => ∃ j : Nat, j ≤ 13 ∧ q = .int .i64 j ∧ r = .int .i64 (valR (lastN 0 (nmL.take j) p none)) ∧ Below w.heap.size w wx) (fun _ q _ => 13 - (intOf q).toNat)
        case atStart => exact ⟨0, by omega, rfl, rfl, hL⟩
        case round =>
          obtain ⟨j, hj, rfl, rfl, hI⟩ := hrel
          by_cases hjl : j < 13
          · have HV := Lib.hid (valR_step j hjl p)
            have hnm : (wr.alloc (.cells nmA 9)).cell? ⟨wr.heap.size, j, none⟩ = some (.string (nms.getD j ⟨#[]⟩)) := nmA_at j hjl wr _
            have hct := cmp_list (nms.getD j ⟨#[]⟩) (s.extract f k)
            rw [ext_list, ← HP.out] at hct
            generalize nms.getD j ⟨#[]⟩ = z at *
            have j0 : (0 : Int) ≤ (j : Int) := by omega
            have j1 : (j : Int) < 13 := by omega
            by_cases hb : z.data.toList = p
            · rw [decide_eq_true hb] at hct
              have HB := Lib.hid hb
              clear hb
              go_wp2
              refine wp_region_held_drew (S := fun _ => True) (by kernel_rfl) trivial (fun hHeld => ?_)
              (refine wpAnyH_take (i := 1) (v := ?tkv1_21) rfl (by kernel_rfl) (by kernel_rfl) (by kernel_rfl) (fun _ _ _ h => h) (Or.inl ⟨by rfl, ?tky1_21⟩) (by assumption) ?tkr1_21; case tky1_21 => (intro V hV; (try dsimp only at hV); go_simp; (try with_reducible rfl)); try simp only [Act.put, List.setIfInBounds_toArray, List.set_cons_zero, List.set_cons_succ])
              (refine wpAnyH_take (i := 4) (v := ?tkv4_22) rfl (by kernel_rfl) (by kernel_rfl) (by kernel_rfl) (fun _ _ _ h => h) (Or.inl ⟨by rfl, ?tky4_22⟩) (by assumption) ?tkr4_22; case tky4_22 => (intro V hV; (try dsimp only at hV); go_simp; (try with_reducible rfl)); try simp only [Act.put, List.setIfInBounds_toArray, List.set_cons_zero, List.set_cons_succ])
              (refine wpAnyH_take (i := 5) (v := ?tkv5_23) rfl (by kernel_rfl) (by kernel_rfl) (by kernel_rfl) (fun _ _ _ h => h) (Or.inl ⟨by rfl, ?tky5_23⟩) (by assumption) ?tkr5_23; case tky5_23 => (intro V hV; (try dsimp only at hV); go_simp; (try with_reducible rfl)); try simp only [Act.put, List.setIfInBounds_toArray, List.set_cons_zero, List.set_cons_succ])
              (refine wpAnyH_take (i := 6) (v := ?tkv6_24) rfl (by kernel_rfl) (by kernel_rfl) (by kernel_rfl) (fun _ _ _ h => h) (Or.inl ⟨by rfl, ?tky6_24⟩) (by assumption) ?tkr6_24; case tky6_24 => (intro V hV; (try dsimp only at hV); go_simp; (try with_reducible rfl)); try simp only [Act.put, List.setIfInBounds_toArray, List.set_cons_zero, List.set_cons_succ])
              (refine wpAnyH_take (i := 7) (v := ?tkv7_25) rfl (by kernel_rfl) (by kernel_rfl) (by kernel_rfl) (fun _ _ _ h => h) (Or.inl ⟨by rfl, ?tky7_25⟩) (by assumption) ?tkr7_25; case tky7_25 => (intro V hV; (try dsimp only at hV); go_simp; (try with_reducible rfl)); try simp only [Act.put, List.setIfInBounds_toArray, List.set_cons_zero, List.set_cons_succ])
              (refine wpAnyH_ready (rs := [0]) (by kernel_rfl) (by simp) ?_; refine AllReadyH.cons rfl (fun K hK => ?_) AllReadyH.nil; (try go_simp); (go_at_call 18; (with_reducible refine (rnames_any _).mono ?_); rintro e w2 ⟨rfl, rfl⟩); refine hK.out _ _ (by trivial) (fun hHeld => ?_); clear hK K; try simp only [Act.put, List.setIfInBounds_toArray, List.set_cons_zero, List.set_cons_succ])
              (refine wpAnyH_ready (rs := [2]) (by kernel_rfl) (by simp) ?_; refine AllReadyH.cons rfl (fun K hK => ?_) AllReadyH.nil; (try go_simp); refine hK.out _ _ (by trivial) (fun hHeld => ?_); clear hK K; try simp only [Act.put, List.setIfInBounds_toArray, List.set_cons_zero, List.set_cons_succ])
              (refine wpAnyH_ready (rs := [3]) (by kernel_rfl) (by simp) ?_; refine AllReadyH.cons rfl (fun K hK => ?_) AllReadyH.nil; (try go_simp); refine hK.out _ _ (by trivial) (fun hHeld => ?_); clear hK K; try simp only [Act.put, List.setIfInBounds_toArray, List.set_cons_zero, List.set_cons_succ])
              (refine wpAnyH_ready (rs := [8]) (by kernel_rfl) (by simp) ?_; refine AllReadyH.cons rfl (fun K hK => ?_) AllReadyH.nil; (try go_simp); refine hK.out _ _ (by trivial) (fun hHeld => ?_); clear hK K; try simp only [Act.put, List.setIfInBounds_toArray, List.set_cons_zero, List.set_cons_succ])
              refine wpAnyH_done (by kernel_rfl) ?_ _
              go_wp2
              go_roundw
              case rel => exact ⟨j + 1, by omega, by go_num, by rw [HV.out, if_pos HB.out], (by have := hI.size; go_grown)⟩
              case measure => simp [intOf]; omega
            · rw [decide_eq_false hb] at hct
              have HB := Lib.hid hb
              clear hb
              go_wp2
              refine wp_region_held_drew (S := fun _ => True) (by kernel_rfl) trivial (fun hHeld => ?_)
              (refine wpAnyH_take (i := 1) (v := ?tkv1_26) rfl (by kernel_rfl) (by kernel_rfl) (by kernel_rfl) (fun _ _ _ h => h) (Or.inl ⟨by rfl, ?tky1_26⟩) (by assumption) ?tkr1_26; case tky1_26 => (intro V hV; (try dsimp only at hV); go_simp; (try with_reducible rfl)); try simp only [Act.put, List.setIfInBounds_toArray, List.set_cons_zero, List.set_cons_succ])
              (refine wpAnyH_take (i := 4) (v := ?tkv4_27) rfl (by kernel_rfl) (by kernel_rfl) (by kernel_rfl) (fun _ _ _ h => h) (Or.inl ⟨by rfl, ?tky4_27⟩) (by assumption) ?tkr4_27; case tky4_27 => (intro V hV; (try dsimp only at hV); go_simp; (try with_reducible rfl)); try simp only [Act.put, List.setIfInBounds_toArray, List.set_cons_zero, List.set_cons_succ])
              (refine wpAnyH_take (i := 5) (v := ?tkv5_28) rfl (by kernel_rfl) (by kernel_rfl) (by kernel_rfl) (fun _ _ _ h => h) (Or.inl ⟨by rfl, ?tky5_28⟩) (by assumption) ?tkr5_28; case tky5_28 => (intro V hV; (try dsimp only at hV); go_simp; (try with_reducible rfl)); try simp only [Act.put, List.setIfInBounds_toArray, List.set_cons_zero, List.set_cons_succ])
              (refine wpAnyH_take (i := 6) (v := ?tkv6_29) rfl (by kernel_rfl) (by kernel_rfl) (by kernel_rfl) (fun _ _ _ h => h) (Or.inl ⟨by rfl, ?tky6_29⟩) (by assumption) ?tkr6_29; case tky6_29 => (intro V hV; (try dsimp only at hV); go_simp; (try with_reducible rfl)); try simp only [Act.put, List.setIfInBounds_toArray, List.set_cons_zero, List.set_cons_succ])
              (refine wpAnyH_take (i := 7) (v := ?tkv7_30) rfl (by kernel_rfl) (by kernel_rfl) (by kernel_rfl) (fun _ _ _ h => h) (Or.inl ⟨by rfl, ?tky7_30⟩) (by assumption) ?tkr7_30; case tky7_30 => (intro V hV; (try dsimp only at hV); go_simp; (try with_reducible rfl)); try simp only [Act.put, List.setIfInBounds_toArray, List.set_cons_zero, List.set_cons_succ])
              (refine wpAnyH_ready (rs := [0]) (by kernel_rfl) (by simp) ?_; refine AllReadyH.cons rfl (fun K hK => ?_) AllReadyH.nil; (try go_simp); (go_at_call 18; (with_reducible refine (rnames_any _).mono ?_); rintro e w2 ⟨rfl, rfl⟩); refine hK.out _ _ (by trivial) (fun hHeld => ?_); clear hK K; try simp only [Act.put, List.setIfInBounds_toArray, List.set_cons_zero, List.set_cons_succ])
              (refine wpAnyH_ready (rs := [2]) (by kernel_rfl) (by simp) ?_; refine AllReadyH.cons rfl (fun K hK => ?_) AllReadyH.nil; (try go_simp); refine hK.out _ _ (by trivial) (fun hHeld => ?_); clear hK K; try simp only [Act.put, List.setIfInBounds_toArray, List.set_cons_zero, List.set_cons_succ])
              (refine wpAnyH_ready (rs := [3]) (by kernel_rfl) (by simp) ?_; refine AllReadyH.cons rfl (fun K hK => ?_) AllReadyH.nil; (try go_simp); refine hK.out _ _ (by trivial) (fun hHeld => ?_); clear hK K; try simp only [Act.put, List.setIfInBounds_toArray, List.set_cons_zero, List.set_cons_succ])
              (refine wpAnyH_ready (rs := [8]) (by kernel_rfl) (by simp) ?_; refine AllReadyH.cons rfl (fun K hK => ?_) AllReadyH.nil; (try go_simp); refine hK.out _ _ (by trivial) (fun hHeld => ?_); clear hK K; try simp only [Act.put, List.setIfInBounds_toArray, List.set_cons_zero, List.set_cons_succ])
              refine wpAnyH_done (by kernel_rfl) ?_ _
              go_wp2
              go_roundw
              case rel => exact ⟨j + 1, by omega, by go_num, by rw [HV.out, if_neg HB.out], (by have := hI.size; go_grown)⟩
              case measure => simp [intOf]; omega
          · obtain rfl : j = 13 := by omega
            rw [valR_end]
            cases hid : idxN 0 nmL p with
            | none =>
              have HF := Lib.hid (HRN.out hid)
              simp only [valR]
              clear hid
              go_wp2
              go_ret2
              rw [HF.out]
              exact ⟨rfl, hI⟩
            | some r =>
              have hr := idx_lt _ _ hid
              have HF := Lib.hid (HRS.out r hid)
              simp only [valR]
              have hrh := rhas_any m r hm8 (by omega)
              have hpw := wrap_pw r (by omega)
              have hpl := pow_lt r (by omega)
              have ho : bits .or .i64 ((m : Nat) : Int) ((pw r : Nat) : Int) = (((m ||| 2 ^ r : Nat)) : Int) := by
                rw [bits_or _ _ (by omega) (by unfold pw; omega)]; rfl
              have hlt2 : m ||| 2 ^ r < 8192 := Nat.or_lt_two_pow (n := 13) hm8 hpl
              obtain ⟨m2, hm2⟩ : ∃ m2, m2 = m ||| 2 ^ r := ⟨_, rfl⟩
              have HF2 := HF.out
              rw [← hm2] at ho hlt2 HF2
              have HN2 := Lib.hid HF2
              have hr0 : (0 : Int) ≤ (r : Int) := by omega
              have hr1 : (r : Int) ≤ 12 := by omega
              clear hm2 hid HF HF2 hpl
              cases tw
              · cases htb : m.testBit r
                all_goals
                  rw [htb] at hrh HN2
                  go_wp2_with (go_at_call 19; ((with_reducible refine (hrh _).mono ?_); rintro e w1 ⟨rfl, rfl⟩))
                  go_roundw
                  case rel => exact ⟨k + 1, k + 1, m2, _, by go_num, by go_num, rfl, rfl, hlt2, by omega, by omega, fun h => by omega, fun _ => by simpa using HN2.out, hI⟩
                  case measure => simp [intOf]; omega
              · go_wp2
                go_roundw
                case rel => exact ⟨k + 1, k + 1, m2, true, by go_num, by go_num, rfl, rfl, hlt2, by omega, by omega, fun h => by omega, fun _ => by simpa using HN2.out, hI⟩
                case measure => simp [intOf]; omega
      · obtain rfl : k = s.size + 1 := by omega
        have hfin := HR2.out rfl
        have HF := Lib.hid hfin
        clear hfin
        cases tw
        all_goals
          go_wp2
          go_ret2
          rw [HF.out]
          exact ⟨rfl, hL⟩
end Go.Proofs.YtknnpgaabejjlaaDoor.Al
