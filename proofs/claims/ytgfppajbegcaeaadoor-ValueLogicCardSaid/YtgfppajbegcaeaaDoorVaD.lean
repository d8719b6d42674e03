/-
  The walks of Order of lists and of the reference's (layer 33).
-/
import Derived.Test.YtgfppajbegcaeaaDoorVaC
import Derived.IntWalk
set_option linter.unusedSimpArgs false
set_option linter.unusedVariables false
namespace Go.Proofs.YtgfppajbegcaeaaDoor.Va
open Go.RowKit Go.ChangeShapes Go.WideShapes Go.Proofs.YtgfppajbegcaeaaDoor.Sl


set_option maxRecDepth 20000 in
theorem cmpf_any (l1 l2 : List V3) (a b : Value) (w : World) (hl : l1.length ≤ 2000000) (hl2 : l2.length ≤ 2000000) (ha : Vs w a l1) (hb : Vs w b l2) :
    Calls Tryd.prog 45 #[a, b, .func (.func 46) #[] #[]] w fun e w' => e = .returned (.int .i64 (ordL l1 l2)) ∧ Below w.heap.size w w' := by
  obtain ⟨bd, bcap, rfl⟩ := hb.form
  obtain ⟨m, hm⟩ : ∃ m, m = l2.length := ⟨_, rfl⟩
  have HM := Lib.hid hm
  have HB2 := Lib.hid hb
  by_cases h0 : l1.length = 0
  · have e1 : l1 = [] := List.length_eq_zero_iff.1 h0
    subst e1
    obtain ⟨ad, cap, rfl⟩ := ha.form
    have he := ordL_end [] l2 0 (Nat.le_refl _)
    rw [List.drop_zero, List.drop_zero, ← hm] at he
    rw [he, ← hm]
    rw [← hm] at hl2
    clear ha hb hm he h0 HB2
    show Calls Tryd.prog 45 #[.slice ad 0 cap, _, .func (.func 46) #[] #[]] w _
    by_cases h2 : 0 < m
    · rw [if_pos h2]
      go_enter Tryd.func45, Tryd.ntmps45
      go_wp2
      refine wp_loop_rounds 1 ?_
      rw [rounds_succ]
      go_wp2
      go_ret
      exact ⟨rfl, Below.refl _ _⟩
    · rw [if_neg h2]
      go_enter Tryd.func45, Tryd.ntmps45
      go_wp2
      refine wp_loop_rounds 1 ?_
      rw [rounds_succ]
      go_wp2
      go_ret
      exact ⟨rfl, Below.refl _ _⟩
  · obtain ⟨g, off, cap, rfl, hc⟩ := ha.open h0
    obtain ⟨n, hn⟩ : ∃ n, n = l1.length := ⟨_, rfl⟩
    obtain ⟨Z, hZ⟩ : ∃ Z, ordL l1 l2 = Z := ⟨_, rfl⟩
    have HN := Lib.hid hn
    have HZ := Lib.hid hZ
    have HC := Lib.hid hc
    rw [← hn] at hl h0 ⊢
    rw [← hm] at hl2 ⊢
    rw [hZ]
    clear hc ha hb hn hm hZ
    go_enter Tryd.func45, Tryd.ntmps45
    go_wp2
    go_loopw [13] (fun i wr => ∃ k : Nat, k ≤ n ∧ i = .int .i64 k ∧ Hid (ordL (l1.drop k) (l2.drop k) = Z) ∧ Below w.heap.size w wr) (fun i _ => n - (intOf i).toNat)
    case atStart => exact ⟨0, Nat.zero_le _, rfl, Lib.hid HZ.out, Below.refl _ _⟩
    case round =>
      obtain ⟨k, hk, rfl, HI, hL⟩ := hrel
      by_cases hlt : k < n
      · obtain ⟨⟨a, b, t⟩, ht⟩ : ∃ t, l1[k]? = some t := ⟨_, List.getElem?_eq_getElem (by rw [← HN.out]; exact hlt)⟩
        obtain ⟨c0, c1, c2⟩ := vs_get HC.out ht
        have d0 := cell_kept c0 hL
        have d1 := cell_kept c1 hL
        have d2 := cell_kept c2 hL
        have k0 : (0 : Int) ≤ (k : Int) := by omega
        have k1 : (k : Int) < (n : Int) := by omega
        clear c0 c1 c2
        by_cases hm2 : k < m
        · have h20 : ¬ l2.length = 0 := by rw [← HM.out]; omega
          obtain ⟨g2, off2, cap2, hsl, hc2⟩ := HB2.out.open h20
          simp only [Value.slice.injEq] at hsl
          obtain ⟨rfl, _, rfl⟩ := hsl
          obtain ⟨⟨a2, b2, t2⟩, ht2⟩ : ∃ t, l2[k]? = some t := ⟨_, List.getElem?_eq_getElem (by rw [← HM.out]; exact hm2)⟩
          obtain ⟨x0, x1, x2⟩ := vs_get hc2 ht2
          have y0 := cell_kept x0 hL
          have y1 := cell_kept x1 hL
          have y2 := cell_kept x2 hL
          have z0 := fun ob => cell_alloc y0 ob
          have z1 := fun ob => cell_alloc y1 ob
          have z2 := fun ob => cell_alloc y2 ob
          have hsz := hL.size
          have hst := ordL_step l1 l2 k _ _ ht ht2
          rw [HI.out] at hst
          have HB := fun W => order_any (a, b, t) (a2, b2, t2) W
          generalize ordV (a, b, t) (a2, b2, t2) = z at HB hst
          have HS := Lib.hid hst
          have k2 : (k : Int) < (m : Int) := by omega
          clear ht ht2 hst x0 x1 x2 hc2
          by_cases hz : z = 0
          · have HS2 : Hid (ordL (l1.drop (k + 1)) (l2.drop (k + 1)) = Z) := Lib.hid (by have := HS.out; rw [if_pos hz] at this; exact this.symm)
            go_wp2_with (go_at_call 46; (with_reducible refine (HB _).mono ?_); rintro e w1 ⟨rfl, hb⟩; have hL2 := bstep (by first | exact hL | exact (hL.alloc (by have := hL.size; simp; omega) _).alloc (by have := hL.size; simp; omega) _) hb; clear hb)
            go_roundw
            case rel => exact ⟨k + 1, by omega, by go_num, HS2, by go_grown⟩
            case measure => simp [intOf]; omega
          · have HS2 : Hid (Z = z) := Lib.hid (by have := HS.out; rw [if_neg hz] at this; exact this)
            go_wp2_with (go_at_call 46; (with_reducible refine (HB _).mono ?_); rintro e w1 ⟨rfl, hb⟩; have hL2 := bstep (by first | exact hL | exact (hL.alloc (by have := hL.size; simp; omega) _).alloc (by have := hL.size; simp; omega) _) hb; clear hb)
            go_ret
            exact ⟨by rw [HS2.out]; rfl, by go_grown⟩
        · have HS2 : Hid (Z = 1) := Lib.hid (by rw [← HI.out]; exact ordL_short l1 l2 k _ ht (by rw [← HM.out]; omega))
          clear ht
          have hsz := hL.size
          go_wp2
          go_ret
          exact ⟨by rw [HS2.out]; rfl, by go_grown⟩
      · have he := ordL_end l1 l2 k (by rw [← HN.out]; omega)
        rw [HI.out, ← HM.out] at he
        obtain rfl : k = n := by omega
        have HS := Lib.hid he
        clear he
        by_cases h2 : k < m
        · go_wp2
          go_ret
          exact ⟨by rw [HS.out, if_pos h2]; rfl, hL⟩
        · go_wp2
          go_ret
          exact ⟨by rw [HS.out, if_neg h2]; rfl, hL⟩
/-- The order of lists, 0 where one is not valid. -/
def cmpLs (l1 l2 : List V3) : Int := if allV l1 && allV l2 then ordL l1 l2 else 0
theorem order_lists (l1 l2 : List V3) (a b : Value) (w : World) (hl : l1.length ≤ 2000000) (hl2 : l2.length ≤ 2000000) (ha : Vs w a l1) (hb : Vs w b l2) :
    Calls Tryd.prog 22 #[a, b] w fun e w' => e = .returned (.int .i64 (cmpLs l1 l2)) ∧ Below w.heap.size w w' := by
  unfold cmpLs
  have HA := fun W h => all_any l1 a W hl h
  have HB := fun W h => all_any l2 b W hl2 h
  have HO := fun W h h2 => cmpf_any l1 l2 a b W hl hl2 h h2
  generalize allV l1 = x at HA ⊢
  generalize allV l2 = y at HB ⊢
  generalize ordL l1 l2 = z at HO ⊢
  cases x
  · go_enter Tryd.func22, Tryd.ntmps22
    go_wp2_with (go_at_call 40; (with_reducible refine (HA _ ha).mono ?_); rintro e w1 ⟨rfl, hL⟩)
    go_ret
    exact ⟨rfl, (by have hB := bstep (w := w) (by go_grown) hL; have hs := hB.size; go_grown)⟩
  · cases y
    · go_enter Tryd.func22, Tryd.ntmps22
      go_wp2_with (first | (go_at_call 40; (with_reducible refine (HA _ ha).mono ?_); rintro e w1 ⟨rfl, hL⟩) | (go_at_call 40; (with_reducible refine (HB _ (hb.below hL)).mono ?_); rintro e w1 ⟨rfl, hb'⟩; replace hL := bstep hL hb'; clear hb'))
      go_ret
      exact ⟨rfl, (by have hB := bstep (w := w) (by go_grown) hL; have hs := hB.size; go_grown)⟩
    · go_enter Tryd.func22, Tryd.ntmps22
      go_wp2_with (first | (go_at_call 40; (with_reducible refine (HA _ ha).mono ?_); rintro e w1 ⟨rfl, hL⟩) | (go_at_call 40; (with_reducible refine (HB _ (hb.below hL)).mono ?_); rintro e w1 ⟨rfl, hb'⟩; replace hL := bstep hL hb'; clear hb') | (go_at_call 45; (with_reducible refine (HO _ (ha.below hL) (hb.below hL)).mono ?_); rintro e w1 ⟨rfl, hb'⟩; replace hL := bstep hL hb'; clear hb'))
      go_ret
      exact ⟨rfl, (by have hB := bstep (w := w) (by go_grown) hL; have hs := hB.size; go_grown)⟩

set_option maxRecDepth 20000 in
theorem rorder_any (l1 l2 : List V3) (a b : Value) (w : World) (hl : l1.length ≤ 2000000) (hl2 : l2.length ≤ 2000000) (hs1 : SzL l1) (hs2 : SzL l2) (ha : Vs w a l1) (hb : Vs w b l2) :
    Calls Tryd.prog 36 #[a, b] w fun e w' => e = .returned (.int .i64 (ordL l1 l2)) ∧ Below w.heap.size w w' := by
  replace hs1 := Lib.hid hs1
  replace hs2 := Lib.hid hs2
  obtain ⟨ad, acap, rfl⟩ := ha.form
  obtain ⟨bd, bcap, rfl⟩ := hb.form
  obtain ⟨n, hn⟩ : ∃ n, n = l1.length := ⟨_, rfl⟩
  obtain ⟨m, hm⟩ : ∃ m, m = l2.length := ⟨_, rfl⟩
  obtain ⟨Z, hZ⟩ : ∃ Z, ordL l1 l2 = Z := ⟨_, rfl⟩
  have HN := Lib.hid hn
  have HM := Lib.hid hm
  have HZ := Lib.hid hZ
  have HA2 := Lib.hid ha
  have HB2 := Lib.hid hb
  rw [← hn] at hl ⊢
  rw [← hm] at hl2 ⊢
  rw [hZ]
  clear ha hb hn hm hZ
  go_enter Tryd.func36, Tryd.ntmps36
  go_wp2
  go_loopw [5] (fun i wr => ∃ k : Nat, k ≤ n ∧ k ≤ m ∧ i = .int .i64 k ∧ Hid (ordL (l1.drop k) (l2.drop k) = Z) ∧ Below w.heap.size w wr) (fun i _ => n - (intOf i).toNat)
  case atStart => exact ⟨0, Nat.zero_le _, Nat.zero_le _, rfl, Lib.hid HZ.out, Below.refl _ _⟩
  case round =>
    obtain ⟨k, hk, hk2, rfl, HI, hL⟩ := hrel
    by_cases hlt : k < n
    · by_cases hm2 : k < m
      · have h10 : ¬ l1.length = 0 := by rw [← HN.out]; omega
        have h20 : ¬ l2.length = 0 := by rw [← HM.out]; omega
        obtain ⟨g, off, cap, hsl, hc⟩ := HA2.out.open h10
        simp only [Value.slice.injEq] at hsl
        obtain ⟨rfl, _, rfl⟩ := hsl
        obtain ⟨g2, off2, cap2, hsl, hc2⟩ := HB2.out.open h20
        simp only [Value.slice.injEq] at hsl
        obtain ⟨rfl, _, rfl⟩ := hsl
        obtain ⟨⟨a, b, t⟩, ht⟩ : ∃ t, l1[k]? = some t := ⟨_, List.getElem?_eq_getElem (by rw [← HN.out]; exact hlt)⟩
        obtain ⟨⟨a2, b2, t2⟩, ht2⟩ : ∃ t, l2[k]? = some t := ⟨_, List.getElem?_eq_getElem (by rw [← HM.out]; exact hm2)⟩
        obtain ⟨c0, c1, c2⟩ := vs_get hc ht
        have d0 := cell_kept c0 hL
        have d1 := cell_kept c1 hL
        have d2 := cell_kept c2 hL
        obtain ⟨x0, x1, x2⟩ := vs_get hc2 ht2
        have y0 := cell_kept x0 hL
        have y1 := cell_kept x1 hL
        have y2 := cell_kept x2 hL
        have hst := ordL_step l1 l2 k _ _ ht ht2
        rw [HI.out] at hst
        have HB := fun W => rcompare_any (a, b, t) (a2, b2, t2) W (hs1.out _ (List.mem_of_getElem? ht)) (hs2.out _ (List.mem_of_getElem? ht2))
        generalize ordV (a, b, t) (a2, b2, t2) = z at HB hst
        have HS := Lib.hid hst
        have k0 : (0 : Int) ≤ (k : Int) := by omega
        have k1 : (k : Int) < (n : Int) := by omega
        have k2 : (k : Int) < (m : Int) := by omega
        clear ht ht2 hst c0 c1 c2 x0 x1 x2 hc hc2
        by_cases hz : z = 0
        · have HS2 : Hid (ordL (l1.drop (k + 1)) (l2.drop (k + 1)) = Z) := Lib.hid (by have := HS.out; rw [if_pos hz] at this; exact this.symm)
          go_wp2
          refine wp_region_still_tail 8 (by kernel_rfl) (by kernel_rfl) ?_
          simp only [List.take_succ_cons, List.take_zero, List.drop_succ_cons, List.drop_zero]
          change wpStill _ _ (World.drew _) _ _ _
          repeat still_step
          refine wpStill_nil ?_
          change wpList _ _ _ _ _ (World.drew _)
          go_wp2_with (go_at_call 35; (with_reducible refine (HB _).mono ?_); rintro e w1 ⟨rfl, hb⟩; have hL2 := bstep (bdrew hL) hb; clear hb)
          go_roundw
          case rel => exact ⟨k + 1, by omega, by omega, by go_num, HS2, by go_grown⟩
          case measure => simp [intOf]; omega
        · have HS2 : Hid (Z = z) := Lib.hid (by have := HS.out; rw [if_neg hz] at this; exact this)
          go_wp2
          refine wp_region_still_tail 8 (by kernel_rfl) (by kernel_rfl) ?_
          simp only [List.take_succ_cons, List.take_zero, List.drop_succ_cons, List.drop_zero]
          change wpStill _ _ (World.drew _) _ _ _
          repeat still_step
          refine wpStill_nil ?_
          change wpList _ _ _ _ _ (World.drew _)
          go_wp2_with (go_at_call 35; (with_reducible refine (HB _).mono ?_); rintro e w1 ⟨rfl, hb⟩; have hL2 := bstep (bdrew hL) hb; clear hb)
          go_ret
          exact ⟨by rw [HS2.out]; rfl, by go_grown⟩
      · obtain ⟨x, hx⟩ : ∃ t, l1[k]? = some t := ⟨_, List.getElem?_eq_getElem (by rw [← HN.out]; exact hlt)⟩
        have HS2 : Hid (Z = 1) := Lib.hid (by rw [← HI.out]; exact ordL_short l1 l2 k _ hx (by rw [← HM.out]; omega))
        obtain rfl : k = m := by omega
        have hs1 : cmpI (n : Int) (k : Int) = 1 := by rw [cmpI_is, if_neg (by omega), if_pos (by omega)]
        have HG := fun W => sign_any (n : Int) (k : Int) W
        rw [hs1] at HG
        clear hx hs1
        go_wp2_with (go_at_call 56; (with_reducible refine (HG _).mono ?_); rintro e w1 ⟨rfl, rfl⟩)
        go_ret
        exact ⟨by rw [HS2.out]; rfl, by go_grown⟩
    · have he := ordL_end l1 l2 k (by rw [← HN.out]; omega)
      rw [HI.out, ← HM.out] at he
      obtain rfl : k = n := by omega
      have HS := Lib.hid he
      clear he
      have HG := fun W => sign_any (k : Int) (m : Int) W
      have hs1 : cmpI (k : Int) (m : Int) = if k < m then -1 else 0 := by
        rw [cmpI_is]
        by_cases h2 : k < m
        · rw [if_pos (by omega), if_pos h2]
        · rw [if_neg (by omega), if_neg (by omega), if_neg h2]
      rw [hs1] at HG
      clear hs1
      by_cases h2 : k < m
      · rw [if_pos h2] at HG
        go_wp2_with (go_at_call 56; (with_reducible refine (HG _).mono ?_); rintro e w1 ⟨rfl, rfl⟩)
        go_ret
        exact ⟨by rw [HS.out, if_pos h2]; rfl, by go_grown⟩
      · rw [if_neg h2] at HG
        go_wp2_with (go_at_call 56; (with_reducible refine (HG _).mono ?_); rintro e w1 ⟨rfl, rfl⟩)
        go_ret
        exact ⟨by rw [HS.out, if_neg h2]; rfl, by go_grown⟩
end Go.Proofs.YtgfppajbegcaeaaDoor.Va
