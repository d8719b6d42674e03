/-
  The walk of the law NetworkHolds (layer 46). Written by gen_nxq.py.
-/
import Derived.Test.YtoadihclmnjjnaaNxP
import Derived.Test.YtoadihclmnjjnaaNwZ
set_option linter.unusedSimpArgs false
set_option linter.unusedVariables false
set_option maxRecDepth 100000
namespace Go.Proofs.Ytoadihclmnjjnaa.Nw
open Go Go.RowKit Go.ChangeShapes Go.WideShapes Go.Proofs.Ytoadihclmnjjnaa.Sl Go.Proofs.Ytoadihclmnjjnaa.Al Go.Lib
open Go.Proofs.Ytoadihclmnjjnaa.Iv (validB ofZ)

set_option maxHeartbeats 8000000 in
theorem networkHolds_walk (v : Value) (l : List Rl) (v1 : Value) (a : List (Int × Int)) (i j : Int) (w : World) (hs : Rs w v l) (hg : ∀ r ∈ l, FitR r) (ha : Ps w v1 a) (hga : ∀ p ∈ a, FitP p) (hwi : (Lit.int .i64 i).wf = true) (hwj : (Lit.int .i64 j).wf = true) :
    Calls Try.prog 7 #[v, v1, .int .i64 i, .int .i64 j] w fun e w' => e = .returned (.bool true) ∧ Below w.heap.size w w' := by
  obtain ⟨ad, c, rfl⟩ := hs.form
  obtain ⟨ad1, c1, rfl⟩ := ha.form
  obtain ⟨q, hq⟩ : ∃ q, q = l.length := ⟨_, rfl⟩
  obtain ⟨m, hm⟩ : ∃ m, m = a.length := ⟨_, rfl⟩
  obtain ⟨Z, hZ⟩ : ∃ Z, Z = holdsN l a := ⟨_, rfl⟩
  have HQ := Lib.hid hq
  have HM := Lib.hid hm
  have HZ := Lib.hid hZ
  rw [← hq] at hs ⊢
  rw [← hm] at ha ⊢
  have HG := fun W => great_any (m : Int) ad q c W
  have HNH := fun W (h : Below w.heap.size w W) => nholds_any l a _ _ W (hs.below h) (ha.below h)
  have HRH := fun W (h : Below w.heap.size w W) => rholds_any l a _ _ W (hs.below h) (ha.below h)
  rw [← hZ] at HNH HRH
  have HS := Lib.hid hs
  have HA := Lib.hid ha
  have hL := Below.refl w.heap.size w
  have hmx : (m : Int) ≤ 9223372036854775807 := by have := ha.2; omega
  have hqx : (q : Int) ≤ 9223372036854775807 := by have := hs.2; omega
  clear hs ha hg hga hq hm hZ hwi hwj
  go_enter Try.func7, Try.ntmps7
  cases hgl : grN (m : Int) q
  · rw [hgl] at HG
    clear hgl
    by_cases h5 : 5 < m
    · have g5 : decide ((5 : Int) < (m : Int)) = true := by simp; omega
      have g5b : decide (5 < m) = true := by simpa using h5
      clear HS HA
      go_wp2_with (first | (go_at_call 12; (with_reducible refine (awake_any _).mono ?_); rintro e w1 ⟨rfl, hb⟩; replace hL := bstep hL hb; clear hb) | (go_at_call 13; (with_reducible refine (HG _).mono ?_); rintro e w2 ⟨rfl, rfl⟩) | (go_at_call 33; (with_reducible refine (HNH _ hL).mono ?_); rintro e w3 ⟨rfl, hb⟩; replace hL := bstep hL hb; clear hb) | (go_at_call 30; (with_reducible refine (HRH _ hL).mono ?_); rintro e w4 ⟨rfl, hb⟩; replace hL := bstep hL hb; clear hb))
      go_ret
      exact ⟨rfl, hL⟩
    have g5 : decide ((5 : Int) < (m : Int)) = false := by simp; omega
    have g5b : decide (5 < m) = false := by simpa using h5
    have g5c : ¬ (5 : Int) < (m : Int) := by omega
    cases Z
    · have g6 := h5
      clear HS HA
      go_wp2_with (first | (go_at_call 12; (with_reducible refine (awake_any _).mono ?_); rintro e w1 ⟨rfl, hb⟩; replace hL := bstep hL hb; clear hb) | (go_at_call 13; (with_reducible refine (HG _).mono ?_); rintro e w2 ⟨rfl, rfl⟩) | (go_at_call 33; (with_reducible refine (HNH _ hL).mono ?_); rintro e w3 ⟨rfl, hb⟩; replace hL := bstep hL hb; clear hb) | (go_at_call 30; (with_reducible refine (HRH _ hL).mono ?_); rintro e w4 ⟨rfl, hb⟩; replace hL := bstep hL hb; clear hb))
      go_ret
      exact ⟨rfl, hL⟩
    by_cases h0 : m = 0
    · have g0 : ((m : Int) == 0) = true := by simp; omega
      have g0b : (m == 0) = true := by simpa using h0
      clear h0
      clear HS HA
      go_wp2_with (first | (go_at_call 12; (with_reducible refine (awake_any _).mono ?_); rintro e w1 ⟨rfl, hb⟩; replace hL := bstep hL hb; clear hb) | (go_at_call 13; (with_reducible refine (HG _).mono ?_); rintro e w2 ⟨rfl, rfl⟩) | (go_at_call 33; (with_reducible refine (HNH _ hL).mono ?_); rintro e w3 ⟨rfl, hb⟩; replace hL := bstep hL hb; clear hb) | (go_at_call 30; (with_reducible refine (HRH _ hL).mono ?_); rintro e w4 ⟨rfl, hb⟩; replace hL := bstep hL hb; clear hb))
      go_ret
      exact ⟨rfl, hL⟩
    have g0 : ((m : Int) == 0) = false := by simp; omega
    by_cases h1 : i < 0
    · have g1 : decide (i < 0) = true := by simpa using h1
      clear HS HA
      go_wp2_with (first | (go_at_call 12; (with_reducible refine (awake_any _).mono ?_); rintro e w1 ⟨rfl, hb⟩; replace hL := bstep hL hb; clear hb) | (go_at_call 13; (with_reducible refine (HG _).mono ?_); rintro e w2 ⟨rfl, rfl⟩) | (go_at_call 33; (with_reducible refine (HNH _ hL).mono ?_); rintro e w3 ⟨rfl, hb⟩; replace hL := bstep hL hb; clear hb) | (go_at_call 30; (with_reducible refine (HRH _ hL).mono ?_); rintro e w4 ⟨rfl, hb⟩; replace hL := bstep hL hb; clear hb))
      go_ret
      exact ⟨rfl, hL⟩
    have g1 : decide (i < 0) = false := by simpa using h1
    by_cases h2 : (m : Int) ≤ i
    · have g2 : decide ((m : Int) ≤ i) = true := by simpa using h2
      clear HS HA
      go_wp2_with (first | (go_at_call 12; (with_reducible refine (awake_any _).mono ?_); rintro e w1 ⟨rfl, hb⟩; replace hL := bstep hL hb; clear hb) | (go_at_call 13; (with_reducible refine (HG _).mono ?_); rintro e w2 ⟨rfl, rfl⟩) | (go_at_call 33; (with_reducible refine (HNH _ hL).mono ?_); rintro e w3 ⟨rfl, hb⟩; replace hL := bstep hL hb; clear hb) | (go_at_call 30; (with_reducible refine (HRH _ hL).mono ?_); rintro e w4 ⟨rfl, hb⟩; replace hL := bstep hL hb; clear hb))
      go_ret
      exact ⟨rfl, hL⟩
    have g2 : decide ((m : Int) ≤ i) = false := by simpa using h2
    by_cases h3 : j < 0
    · have g3 : decide (j < 0) = true := by simpa using h3
      clear HS HA
      go_wp2_with (first | (go_at_call 12; (with_reducible refine (awake_any _).mono ?_); rintro e w1 ⟨rfl, hb⟩; replace hL := bstep hL hb; clear hb) | (go_at_call 13; (with_reducible refine (HG _).mono ?_); rintro e w2 ⟨rfl, rfl⟩) | (go_at_call 33; (with_reducible refine (HNH _ hL).mono ?_); rintro e w3 ⟨rfl, hb⟩; replace hL := bstep hL hb; clear hb) | (go_at_call 30; (with_reducible refine (HRH _ hL).mono ?_); rintro e w4 ⟨rfl, hb⟩; replace hL := bstep hL hb; clear hb))
      go_ret
      exact ⟨rfl, hL⟩
    have g3 : decide (j < 0) = false := by simpa using h3
    by_cases h4 : (m : Int) ≤ j
    · have g4 : decide ((m : Int) ≤ j) = true := by simpa using h4
      clear HS HA
      go_wp2_with (first | (go_at_call 12; (with_reducible refine (awake_any _).mono ?_); rintro e w1 ⟨rfl, hb⟩; replace hL := bstep hL hb; clear hb) | (go_at_call 13; (with_reducible refine (HG _).mono ?_); rintro e w2 ⟨rfl, rfl⟩) | (go_at_call 33; (with_reducible refine (HNH _ hL).mono ?_); rintro e w3 ⟨rfl, hb⟩; replace hL := bstep hL hb; clear hb) | (go_at_call 30; (with_reducible refine (HRH _ hL).mono ?_); rintro e w4 ⟨rfl, hb⟩; replace hL := bstep hL hb; clear hb))
      go_ret
      exact ⟨rfl, hL⟩
    have g4 : decide ((m : Int) ≤ j) = false := by simpa using h4
    by_cases h12 : 12 < q
    · have g7 : decide ((12 : Int) < (q : Int)) = true := by simp; omega
      have g7b : decide (12 < q) = true := by simpa using h12
      have g7c : (12 : Int) < (q : Int) := by omega
      clear HS HA
      go_wp2_with (first | (go_at_call 12; (with_reducible refine (awake_any _).mono ?_); rintro e w1 ⟨rfl, hb⟩; replace hL := bstep hL hb; clear hb) | (go_at_call 13; (with_reducible refine (HG _).mono ?_); rintro e w2 ⟨rfl, rfl⟩) | (go_at_call 33; (with_reducible refine (HNH _ hL).mono ?_); rintro e w3 ⟨rfl, hb⟩; replace hL := bstep hL hb; clear hb) | (go_at_call 30; (with_reducible refine (HRH _ hL).mono ?_); rintro e w4 ⟨rfl, hb⟩; replace hL := bstep hL hb; clear hb))
      go_ret
      exact ⟨rfl, hL⟩
    have g7 : decide ((12 : Int) < (q : Int)) = false := by simp; omega
    have g7b : decide (12 < q) = false := by simpa using h12
    have g7c : ¬ (12 : Int) < (q : Int) := by omega
    obtain ⟨p, rfl⟩ := Int.eq_ofNat_of_zero_le (show 0 ≤ i by omega)
    obtain ⟨r, rfl⟩ := Int.eq_ofNat_of_zero_le (show 0 ≤ j by omega)
    have hp : p < m := by omega
    have hr : r < m := by omega
    have g2b : decide (m ≤ p) = false := by simp; omega
    have g2c : ¬ m ≤ p := by omega
    have g4b : decide (m ≤ r) = false := by simp; omega
    have g4c : ¬ m ≤ r := by omega
    obtain ⟨hh1, hh2⟩ := holds_parts HZ.out.symm
    have hv : vldN (m : Int) l = true := by rw [HM.out]; exact vld_rel hh2 (by have := HM.out; omega) (by have := HM.out; omega) (by have := HQ.out; omega)
    obtain ⟨m', hm', m0, m8, l200, hok⟩ := vld_ok hv
    obtain rfl : m = m' := by omega
    have HCO := fun W (h : Below w.heap.size w W) => close_ok m l _ W (HS.out.below h) hv
    have HIM := fun W (h : Below w.heap.size w W) => implied_ok m l p r _ W hp hr (HS.out.below h) hv
    have HALL := Lib.hid (fun (X : Mt) (ok : Bool) (hC : ClR m (matN l) X ok) => (show ok = true ∧ ∀ out, ImO m l p r 13 out → out ≠ 0 ∧ X p r &&& 2 ^ ofN a p r ≠ 0 ∧ out &&& 2 ^ ofN a p r ≠ 0 ∧ Sub out (X p r) by
      have e := HM.out
      rw [e] at hC hok hp hr ⊢
      obtain ⟨k1, k2⟩ := hold_all HZ.out.symm hC hok
      exact ⟨k1, fun out hI => k2 p r out hp hr hI⟩))
    have hpa : a[p]? = some (a.getD p (0, 0)) := by rw [List.getD_eq_getElem?_getD, List.getElem?_eq_getElem (by rw [← HM.out]; exact hp)]; rfl
    have hra : a[r]? = some (a.getD r (0, 0)) := by rw [List.getD_eq_getElem?_getD, List.getElem?_eq_getElem (by rw [← HM.out]; exact hr)]; rfl
    have hlt : ofN a p r < 13 := ofN_lt (allV_of hh1) (by rw [← HM.out]; exact hp) (by rw [← HM.out]; exact hr)
    have hof : ofZ (a.getD p (0, 0)).1 (a.getD p (0, 0)).2 (a.getD r (0, 0)).1 (a.getD r (0, 0)).2 = ((ofN a p r : Nat) : Int) := by
      have b := ofZ_bd _ _ _ _ (allV_of hh1 p (by rw [← HM.out]; exact hp)) (allV_of hh1 r (by rw [← HM.out]; exact hr))
      unfold ofN
      omega
    have HOF := fun W => Iv.of_any (a.getD p (0, 0)).1 (a.getD p (0, 0)).2 (a.getD r (0, 0)).1 (a.getD r (0, 0)).2 W
    rw [hof] at HOF
    generalize ofN a p r = t at *
    obtain ⟨g, off, cp, e1, hcl⟩ := HA.out.get (by rw [← HM.out]; exact h0)
    rw [← HM.out] at e1
    cases e1
    obtain ⟨x0, x1⟩ := hcl _ _ hpa
    obtain ⟨y0, y1⟩ := hcl _ _ hra
    generalize a.getD p (0, 0) = P at *
    generalize a.getD r (0, 0) = Q at *
    obtain ⟨p0, p1⟩ := P
    obtain ⟨q0, q1⟩ := Q
    dsimp only at x0 x1 y0 y1 HOF
    have HC4 := Lib.hid (show w.cell? _ = _ ∧ w.cell? _ = _ ∧ w.cell? _ = _ ∧ w.cell? _ = _ from ⟨x0, x1, y0, y1⟩)
    have HP := Lib.hid hp
    have HR := Lib.hid hr
    clear x0 x1 y0 y1 hcl hpa hra hof hok hv hh1 hh2 l200 h1 h2 h3 h4 h12 h0 hp hr
    go_upto_region 11 with (first | (go_at_call 12; (with_reducible refine (awake_any _).mono ?_); rintro e w1 ⟨rfl, hb⟩; replace hL := bstep hL hb; clear hb) | (go_at_call 13; (with_reducible refine (HG _).mono ?_); rintro e w2 ⟨rfl, rfl⟩) | (go_at_call 33; (with_reducible refine (HNH _ hL).mono ?_); rintro e w3 ⟨rfl, hb⟩; replace hL := bstep hL hb; clear hb) | (go_at_call 30; (with_reducible refine (HRH _ hL).mono ?_); rintro e w4 ⟨rfl, hb⟩; replace hL := bstep hL hb; clear hb))
    clear g0 g1 g2 g3 g4 g5 g5b g5c g7 g7b g7c g2b g2c g4b g4c HG HNH HRH
    go_upto_region 12 with (go_at_call 18; (with_reducible refine (HCO _ hL).mono ?_); rintro e w5 ⟨hb, X, ok, hC, hy, _⟩; obtain ⟨rfl, hI0⟩ := HALL.out X ok hC; obtain ⟨B, R, rfl, hX, _, _⟩ := hy rfl; have HI0 := Lib.hid hI0; have HBX := Lib.hid (show BdM m X from (show GI m (matN l) X from hC.1).bd (bd_matN m l)); replace hL := bstep hL hb; clear hy hb hC hI0)
    go_upto_region 13 with (go_at_call 26; (with_reducible refine (HIM _ hL).mono ?_); rintro e w6 ⟨out, hI, he, hb⟩; obtain ⟨k1, k2, k3, k4⟩ := HI0.out out hI; rw [if_neg k1] at he; subst he; replace hX := hX.below hb; replace hL := bstep hL hb; have K2 := Lib.hid k2; have K3 := Lib.hid k3; have K4 := Lib.hid k4; have HOL := Lib.hid (hI.lt (Nat.le_refl 13)); clear hI hb k1 k2 k3 k4)
    go_upto_region 15 with (go_at_call 34; (with_reducible refine (lmatrix_any m B m R X _ (by omega) hX).mono ?_); rintro e w7 ⟨rfl, hb⟩; replace hX := hX.below hb; replace hL := bstep hL hb; clear hb)
    have i0 : (0 : Int) ≤ (p : Int) := by omega
    have j0 : (0 : Int) ≤ (r : Int) := by omega
    have i1 : (p : Int) < (m : Int) := by have := HP.out; omega
    have j1 : (r : Int) < (m : Int) := by have := HR.out; omega
    have t0 : (0 : Int) ≤ (t : Int) := by omega
    have t1 : (t : Int) < 13 := by omega
    have hp1 := wrap_pw t (by omega)
    have z0 := cell_regrown (Go.Proofs.Ytoadihclmnjjnaa.Sl.cell_kept HC4.out.1 hL)
    have z1 := cell_regrown (Go.Proofs.Ytoadihclmnjjnaa.Sl.cell_kept HC4.out.2.1 hL)
    have z2 := cell_regrown (Go.Proofs.Ytoadihclmnjjnaa.Sl.cell_kept HC4.out.2.2.1 hL)
    have z3 := cell_regrown (Go.Proofs.Ytoadihclmnjjnaa.Sl.cell_kept HC4.out.2.2.2 hL)
    have HX := Lib.hid hX
    clear hX
    refine wp_region_quiet_below (by kernel_rfl) (by kernel_rfl) ?_
    repeat (go_big_quiet_step (first | (go_at_call 31; with_reducible exact Calls.regrown_of (HOF _))))
    refine wpQuiet_nil ?_
    rintro w9 ⟨⟨dq, osq⟩, hw9⟩
    have hb9 : Below w7.heap.size w7 w9 := by rw [hw9]; exact below_regrown _ dq osq
    have hX := HX.out.below hb9
    replace hL := bstep hL hb9
    clear z0 z1 z2 z3 hw9 hb9
    obtain ⟨ci, hci, d1⟩ := hX.cap HP.out
    have d2 := hX.cell HP.out HR.out
    have hbA : bits .and .i64 ((X p r : Nat) : Int) ((pw t : Nat) : Int) = ((X p r &&& 2 ^ t : Nat) : Int) := Bt.bits_and _ _ (by have := HBX.out p r HP.out HR.out; omega) (by have := pow_lt t (by omega); unfold pw; omega)
    have hbO : bits .and .i64 (out : Int) ((pw t : Nat) : Int) = ((out &&& 2 ^ t : Nat) : Int) := Bt.bits_and _ _ (by have := HOL.out; omega) (by have := pow_lt t (by omega); unfold pw; omega)
    have hbN : bits .andNot .i64 (out : Int) ((X p r : Nat) : Int) = 0 := bits_andN K4.out
    have n1 : (((X p r &&& 2 ^ t : Nat) : Int) == 0) = false := by have := K2.out; simp; omega
    have n2 : (((out &&& 2 ^ t : Nat) : Int) == 0) = false := by have := K3.out; simp; omega
    generalize ((X p r &&& 2 ^ t : Nat) : Int) = u1 at hbA n1
    generalize ((out &&& 2 ^ t : Nat) : Int) = u2 at hbO n2
    have n3 : (u1 != 0) = true := by unfold bne; rw [n1]; rfl
    have n4 : (u2 != 0) = true := by unfold bne; rw [n2]; rfl
    clear hX
    go_wp2
    go_ret
    exact ⟨rfl, hL⟩
  · rw [hgl] at HG
    clear hgl HS HA
    go_wp2_with (first | (go_at_call 12; (with_reducible refine (awake_any _).mono ?_); rintro e w1 ⟨rfl, hb⟩; replace hL := bstep hL hb; clear hb) | (go_at_call 13; (with_reducible refine (HG _).mono ?_); rintro e w2 ⟨rfl, rfl⟩) | (go_at_call 33; (with_reducible refine (HNH _ hL).mono ?_); rintro e w3 ⟨rfl, hb⟩; replace hL := bstep hL hb; clear hb) | (go_at_call 30; (with_reducible refine (HRH _ hL).mono ?_); rintro e w4 ⟨rfl, hb⟩; replace hL := bstep hL hb; clear hb))
    go_ret
    exact ⟨rfl, hL⟩
end Go.Proofs.Ytoadihclmnjjnaa.Nw
