/-
  Networks: the reference's Holds; the law's matrix (layer 46). Written by gen_nxo.py.
-/
import Derived.Test.YtoadihclmnjjnaaNxN
import Derived.Test.YtoadihclmnjjnaaIvO
set_option linter.unusedSimpArgs false
set_option linter.unusedVariables false
set_option maxRecDepth 100000
namespace Go.Proofs.Ytoadihclmnjjnaa.Nw
open Go Go.RowKit Go.ChangeShapes Go.WideShapes Go.Proofs.Ytoadihclmnjjnaa.Sl Go.Proofs.Ytoadihclmnjjnaa.Al Go.Lib
open Go.Proofs.Ytoadihclmnjjnaa.Iv (validB ofZ)

theorem bit_zero (m k : Nat) (hm : m < 2 ^ 63) : (bits .and .i64 ((m : Int) / 2 ^ k) 1 == 0) = !m.testBit k := by
  have h1 : ((m : Int) / 2 ^ k) = ((m / 2 ^ k : Nat) : Int) := by simp
  have h2 := Bt.bits_and (m / 2 ^ k) 1 (Nat.lt_of_le_of_lt (Nat.div_le_self _ _) hm) (by omega)
  rw [h1, show (1 : Int) = ((1 : Nat) : Int) from rfl, h2, Nat.testBit, Nat.shiftRight_eq_div_pow, Nat.and_comm 1]
  rcases Nat.mod_two_eq_zero_or_one (m / 2 ^ k) with h | h
  · simp [Nat.and_one_is_mod, h]
  · simp [Nat.and_one_is_mod, h]
theorem any_take {α : Type} (p : α → Bool) (l : List α) (k : Nat) (x : α) (h : l[k]? = some x) : (l.take (k + 1)).any p = ((l.take k).any p || p x) := by
  rw [List.take_add_one, h, List.any_append]; simp
theorem any_bad {α : Type} {p : α → Bool} {l : List α} {k : Nat} {x : α} (h : l[k]? = some x) (hx : p x = true) : l.any p = true := List.any_eq_true.2 ⟨x, List.mem_of_getElem? h, hx⟩
theorem valid_of {a : List (Int × Int)} (h : a.any badP = false) {k : Nat} {p : Int × Int} (hp : a[k]? = some p) : validB p.1 p.2 = true := by
  have := (List.any_eq_false.1 h) p (List.mem_of_getElem? hp)
  simpa [badP] using this
theorem set_nat {t : Int} (h : isSetB t = true) : ∃ s : Nat, t = (s : Int) ∧ s < 8192 := by
  have : 0 ≤ t ∧ t ≤ 8191 := by
    unfold isSetB at h
    simpa using h
  exact ⟨t.toNat, by omega, by omega⟩
set_option maxHeartbeats 8000000 in
theorem rholds_any (l : List Rl) (a : List (Int × Int)) (s v : Value) (w : World) (hs : Rs w s l) (ha : Ps w v a) : Calls Try.prog 30 #[s, v] w fun e w' => e = .returned (.bool (holdsN l a)) ∧ Below w.heap.size w w' := by
  obtain ⟨ad, c, rfl⟩ := ha.form
  obtain ⟨ad2, c2, rfl⟩ := hs.form
  obtain ⟨m, hm⟩ : ∃ m, m = a.length := ⟨_, rfl⟩
  obtain ⟨q, hq⟩ : ∃ q, q = l.length := ⟨_, rfl⟩
  have HM := Lib.hid hm
  have HQ := Lib.hid hq
  have HA := Lib.hid ha
  have HS := Lib.hid hs
  have hmx : (m : Int) ≤ 9223372036854775807 := by have := ha.2; omega
  have hqx : (q : Int) ≤ 9223372036854775807 := by have := hs.2; omega
  rw [← hm, ← hq]
  rw [← hm] at HA
  rw [← hq] at HS
  have HZB1 : Hid (a.any badP = true → holdsN l a = false) := Lib.hid (fun h => by unfold holdsN; rw [h]; rfl)
  have HZB2 : Hid (l.any (badH a) = true → holdsN l a = false) := Lib.hid (fun h => by unfold holdsN; rw [h]; simp)
  have HZT : Hid (a.any badP = false → l.any (badH a) = false → holdsN l a = true) := Lib.hid (fun h h2 => by unfold holdsN; rw [h, h2]; rfl)
  generalize holdsN l a = Z at *
  clear hs ha hm hq
  go_enter Try.func30, Try.ntmps30
  go_wp2
  go_loopw [5] (fun iv wr => ∃ k, k ≤ m ∧ iv = .int .i64 (k : Int) ∧ Hid ((a.take k).any badP = false) ∧ Below w.heap.size w wr) (fun iv _ => m - (RowKit.intOf iv).toNat)
  case atStart => exact ⟨0, Nat.zero_le _, rfl, Lib.hid rfl, Below.refl _ _⟩
  case round =>
    obtain ⟨k, hk, rfl, hall, hL⟩ := hrel
    by_cases hkm : k < m
    · obtain ⟨g, off, cp, e1, hcl⟩ := (HA.out.below hL).get (by rw [← HM.out]; omega)
      rw [← HM.out] at e1
      cases e1
      obtain ⟨⟨x0, x1⟩, ht⟩ : ∃ t, a[k]? = some t := ⟨_, List.getElem?_eq_getElem (by rw [← HM.out]; exact hkm)⟩
      obtain ⟨z0, z1⟩ := hcl k _ ht
      dsimp only at z0 z1
      have k0 : (0 : Int) ≤ (k : Int) := by omega
      have k1 : (k : Int) < (m : Int) := by omega
      have HT := Lib.hid ht
      have HV := fun W => Iv.rvalid_any x0 x1 W
      clear hcl ht
      cases hv : validB x0 x1
      · rw [hv] at HV
        have HB : Hid (Z = false) := Lib.hid (HZB1.out (any_bad HT.out (by simp [badP, hv])))
        clear hv
        go_wp2_with (go_at_call 65; (with_reducible refine (HV _).mono ?_); rintro e w1 ⟨rfl, hb⟩)
        go_ret
        exact ⟨by rw [HB.out]; rfl, bstep hL hb⟩
      · rw [hv] at HV
        have HNX : Hid ((a.take (k + 1)).any badP = false) := Lib.hid (by rw [any_take badP a k _ HT.out, hall.out]; simp [badP, hv])
        clear hv
        go_wp2_with (go_at_call 65; (with_reducible refine (HV _).mono ?_); rintro e w1 ⟨rfl, hb⟩)
        go_roundw
        case rel => exact ⟨k + 1, by omega, by go_num, HNX, bstep hL hb⟩
        case measure => simp [RowKit.intOf]; omega
    · obtain rfl : m = k := by omega
      have HALL : Hid (a.any badP = false) := Lib.hid (by have := hall.out; rwa [HM.out, List.take_length] at this)
      clear hall
      go_wp2
      go_loopw [6] (fun iv wr => ∃ k, k ≤ q ∧ iv = .int .i64 (k : Int) ∧ Hid ((l.take k).any (badH a) = false) ∧ Below w.heap.size w wr) (fun iv _ => q - (RowKit.intOf iv).toNat)
      case atStart => exact ⟨0, Nat.zero_le _, rfl, Lib.hid rfl, hL⟩
      case round =>
        clear hL
        obtain ⟨k, hk, rfl, hall, hL⟩ := hrel
        by_cases hkq : k < q
        · obtain ⟨gl, ol, cl, e2, hcr⟩ := (HS.out.below hL).get (by rw [← HQ.out]; omega)
          rw [← HQ.out] at e2
          cases e2
          obtain ⟨⟨i, j, t⟩, ht⟩ : ∃ t, l[k]? = some t := ⟨_, List.getElem?_eq_getElem (by rw [← HQ.out]; exact hkq)⟩
          obtain ⟨z0, z1, z2⟩ := hcr k _ ht
          dsimp only at z0 z1 z2
          have k0 : (0 : Int) ≤ (k : Int) := by omega
          have k1 : (k : Int) < (q : Int) := by omega
          have HT := Lib.hid ht
          have HBD : Hid (badH a ⟨i, j, t⟩ = true → Z = false) := Lib.hid (fun h => HZB2.out (any_bad HT.out h))
          have HGD : Hid (badH a ⟨i, j, t⟩ = false → (l.take (k + 1)).any (badH a) = false) := Lib.hid (fun h => by rw [any_take (badH a) l k _ HT.out, hall.out, h]; rfl)
          have HSET := fun W => rIsSet_any t W
          clear hcr ht
          by_cases h1 : i < 0
          · have g1 : decide (i < 0) = true := by simpa using h1
            have HB := Lib.hid (HBD.out (by unfold badH; simp [h1]))
            clear h1 HBD HGD
            go_upto_region 10 with fail
            obtain ⟨W, hW⟩ : ∃ W, W = wr.alloc (.cells #[.int .i64 i, .int .i64 j, .int .i64 t] 30) := ⟨_, rfl⟩
            obtain ⟨hbW, d0, d1, d2⟩ := new3 wr _ _ _ _ W hW
            rw [← hW]
            clear hW z0 z1 z2
            go_wp2
            go_ret
            exact ⟨by rw [HB.out]; rfl, bstep hL hbW⟩
          have g1 : decide (i < 0) = false := by simpa using h1
          by_cases h2 : (m : Int) ≤ i
          · have g2 : decide ((m : Int) ≤ i) = true := by simpa using h2
            have HB := Lib.hid (HBD.out (by have := HM.out; unfold badH; simp; omega))
            clear h1 h2 HBD HGD
            go_upto_region 10 with fail
            obtain ⟨W, hW⟩ : ∃ W, W = wr.alloc (.cells #[.int .i64 i, .int .i64 j, .int .i64 t] 30) := ⟨_, rfl⟩
            obtain ⟨hbW, d0, d1, d2⟩ := new3 wr _ _ _ _ W hW
            rw [← hW]
            clear hW z0 z1 z2
            go_wp2
            go_ret
            exact ⟨by rw [HB.out]; rfl, bstep hL hbW⟩
          have g2 : decide ((m : Int) ≤ i) = false := by simpa using h2
          by_cases h3 : j < 0
          · have g3 : decide (j < 0) = true := by simpa using h3
            have HB := Lib.hid (HBD.out (by unfold badH; simp [h3]))
            clear h1 h2 h3 HBD HGD
            go_upto_region 10 with fail
            obtain ⟨W, hW⟩ : ∃ W, W = wr.alloc (.cells #[.int .i64 i, .int .i64 j, .int .i64 t] 30) := ⟨_, rfl⟩
            obtain ⟨hbW, d0, d1, d2⟩ := new3 wr _ _ _ _ W hW
            rw [← hW]
            clear hW z0 z1 z2
            go_wp2
            go_ret
            exact ⟨by rw [HB.out]; rfl, bstep hL hbW⟩
          have g3 : decide (j < 0) = false := by simpa using h3
          by_cases h4 : (m : Int) ≤ j
          · have g4 : decide ((m : Int) ≤ j) = true := by simpa using h4
            have HB := Lib.hid (HBD.out (by have := HM.out; unfold badH; simp; omega))
            clear h1 h2 h3 h4 HBD HGD
            go_upto_region 10 with fail
            obtain ⟨W, hW⟩ : ∃ W, W = wr.alloc (.cells #[.int .i64 i, .int .i64 j, .int .i64 t] 30) := ⟨_, rfl⟩
            obtain ⟨hbW, d0, d1, d2⟩ := new3 wr _ _ _ _ W hW
            rw [← hW]
            clear hW z0 z1 z2
            go_wp2
            go_ret
            exact ⟨by rw [HB.out]; rfl, bstep hL hbW⟩
          have g4 : decide ((m : Int) ≤ j) = false := by simpa using h4
          obtain ⟨p, rfl⟩ := Int.eq_ofNat_of_zero_le (show 0 ≤ i by omega)
          obtain ⟨r, rfl⟩ := Int.eq_ofNat_of_zero_le (show 0 ≤ j by omega)
          have hp := atG_get (a := a) (i := (p : Int)) (by omega) (by have := HM.out; omega)
          have hr := atG_get (a := a) (i := (r : Int)) (by omega) (by have := HM.out; omega)
          have HBE : Hid (badH a ⟨(p : Int), (r : Int), t⟩ = !holdsB t (atG a (p : Int)).1 (atG a (p : Int)).2 (atG a (r : Int)).1 (atG a (r : Int)).2) := Lib.hid (by
            have e1 : ¬ (a.length : Int) ≤ (p : Int) := by have := HM.out; omega
            have e2 : ¬ (a.length : Int) ≤ (r : Int) := by have := HM.out; omega
            unfold badH
            dsimp only
            rw [decide_eq_false (show ¬ (p : Int) < 0 by omega), decide_eq_false e1, decide_eq_false (show ¬ (r : Int) < 0 by omega), decide_eq_false e2]
            rfl)
          rw [Int.toNat_natCast] at hp hr
          generalize atG a (p : Int) = P at *
          generalize atG a (r : Int) = Q at *
          obtain ⟨p0, p1⟩ := P
          obtain ⟨q0, q1⟩ := Q
          have v1 := valid_of HALL.out hp
          have v2 := valid_of HALL.out hr
          dsimp only at v1 v2
          have HHB : Hid (badH a ⟨(p : Int), (r : Int), t⟩ = !(isSetB t && t.toNat.testBit (ofZ p0 p1 q0 q1).toNat)) := Lib.hid (by
            rw [HBE.out]; unfold holdsB; dsimp only; rw [v1, v2]; simp)
          have i0 : (0 : Int) ≤ (p : Int) := by omega
          have j0 : (0 : Int) ≤ (r : Int) := by omega
          have i1 : (p : Int) < (m : Int) := by omega
          have j1 : (r : Int) < (m : Int) := by omega
          have g2b : decide (m ≤ p) = false := by simp; omega
          have g2c : ¬ m ≤ p := by omega
          have g4b : decide (m ≤ r) = false := by simp; omega
          have g4c : ¬ m ≤ r := by omega
          cases ht : isSetB t
          · rw [ht] at HSET
            have HB := Lib.hid (HBD.out (by rw [HHB.out, ht]; rfl))
            clear h1 h2 h3 h4 HBD HGD ht v1 v2 hp hr
            go_upto_region 10 with fail
            obtain ⟨W, hW⟩ : ∃ W, W = wr.alloc (.cells #[.int .i64 (p : Int), .int .i64 (r : Int), .int .i64 t] 30) := ⟨_, rfl⟩
            obtain ⟨hbW, d0, d1, d2⟩ := new3 wr _ _ _ _ W hW
            rw [← hW]
            clear hW z0 z1 z2
            go_wp2_with (go_at_call 56; (with_reducible refine (HSET _).mono ?_); rintro e w1 ⟨rfl, rfl⟩)
            go_ret
            exact ⟨by rw [HB.out]; rfl, bstep hL hbW⟩
          · rw [ht] at HSET
            obtain ⟨b1, b2⟩ := ofZ_bd p0 p1 q0 q1 v1 v2
            obtain ⟨rr, hrr⟩ := Int.eq_ofNat_of_zero_le b1
            have HOF := fun W => Iv.rof_any p0 p1 q0 q1 W
            have HH2 := HHB.out
            rw [ht, hrr, Int.toNat_natCast] at HH2
            rw [hrr] at HOF
            obtain ⟨sn, rfl, hsn⟩ := set_nat ht
            rw [Int.toNat_natCast] at HH2
            have hbt := bit_zero sn rr (by omega)
            obtain ⟨g, off, cp, e1, hcl⟩ := HA.out.get (by rw [← HM.out]; omega)
            rw [← HM.out] at e1
            cases e1
            obtain ⟨x0, x1⟩ := hcl _ _ hp
            obtain ⟨y0, y1⟩ := hcl _ _ hr
            have x0 := Go.Proofs.Ytoadihclmnjjnaa.Sl.cell_kept x0 hL
            have x1 := Go.Proofs.Ytoadihclmnjjnaa.Sl.cell_kept x1 hL
            have y0 := Go.Proofs.Ytoadihclmnjjnaa.Sl.cell_kept y0 hL
            have y1 := Go.Proofs.Ytoadihclmnjjnaa.Sl.cell_kept y1 hL
            have HBAD : Hid (sn.testBit rr = false → Z = false) := Lib.hid (fun h => HBD.out (by rw [HH2, h]; rfl))
            have HOK : Hid (sn.testBit rr = true → (l.take (k + 1)).any (badH a) = false) := Lib.hid (fun h => HGD.out (by rw [HH2, h]; rfl))
            have rr0 : (0 : Int) ≤ (rr : Int) := by omega
            have rr1 : (rr : Int) < 13 := by omega
            clear h1 h2 h3 h4 HBD HGD HHB HBE HH2 ht v1 v2 hp hr hcl b1 b2 hrr hsn
            go_upto_region 10 with fail
            obtain ⟨W, hW⟩ : ∃ W, W = wr.alloc (.cells #[.int .i64 (p : Int), .int .i64 (r : Int), .int .i64 (sn : Int)] 30) := ⟨_, rfl⟩
            obtain ⟨hbW, d0, d1, d2⟩ := new3 wr _ _ _ _ W hW
            rw [← hW]
            clear hW z0 z1 z2
            have x0 := Go.Proofs.Ytoadihclmnjjnaa.Sl.cell_kept x0 hbW
            have x1 := Go.Proofs.Ytoadihclmnjjnaa.Sl.cell_kept x1 hbW
            have y0 := Go.Proofs.Ytoadihclmnjjnaa.Sl.cell_kept y0 hbW
            have y1 := Go.Proofs.Ytoadihclmnjjnaa.Sl.cell_kept y1 hbW
            replace hL := bstep hL hbW
            clear hbW
            generalize wr.heap.size = NB at *
            go_upto_region 12 with (go_at_call 56; (with_reducible refine (HSET _).mono ?_); rintro e w1 ⟨rfl, rfl⟩)
            have z0 := cell_regrown d0
            have z1 := cell_regrown d1
            have z2 := cell_regrown d2
            have z5 := cell_regrown x0
            have z6 := cell_regrown x1
            have z7 := cell_regrown y0
            have z8 := cell_regrown y1
            clear d0 d1 d2 x0 x1 y0 y1
            refine wp_region_quiet_below (by kernel_rfl) (by kernel_rfl) ?_
            repeat (go_big_quiet_step (first | (go_at_call 66; with_reducible exact Calls.regrown_of (HOF _))))
            refine wpQuiet_nil ?_
            rintro w9 ⟨⟨dq, osq⟩, hw9⟩
            have hb9 := bstep hL (show Below W.heap.size W w9 by rw [hw9]; exact below_regrown _ dq osq)
            clear z0 z1 z2 z5 z6 z7 z8 hw9 hL
            cases hbit : sn.testBit rr
            · rw [hbit] at hbt
              have HB := Lib.hid (HBAD.out hbit)
              clear hbit
              go_wp2
              go_ret
              exact ⟨by rw [HB.out]; rfl, hb9⟩
            · rw [hbit] at hbt
              have HN := Lib.hid (HOK.out hbit)
              clear hbit
              go_wp2
              go_roundw
              case rel => exact ⟨k + 1, by omega, by go_num, HN, hb9⟩
              case measure => simp [RowKit.intOf]; omega
        · obtain rfl : q = k := by omega
          have HB : Hid (Z = true) := Lib.hid (HZT.out HALL.out (by have := hall.out; rwa [HQ.out, List.take_length] at this))
          go_wp2
          go_ret
          exact ⟨by rw [HB.out]; rfl, hL⟩
end Go.Proofs.Ytoadihclmnjjnaa.Nw
