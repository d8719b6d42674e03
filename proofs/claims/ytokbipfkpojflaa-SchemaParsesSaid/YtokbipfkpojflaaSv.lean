/-
  The walk of the reference's Valid (layer 34).
-/
import Derived.Test.YtokbipfkpojflaaSr
set_option linter.unusedSimpArgs false
set_option linter.unusedVariables false
namespace Go.Proofs.Ytokbipfkpojflaa.Sc
open Go Go.RowKit Go.ChangeShapes Go.WideShapes Go.Proofs.Ytokbipfkpojflaa.Sl Go.Proofs.Ytokbipfkpojflaa.Va Go.Lib

/-- What the reference's Valid says of the columns. -/
def rcolB (all : List Cl) (i : Nat) (c : Cl) : Bool := nmB c.1 && decide (idxC c.1 0 all = (i : Int)) && decide (1 ≤ c.2) && decide (c.2 ≤ 4)
def rcolG (all : List Cl) : Nat → List Cl → Bool
  | _, [] => true
  | i, c :: l => rcolB all i c && rcolG all (i + 1) l
theorem rcolG_step (all : List Cl) (l : List Cl) (i : Nat) (c : Cl) (h : l[i]? = some c) : rcolG all i (l.drop i) = (rcolB all i c && rcolG all (i + 1) (l.drop (i + 1))) := by
  have hk : i < l.length := (List.getElem?_eq_some_iff.1 h).1
  rw [List.drop_eq_getElem_cons hk, rcolG, (List.getElem?_eq_some_iff.1 h).2]
def rhdS (s : Sch) : Bool := nmB s.name && decide (1 ≤ s.cols.length) && decide (s.cols.length ≤ 8) && decide (1 ≤ s.key) && decide (s.key ≤ s.cols.length) && decide (s.frn.length ≤ 8)
def rvldS (s : Sch) : Bool := rhdS s && rcolG s.cols 0 s.cols && s.frn.all (rfrB s.cols)
theorem all_stp {α : Type} (p : α → Bool) (l : List α) (j : Nat) (x : α) (h : l[j]? = some x) : (l.drop j).all p = (p x && (l.drop (j + 1)).all p) := by
  have hk : j < l.length := (List.getElem?_eq_some_iff.1 h).1
  rw [List.drop_eq_getElem_cons hk, List.all_cons, (List.getElem?_eq_some_iff.1 h).2]
set_option maxRecDepth 20000 in
set_option maxHeartbeats 2000000 in
theorem rvalid_hd (sn : ByteArray) (key : Int) (a1 a2 : Option Addr) (n m c1 c2 : Nat) (w : World) (h : (nmB sn && decide (1 ≤ n) && decide (n ≤ 8) && decide (1 ≤ key) && decide (key ≤ (n : Int)) && decide (m ≤ 8)) = false) :
    Calls Try.prog 13 #[.agg #[.string sn, .slice a1 n c1, .int .i64 key, .slice a2 m c2]] w fun e w' => e = .returned (.bool false) ∧ Below w.heap.size w w' := by
  have HNM := fun W => rname_is sn W
  generalize nmB sn = nb at HNM h
  go_enter Try.func13, Try.ntmps13
  go_upto_region 1 with fail
  obtain ⟨W0, hW⟩ : ∃ W0, w.alloc (.cells #[.string sn, .slice a1 n c1, .int .i64 key, .slice a2 m c2] 28) = W0 := ⟨_, rfl⟩
  obtain ⟨hL, hlt, p0, p1, p2, p3⟩ := box4n hW
  rw [hW]
  clear hW
  cases nb
  · clear h
    go_wp2_with (go_at_call 47; (with_reducible refine (HNM _).mono ?_); rintro e w1 ⟨rfl, rfl⟩)
    go_ret
    exact ⟨rfl, hL⟩
  · by_cases q1 : (n : Int) < 1
    · clear h
      go_wp2_with (go_at_call 47; (with_reducible refine (HNM _).mono ?_); rintro e w1 ⟨rfl, rfl⟩)
      go_ret
      exact ⟨rfl, hL⟩
    · by_cases q2 : (8 : Int) < (n : Int)
      · clear h
        go_wp2_with (go_at_call 47; (with_reducible refine (HNM _).mono ?_); rintro e w1 ⟨rfl, rfl⟩)
        go_ret
        exact ⟨rfl, hL⟩
      · by_cases q3 : key < 1
        · clear h
          go_wp2_with (go_at_call 47; (with_reducible refine (HNM _).mono ?_); rintro e w1 ⟨rfl, rfl⟩)
          go_ret
          exact ⟨rfl, hL⟩
        · by_cases q4 : (n : Int) < key
          · clear h
            go_wp2_with (go_at_call 47; (with_reducible refine (HNM _).mono ?_); rintro e w1 ⟨rfl, rfl⟩)
            go_ret
            exact ⟨rfl, hL⟩
          · have q5 : (8 : Int) < (m : Int) := by
              rw [decide_eq_true (show 1 ≤ n by omega), decide_eq_true (show n ≤ 8 by omega), decide_eq_true (show 1 ≤ key by omega), decide_eq_true (show key ≤ (n : Int) by omega)] at h
              simp at h
              omega
            clear h
            go_wp2_with (go_at_call 47; (with_reducible refine (HNM _).mono ?_); rintro e w1 ⟨rfl, rfl⟩)
            go_ret
            exact ⟨rfl, hL⟩
set_option maxRecDepth 20000 in
set_option maxHeartbeats 4000000 in
theorem rvalid_go (sn : ByteArray) (key : Int) (a1 a2 : Option Addr) (n m c1 c2 : Nat) (cl : List Cl) (fl : List Fr) (w : World) (hn : n = cl.length) (hm : m = fl.length) (hs : Cs w (.slice a1 n c1) cl) (hf : FsAt w (.slice a2 m c2) fl) (h : (nmB sn && decide (1 ≤ n) && decide (n ≤ 8) && decide (1 ≤ key) && decide (key ≤ (n : Int)) && decide (m ≤ 8)) = true) :
    Calls Try.prog 13 #[.agg #[.string sn, .slice a1 n c1, .int .i64 key, .slice a2 m c2]] w fun e w' => e = .returned (.bool (rcolG cl 0 cl && fl.all (rfrB cl))) ∧ Below w.heap.size w w' := by
  have HNM := fun W => rname_is sn W
  simp only [Bool.and_eq_true, decide_eq_true_eq] at h
  obtain ⟨⟨⟨⟨⟨h1, h2⟩, h3⟩, h4⟩, h5⟩, h6⟩ := h
  rw [h1] at HNM
  have i1 : ¬ (n : Int) < 1 := by omega
  have i2 : ¬ (8 : Int) < (n : Int) := by omega
  have i3 : ¬ key < 1 := by omega
  have i4 : ¬ (n : Int) < key := by omega
  have i5 : ¬ (8 : Int) < (m : Int) := by omega
  have HCL := fun x W (h : Below w.heap.size w W) => rcolumn_any sn key a2 m c2 cl a1 n c1 x W hn (by omega) (hs.below h)
  have HFR := fun (f : Fr) (a3 : Option Addr) (c3 : Nat) W (h : Below w.heap.size w W) (hf : Ss W (.slice a3 f.cols.length c3) f.cols) => rforeign_any sn key a2 m c2 cl a1 n c1 f.cols f.tab a3 f.cols.length c3 W hn (by omega) (hs.below h) rfl hf
  have HM := Lib.hid hm
  have HF := Lib.hid hf
  have HN := Lib.hid hn
  have HS := Lib.hid hs
  obtain ⟨Z, hZ⟩ : ∃ Z, rcolG cl 0 cl = Z := ⟨_, rfl⟩
  have HZ := Lib.hid hZ
  obtain ⟨Y, hY⟩ : ∃ Y, fl.all (rfrB cl) = Y := ⟨_, rfl⟩
  have HY := Lib.hid hY
  rw [hZ, hY]
  clear hs hn hZ hm hf hY h1 h2 h3 h4 h5 h6
  go_enter Try.func13, Try.ntmps13
  go_upto_region 1 with fail
  obtain ⟨W0, hW⟩ : ∃ W0, w.alloc (.cells #[.string sn, .slice a1 n c1, .int .i64 key, .slice a2 m c2] 28) = W0 := ⟨_, rfl⟩
  obtain ⟨hL, hlt, p0, p1, p2, p3⟩ := box4n hW
  rw [hW]
  clear hW
  go_upto_region 4 with (go_at_call 47; (with_reducible refine (HNM _).mono ?_); rintro e w1 ⟨rfl, rfl⟩)
  go_wp2
  go_loopw [4] (fun i wr => ∃ k : Nat, k ≤ n ∧ i = .int .i64 k ∧ Hid (rcolG cl k (cl.drop k) = Z) ∧ Below W0.heap.size W0 wr) (fun i _ => n - (intOf i).toNat)
  case atStart => exact ⟨0, Nat.zero_le _, rfl, Lib.hid HZ.out, Below.refl _ _⟩
  case round =>
    obtain ⟨k, hk, rfl, HI, hR⟩ := hrel
    by_cases hlt2 : k < n
    · obtain ⟨g, off, cp, e1, hc⟩ := (HN.out ▸ HS.out : Cs w (.slice a1 cl.length c1) cl).open (by rw [← HN.out]; omega)
      simp only [Value.slice.injEq] at e1
      obtain ⟨rfl, _, rfl⟩ := e1
      obtain ⟨⟨x, kd⟩, ht⟩ : ∃ t, cl[k]? = some t := ⟨_, List.getElem?_eq_getElem (by rw [← HN.out]; exact hlt2)⟩
      obtain ⟨z0, z1⟩ := cs_get hc ht
      have hw := bstep hL hR
      have d0 := Go.Proofs.Ytokbipfkpojflaa.Sl.cell_kept z0 hw
      have d1 := Go.Proofs.Ytokbipfkpojflaa.Sl.cell_kept z1 hw
      have r0 := Go.Proofs.Ytokbipfkpojflaa.Sl.cell_kept p0 hR
      have r1 := Go.Proofs.Ytokbipfkpojflaa.Sl.cell_kept p1 hR
      have r2 := Go.Proofs.Ytokbipfkpojflaa.Sl.cell_kept p2 hR
      have r3 := Go.Proofs.Ytokbipfkpojflaa.Sl.cell_kept p3 hR
      have hst := rcolG_step cl cl k _ ht
      rw [HI.out] at hst
      unfold rcolB at hst
      dsimp only at hst
      have HNX := fun W => rname_is x W
      have HCX := fun W h => HCL x W h
      have k0 : (0 : Int) ≤ (k : Int) := by omega
      have k1 : (k : Int) < (n : Int) := by omega
      have hlb := hR.size
      clear z0 z1 hc ht
      generalize nmB x = nb at HNX hst
      generalize idxC x 0 cl = z at HCX hst
      have HST := Lib.hid hst
      clear hst
      go_upto_region 8 with fail
      obtain ⟨W2, hW2⟩ : ∃ W2, wr.alloc (.cells #[.string x, .int .i64 kd] 78) = W2 := ⟨_, rfl⟩
      obtain ⟨hL2, hlt3, u0, u1⟩ := box2n hW2
      rw [hW2]
      clear hW2
      have s0 := Go.Proofs.Ytokbipfkpojflaa.Sl.cell_kept r0 hL2
      have s1 := Go.Proofs.Ytokbipfkpojflaa.Sl.cell_kept r1 hL2
      have s2 := Go.Proofs.Ytokbipfkpojflaa.Sl.cell_kept r2 hL2
      have s3 := Go.Proofs.Ytokbipfkpojflaa.Sl.cell_kept r3 hL2
      have hw2 := bstep hw hL2
      clear r0 r1 r2 r3 d0 d1
      generalize wr.heap.size = B5 at u0 u1 hlt3 ⊢
      cases nb
      · have HE := Lib.hid (show Z = false by rw [HST.out]; rfl)
        go_wp2_with (go_at_call 47; (with_reducible refine (HNX _).mono ?_); rintro e w1 ⟨rfl, rfl⟩)
        go_ret
        exact ⟨by rw [HE.out]; rfl, hw2⟩
      · by_cases q1 : z = (k : Int)
        · by_cases q2 : kd < 1
          · have HE := Lib.hid (show Z = false by rw [HST.out, decide_eq_false (show ¬ 1 ≤ kd by omega)]; simp)
            subst q1
            go_wp2_with (first | (go_at_call 47; (with_reducible refine (HNX _).mono ?_); rintro e w1 ⟨rfl, rfl⟩) | (go_at_call 34; (with_reducible refine (HCX _ hw2).mono ?_); rintro e w3 ⟨rfl, hb3⟩; have t1 := Go.Proofs.Ytokbipfkpojflaa.Sl.cell_kept u1 hb3; have lt3 := block_of_cell t1; have hL3 := bstep hL2 hb3))
            go_ret
            exact ⟨by rw [HE.out]; rfl, bstep hw2 hb3⟩
          · by_cases q3 : 4 < kd
            · have HE := Lib.hid (show Z = false by rw [HST.out, decide_eq_false (show ¬ kd ≤ 4 by omega)]; simp)
              subst q1
              go_wp2_with (first | (go_at_call 47; (with_reducible refine (HNX _).mono ?_); rintro e w1 ⟨rfl, rfl⟩) | (go_at_call 34; (with_reducible refine (HCX _ hw2).mono ?_); rintro e w3 ⟨rfl, hb3⟩; have t1 := Go.Proofs.Ytokbipfkpojflaa.Sl.cell_kept u1 hb3; have lt3 := block_of_cell t1; have hL3 := bstep hL2 hb3))
              go_ret
              exact ⟨by rw [HE.out]; rfl, bstep hw2 hb3⟩
            · have HE := Lib.hid (show rcolG cl (k + 1) (cl.drop (k + 1)) = Z by rw [HST.out, decide_eq_true q1, decide_eq_true (show 1 ≤ kd by omega), decide_eq_true (show kd ≤ 4 by omega)]; rfl)
              subst q1
              go_wp2_with (first | (go_at_call 47; (with_reducible refine (HNX _).mono ?_); rintro e w1 ⟨rfl, rfl⟩) | (go_at_call 34; (with_reducible refine (HCX _ hw2).mono ?_); rintro e w3 ⟨rfl, hb3⟩; have t1 := Go.Proofs.Ytokbipfkpojflaa.Sl.cell_kept u1 hb3; have lt3 := block_of_cell t1; have hL3 := bstep hL2 hb3))
              go_roundw
              case rel => exact ⟨k + 1, by omega, by go_num, HE, bstep hR hL3⟩
              case measure => simp [intOf]; omega
        · have HE := Lib.hid (show Z = false by rw [HST.out, decide_eq_false q1]; simp)
          have hne : (z != (k : Int)) = true := by simpa using q1
          go_wp2_with (first | (go_at_call 47; (with_reducible refine (HNX _).mono ?_); rintro e w1 ⟨rfl, rfl⟩) | (go_at_call 34; (with_reducible refine (HCX _ hw2).mono ?_); rintro e w3 ⟨rfl, hb3⟩; have t1 := Go.Proofs.Ytokbipfkpojflaa.Sl.cell_kept u1 hb3; have lt3 := block_of_cell t1; have hL3 := bstep hL2 hb3))
          go_ret
          exact ⟨by rw [HE.out]; rfl, bstep hw2 hb3⟩
    · have HE := Lib.hid (show Z = true by rw [← HI.out, List.drop_of_length_le (by rw [← HN.out]; omega)]; rfl)
      have hw := bstep hL hR
      have p0' := Go.Proofs.Ytokbipfkpojflaa.Sl.cell_kept p0 hR
      have p1' := Go.Proofs.Ytokbipfkpojflaa.Sl.cell_kept p1 hR
      have p2' := Go.Proofs.Ytokbipfkpojflaa.Sl.cell_kept p2 hR
      have p3' := Go.Proofs.Ytokbipfkpojflaa.Sl.cell_kept p3 hR
      clear p0 p1 p2 p3 HI
      go_wp2
      obtain ⟨Wa, rfl⟩ : ∃ Wa, Wa = wr := ⟨_, rfl⟩
      go_loopw [6] (fun i wq => ∃ j : Nat, j ≤ m ∧ i = .int .i64 j ∧ Hid ((fl.drop j).all (rfrB cl) = Y) ∧ Below Wa.heap.size Wa wq) (fun i _ => m - (intOf i).toNat)
      case atStart => exact ⟨0, Nat.zero_le _, rfl, Lib.hid HY.out, Below.refl _ _⟩
      case round =>
        obtain ⟨j, hj, rfl, HJ, hQ⟩ := hrel
        obtain ⟨wq, rfl⟩ : ∃ wq, wq = wr := ⟨_, rfl⟩
        have r0 := Go.Proofs.Ytokbipfkpojflaa.Sl.cell_kept p0' hQ
        have r1 := Go.Proofs.Ytokbipfkpojflaa.Sl.cell_kept p1' hQ
        have r2 := Go.Proofs.Ytokbipfkpojflaa.Sl.cell_kept p2' hQ
        have r3 := Go.Proofs.Ytokbipfkpojflaa.Sl.cell_kept p3' hQ
        by_cases hlt3 : j < m
        · obtain ⟨g, off, cp, e1, hc⟩ := fs_get (HM.out ▸ HF.out) (by rw [← HM.out]; omega)
          simp only [Value.slice.injEq] at e1
          obtain ⟨rfl, _, rfl⟩ := e1
          obtain ⟨f, ht⟩ : ∃ t, fl[j]? = some t := ⟨_, List.getElem?_eq_getElem (by rw [← HM.out]; exact hlt3)⟩
          obtain ⟨ta, tc, htc, hss, c0, c1'⟩ := hc j f ht
          have hst := all_stp (rfrB cl) fl j _ ht
          rw [HJ.out] at hst
          have hwq := bstep hw hQ
          have y0 := cell_regrown (Go.Proofs.Ytokbipfkpojflaa.Sl.cell_kept c0 hwq)
          have y1 := cell_regrown (Go.Proofs.Ytokbipfkpojflaa.Sl.cell_kept c1' hwq)
          have t0 := cell_regrown r0
          have t1 := cell_regrown r1
          have t2 := cell_regrown r2
          have t3 := cell_regrown r3
          have hss2 := hss.below hwq
          have HFX := fun d os => HFR f ta tc (Go.Sort.grow (redrawn wq d) os) (bstep hwq (below_regrown wq d os)) (hss2.below (below_regrown wq d os))
          have j0 : (0 : Int) ≤ (j : Int) := by omega
          have j1 : (j : Int) < (m : Int) := by omega
          clear c0 c1' hc ht hss hss2
          generalize rfrB cl f = fb at hst HFX
          have e9 : (⟨f.cols, f.tab⟩ : Fr) = f := rfl
          clear e9
          generalize f.cols.length = fln at *
          generalize f.tab = ftb at *
          have HST := Lib.hid hst
          clear hst
          cases fb
          · have HE2 := Lib.hid (show Y = false by rw [HST.out]; rfl)
            go_upto_region 13 with fail
            refine wp_region_quiet_below (by kernel_rfl) (by kernel_rfl) ?_
            repeat (go_big_quiet_step (first | (go_at_call 48; with_reducible exact Calls.regrown_of (HFX _ _))))
            refine wpQuiet_nil ?_
            intro _ hw9
            obtain ⟨⟨dq, osq⟩, hw9⟩ := hw9
            subst hw9
            have hL5 := bstep hwq (below_regrown wq dq osq)
            go_wp2
            go_ret
            exact ⟨by rw [HE2.out]; simp, hL5⟩
          · have HE2 := Lib.hid (show (fl.drop (j + 1)).all (rfrB cl) = Y by rw [HST.out, Bool.true_and])
            go_upto_region 13 with fail
            refine wp_region_quiet_below (by kernel_rfl) (by kernel_rfl) ?_
            repeat (go_big_quiet_step (first | (go_at_call 48; with_reducible exact Calls.regrown_of (HFX _ _))))
            refine wpQuiet_nil ?_
            intro _ hw9
            obtain ⟨⟨dq, osq⟩, hw9⟩ := hw9
            subst hw9
            have hL5 := bstep hQ (below_regrown wq dq osq)
            go_wp2
            go_roundw
            case rel => exact ⟨j + 1, by omega, by go_num, HE2, hL5⟩
            case measure => simp [intOf]; omega
        · have HE2 := Lib.hid (show Y = true by rw [← HJ.out, List.drop_of_length_le (by rw [← HM.out]; omega)]; rfl)
          go_wp2
          go_ret
          exact ⟨by rw [HE.out, HE2.out]; rfl, bstep hw hQ⟩
end Go.Proofs.Ytokbipfkpojflaa.Sc
