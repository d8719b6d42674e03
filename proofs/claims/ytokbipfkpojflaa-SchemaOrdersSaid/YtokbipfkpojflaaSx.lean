/-
  The walk of the reference's All (layer 34).
-/
import Derived.Test.YtokbipfkpojflaaSw
import Derived.Test.YtokbipfkpojflaaScO
import Derived.Test.YtokbipfkpojflaaScF
set_option linter.unusedSimpArgs false
set_option linter.unusedVariables false
namespace Go.Proofs.Ytokbipfkpojflaa.Sc
open Go Go.RowKit Go.ChangeShapes Go.WideShapes Go.Proofs.Ytokbipfkpojflaa.Sl Go.Proofs.Ytokbipfkpojflaa.Va Go.Lib

theorem fnd_at (x : ByteArray) : ∀ (l : List Sch) (k i : Nat) (c : Sch), l[i]? = some c → c.name = x → (fndS x k l = ((k + i : Nat) : Int) ↔ fndS x k (l.take i) < 0)
  | [], k, i, c, h, _ => by simp at h
  | d :: l, k, i, c, h, hx => by
    cases i with
    | zero =>
      simp at h
      subst h
      rw [List.take_zero]
      unfold fndS
      rw [if_pos hx]
      simp
    | succ i =>
      rw [List.take_succ_cons]
      unfold fndS
      by_cases hd : d.name = x
      · rw [if_pos hd, if_pos hd]
        constructor
        · intro e; omega
        · intro e; omega
      · rw [if_neg hd, if_neg hd]
        have := fnd_at x l (k + 1) i c (by simpa using h) hx
        rw [show k + (i + 1) = k + 1 + i by omega]
        exact this
theorem rall_big (l : List Sch) (a : Option Addr) (n c : Nat) (w : World) (h : 8 < n) : Calls Try.prog 15 #[.slice a n c] w fun e w' => e = .returned (.tuple #[.string ⟨#[]⟩, .int .i64 5]) ∧ w = w' := by
  have h2 : (8 : Int) < (n : Int) := by omega
  go_enter Try.func15, Try.ntmps15
  go_wp2
  go_ret2
  exact ⟨rfl, rfl⟩
def tailG (l : List Sch) : ByteArray × Int := match fltG l l with
  | some x => x
  | none => (⟨#[]⟩, 0)
set_option maxRecDepth 20000 in
set_option maxHeartbeats 8000000 in
theorem rall_go (l : List Sch) (a : Option Addr) (n c : Nat) (w : World) (hn : n = l.length) (h8 : n ≤ 8) (hs : LsAt w (.slice a n c) l) :
    Calls Try.prog 15 #[.slice a n c] w fun e w' => e = .returned (.tuple #[.string (allS l).1, .int .i64 (allS l).2]) ∧ Below w.heap.size w w' := by
  have HR := Lib.hid (show allS l = (match fltA l 0 l with | some x => x | none => tailG l) by unfold allS tailG; rw [if_neg (by omega)]; rfl)
  have HFD := fun x W (h : Below w.heap.size w W) => rfind_any l a n c x W hn (by omega) (hs.below h)
  have HN := Lib.hid hn
  have HS := Lib.hid hs
  generalize allS l = R at HR ⊢
  have i8 : ¬ (8 : Int) < (n : Int) := by omega
  clear hs hn
  go_enter Try.func15, Try.ntmps15
  go_upto_region 3 with fail
  go_wp2
  go_loopw [4] (fun i wr => ∃ k : Nat, k ≤ n ∧ i = .int .i64 k ∧ Hid (fltA l 0 l = fltA l k (l.drop k)) ∧ Below w.heap.size w wr) (fun i _ => n - (intOf i).toNat)
  case atStart => exact ⟨0, Nat.zero_le _, rfl, Lib.hid rfl, Below.refl _ _⟩
  case round =>
    obtain ⟨k, hk, rfl, HI, hR⟩ := hrel
    by_cases hlt : k < n
    · obtain ⟨g, off, cp, e1, hc⟩ := ls_get (HN.out ▸ HS.out) (by rw [← HN.out]; omega)
      simp only [Value.slice.injEq] at e1
      obtain ⟨rfl, _, rfl⟩ := e1
      obtain ⟨y, ht⟩ : ∃ t, l[k]? = some t := ⟨_, List.getElem?_eq_getElem (by rw [← HN.out]; exact hlt)⟩
      obtain ⟨b1, d1, b2, d2, hcs, hfs, z0, z1, z2, z3⟩ := hc k y ht
      have x0 := Go.Proofs.Ytokbipfkpojflaa.Sl.cell_kept z0 hR
      have x1 := Go.Proofs.Ytokbipfkpojflaa.Sl.cell_kept z1 hR
      have x2 := Go.Proofs.Ytokbipfkpojflaa.Sl.cell_kept z2 hR
      have x3 := Go.Proofs.Ytokbipfkpojflaa.Sl.cell_kept z3 hR
      have HV := rvalid_any y b1 b2 d1 d2 wr (hcs.below hR) (hfs.below (fun r x hx => hx.below hR) hR)
      have HFY := fun W h => HFD y.name W h
      have hst := HI.out.trans (fltA_step l k y ht)
      have hfa := fnd_at y.name l 0 k y ht rfl
      rw [Nat.zero_add] at hfa
      have k0 : (0 : Int) ≤ (k : Int) := by omega
      have k1 : (k : Int) < (n : Int) := by omega
      clear hc ht hcs hfs z0 z1 z2 z3
      generalize y.cols.length = q1 at *
      generalize y.frn.length = q2 at *
      generalize y.name = nm at *
      generalize y.key = ky at *
      generalize vldS y = v at HV hst
      generalize fndS nm 0 l = fz at HFY hfa
      have HFA := Lib.hid hfa
      cases v
      · have HE := Lib.hid (show R = (nm, 1) by rw [HR.out, hst, if_pos rfl])
        clear hst hfa
        go_wp2_with (go_at_call 13; (with_reducible refine HV.mono ?_); rintro e w1 ⟨rfl, hb1⟩; have y0 := Go.Proofs.Ytokbipfkpojflaa.Sl.cell_kept x0 hb1)
        go_ret2
        exact ⟨by rw [HE.out]; rfl, bstep hR hb1⟩
      · rw [if_neg (by simp)] at hst
        by_cases hz : fz = (k : Int)
        · have HE := Lib.hid (show fltA l 0 l = fltA l (k + 1) (l.drop (k + 1)) by
            rw [hst, if_neg]
            have := hfa.1 hz
            omega)
          subst hz
          clear hst hfa
          go_wp2_with (first | (go_at_call 13; (with_reducible refine HV.mono ?_); rintro e w1 ⟨rfl, hb1⟩; have y0 := Go.Proofs.Ytokbipfkpojflaa.Sl.cell_kept x0 hb1) | (go_at_call 32; (with_reducible refine (HFY _ (bstep hR hb1)).mono ?_); rintro e w2 ⟨rfl, rfl⟩))
          go_roundw
          case rel => exact ⟨k + 1, by omega, by go_num, HE, bstep hR hb1⟩
          case measure => simp [intOf]; omega
        · have HE := Lib.hid (show R = (nm, 8) by
            rw [HR.out, hst, if_pos]
            by_cases h : 0 ≤ fndS nm 0 (l.take k)
            · exact h
            · exact absurd (hfa.2 (by omega)) hz)
          have hne : (fz != (k : Int)) = true := by simpa using hz
          clear hst hfa
          go_wp2_with (first | (go_at_call 13; (with_reducible refine HV.mono ?_); rintro e w1 ⟨rfl, hb1⟩; have y0 := Go.Proofs.Ytokbipfkpojflaa.Sl.cell_kept x0 hb1) | (go_at_call 32; (with_reducible refine (HFY _ (bstep hR hb1)).mono ?_); rintro e w2 ⟨rfl, rfl⟩))
          go_ret2
          exact ⟨by rw [HE.out]; rfl, bstep hR hb1⟩
    · have hfl : fltA l 0 l = none := by rw [HI.out, List.drop_of_length_le (by rw [← HN.out]; omega)]; rfl
      have HE := Lib.hid (show R = tailG l by rw [HR.out, hfl])
      have HVA := Lib.hid (show ∀ s ∈ l, vldS s = true by
        rcases fltA_code l l 0 with ⟨x, hx, _⟩ | ⟨_, h⟩
        · rw [hfl] at hx; cases hx
        · exact h)
      clear hfl HI
      go_wp2
      obtain ⟨Wa, rfl⟩ : ∃ Wa, Wa = wr := ⟨_, rfl⟩
      go_loopw [5] (fun i wq => ∃ k : Nat, k ≤ n ∧ i = .int .i64 k ∧ Hid (fltG l l = fltG l (l.drop k)) ∧ Below w.heap.size w wq) (fun i _ => n - (intOf i).toNat)
      case atStart => exact ⟨0, Nat.zero_le _, rfl, Lib.hid rfl, hR⟩
      case round =>
        obtain ⟨k, hk, rfl, HJ, hQ⟩ := hrel
        obtain ⟨wq, rfl⟩ : ∃ wq, wq = wr := ⟨_, rfl⟩
        by_cases hlt2 : k < n
        · obtain ⟨g, off, cp, e1, hc⟩ := ls_get (HN.out ▸ HS.out) (by rw [← HN.out]; omega)
          simp only [Value.slice.injEq] at e1
          obtain ⟨rfl, _, rfl⟩ := e1
          obtain ⟨y, ht⟩ : ∃ t, l[k]? = some t := ⟨_, List.getElem?_eq_getElem (by rw [← HN.out]; exact hlt2)⟩
          obtain ⟨b1, d1, b2, d2, hcs, hfs, z0, z1, z2, z3⟩ := hc k y ht
          obtain ⟨v1, v2, v3, v4, v5⟩ := vld_key (HVA.out y (List.mem_of_getElem? ht))
          have hst := HJ.out.trans (fltG_step l l k y ht)
          have HC := Lib.hid hc
          have HCS := Lib.hid hcs
          have HFS := Lib.hid hfs
          have HY := Lib.hid (List.mem_of_getElem? ht)
          have HST := Lib.hid hst
          have k0 : (0 : Int) ≤ (k : Int) := by omega
          have k1 : (k : Int) < (n : Int) := by omega
          obtain ⟨q1, hq1⟩ : ∃ q1, q1 = y.cols.length := ⟨_, rfl⟩
          obtain ⟨q2, hq2⟩ : ∃ q2, q2 = y.frn.length := ⟨_, rfl⟩
          have HQ1 := Lib.hid hq1
          have HQ2 := Lib.hid hq2
          have hq8 : q2 ≤ 8 := by omega
          rw [← hq1] at z1
          rw [← hq2] at z3
          clear hc ht hcs hfs hst hq1 hq2
          go_wp2
          obtain ⟨Wb, rfl⟩ : ∃ Wb, Wb = wq := ⟨_, rfl⟩
          go_loopw [6] (fun i wz => ∃ j : Nat, j ≤ q2 ∧ i = .int .i64 j ∧ Hid (fltF l y y.frn = fltF l y (y.frn.drop j)) ∧ Below w.heap.size w wz) (fun i _ => q2 - (intOf i).toNat)
          case atStart => exact ⟨0, Nat.zero_le _, rfl, Lib.hid rfl, hQ⟩
          case round =>
            obtain ⟨j, hj, rfl, HJ2, hZ⟩ := hrel
            obtain ⟨wz, rfl⟩ : ∃ wz, wz = wr := ⟨_, rfl⟩
            have x3 := Go.Proofs.Ytokbipfkpojflaa.Sl.cell_kept z3 hZ
            by_cases hlt3 : j < q2
            · obtain ⟨g2, o2, cp2, e2, hc2⟩ := fs_get HFS.out (by rw [← HQ2.out]; omega)
              simp only [Value.slice.injEq] at e2
              obtain ⟨rfl, _, rfl⟩ := e2
              obtain ⟨f, ht2⟩ : ∃ t, y.frn[j]? = some t := ⟨_, List.getElem?_eq_getElem (by rw [← HQ2.out]; exact hlt3)⟩
              obtain ⟨ta, tc, htc, hss, c0, c1'⟩ := hc2 j f ht2
              have y0 := Go.Proofs.Ytokbipfkpojflaa.Sl.cell_kept c0 hZ
              have y1 := Go.Proofs.Ytokbipfkpojflaa.Sl.cell_kept c1' hZ
              have hvf := vld_frn (HVA.out y HY.out) (List.mem_of_getElem? ht2)
              have hst2 := HJ2.out.trans (fltF_step l y y.frn j f ht2)
              have HFT := fun W h => HFD f.tab W h
              have HSS := Lib.hid hss
              have HVF := Lib.hid hvf
              have j0 : (0 : Int) ≤ (j : Int) := by omega
              have j1 : (j : Int) < (q2 : Int) := by omega
              have hS0 : fitS y f = fun t => (decide ((f.cols.length : Int) = t.key) && fitK y.cols t.cols 0 f.cols) := rfl
              rw [hS0] at hst2
              obtain ⟨fc, hfc⟩ : ∃ fc, fc = f.cols := ⟨_, rfl⟩
              obtain ⟨tab, htab⟩ : ∃ tab, tab = f.tab := ⟨_, rfl⟩
              obtain ⟨q3, hq3⟩ : ∃ q3, q3 = fc.length := ⟨_, rfl⟩
              rw [← htab] at hst2 y1 HFT
              rw [← hfc] at hst2 HSS HVF y0
              rw [← hq3] at hst2 HSS y0
              have HQ3 := Lib.hid hq3
              clear hc2 ht2 hss c0 c1' hS0 hfc htab hq3 hvf htc
              obtain ⟨fz, hfz⟩ : ∃ fz, fndS tab 0 l = fz := ⟨_, rfl⟩
              have hge := fndS_ge tab l 0
              rw [hfz] at hst2 HFT hge
              have HST2 := Lib.hid hst2
              clear hst2 hfz
              go_upto_region 17 with fail
              obtain ⟨W2, hW2⟩ : ∃ W2, wz.alloc (.cells #[.slice ta q3 tc, .string tab] 55) = W2 := ⟨_, rfl⟩
              obtain ⟨hL2, hlt4, u0, u1⟩ := box2n hW2
              rw [hW2]
              clear hW2 y0 y1
              have hw2 := bstep hZ hL2
              generalize wz.heap.size = B7 at u0 u1 hlt4 ⊢
              by_cases hfn : fz < 0
              · have HE3 := Lib.hid (show R = (tab, 7) by
                  rw [HE.out]; unfold tailG; rw [HST.out, HST2.out, if_pos hfn])
                go_wp2_with (go_at_call 32; (with_reducible refine (HFT _ hw2).mono ?_); rintro e w3 ⟨rfl, rfl⟩)
                go_ret2
                exact ⟨by rw [HE3.out]; rfl, hw2⟩
              · obtain ⟨z, rfl⟩ : ∃ z : Nat, fz = (z : Int) := ⟨fz.toNat, by omega⟩
                have hzn : z < n := by have := HN.out; omega
                obtain ⟨t, ht3⟩ : ∃ t, l[z]? = some t := ⟨_, List.getElem?_eq_getElem (by rw [← HN.out]; exact hzn)⟩
                obtain ⟨b3, d3, b4, d4, hcs3, _, w0, w1', w2', _⟩ := HC.out z t ht3
                obtain ⟨m1, m2, m3, _, m5⟩ := vld_key (HVA.out t (List.mem_of_getElem? ht3))
                have hst3 := HST2.out
                rw [if_neg hfn, Int.toNat_natCast, ht3] at hst3
                simp only [Option.getD_some] at hst3
                have HST3 := Lib.hid hst3
                have HCS3 := Lib.hid hcs3
                obtain ⟨q4, hq4⟩ : ∃ q4, q4 = t.cols.length := ⟨_, rfl⟩
                have HQ4 := Lib.hid hq4
                rw [← hq4] at w1' m2 m3 m5
                obtain ⟨tk, htk⟩ : ∃ tk, tk = t.key := ⟨_, rfl⟩
                rw [← htk] at w2' m1 m2
                have HTK := Lib.hid htk
                have z0i : (0 : Int) ≤ (z : Int) := by omega
                have z1i : (z : Int) < (n : Int) := by omega
                have zn2 : ¬ (z : Int) < 0 := by omega
                have t2 := cell_regrown (Go.Proofs.Ytokbipfkpojflaa.Sl.cell_kept w2' hw2)
                have t0 := cell_regrown u0
                clear hst3 hcs3 hq4 htk ht3 hge
                by_cases hkl : tk = (q3 : Int)
                · subst hkl
                  have HSF := Lib.hid (show fltF l y y.frn = if fitK y.cols t.cols 0 fc = false then some (tab, 13) else fltF l y (y.frn.drop (j + 1)) by
                    have hk : (decide ((q3 : Int) = t.key) && fitK y.cols t.cols 0 fc) = fitK y.cols t.cols 0 fc := by rw [decide_eq_true HTK.out, Bool.true_and]
                    rw [HST3.out]
                    simp only [hk])
                  go_upto_region 20 with (go_at_call 32; (with_reducible refine (HFT _ hw2).mono ?_); rintro e w3 ⟨rfl, rfl⟩)
                  refine wp_region_quiet_below (by kernel_rfl) (by kernel_rfl) ?_
                  repeat (go_big_quiet_step (fail))
                  refine wpQuiet_nil ?_
                  intro _ hw9
                  obtain ⟨⟨dq, osq⟩, hw9⟩ := hw9
                  subst hw9
                  have hL5 := below_regrown W2 dq osq
                  have hw5 := bstep hw2 hL5
                  have u05 := Go.Proofs.Ytokbipfkpojflaa.Sl.cell_kept u0 hL5
                  have u15 := Go.Proofs.Ytokbipfkpojflaa.Sl.cell_kept u1 hL5
                  clear t2 t0 u0 u1
                  generalize Go.Sort.grow (redrawn W2 dq) osq = W5 at hL5 hw5 u05 u15 ⊢
                  go_wp2
                  go_loopw [9] (fun i wv => ∃ c : Nat, c ≤ q3 ∧ i = .int .i64 c ∧ Hid (fitK y.cols t.cols 0 fc = fitK y.cols t.cols c (fc.drop c)) ∧ Below W5.heap.size W5 wv) (fun i _ => q3 - (intOf i).toNat)
                  case atStart => exact ⟨0, Nat.zero_le _, rfl, Lib.hid rfl, Below.refl _ _⟩
                  case round =>
                    obtain ⟨c, hc5, rfl, HJ5, hV⟩ := hrel
                    obtain ⟨wv, rfl⟩ : ∃ wv, wv = wr := ⟨_, rfl⟩
                    have u06 := Go.Proofs.Ytokbipfkpojflaa.Sl.cell_kept u05 hV
                    have u16 := Go.Proofs.Ytokbipfkpojflaa.Sl.cell_kept u15 hV
                    have hwv := bstep hw5 hV
                    by_cases hlt6 : c < q3
                    · obtain ⟨x, hx⟩ : ∃ t, fc[c]? = some t := ⟨_, List.getElem?_eq_getElem (by rw [← HQ3.out]; exact hlt6)⟩
                      have hz0 := HVF.out.1 x (List.mem_of_getElem? hx)
                      have hzl : idxC x 0 y.cols < y.cols.length := by
                        rcases idxC_ge x y.cols 0 with h | h
                        · omega
                        · have := h.2; omega
                      obtain ⟨e, he⟩ : ∃ e : Nat, idxC x 0 y.cols = e := ⟨(idxC x 0 y.cols).toNat, by omega⟩
                      obtain ⟨⟨sa, sb⟩, hsc⟩ : ∃ t, y.cols[e]? = some t := ⟨_, List.getElem?_eq_getElem (by omega)⟩
                      obtain ⟨⟨ua, ub⟩, huc⟩ : ∃ v, t.cols[c]? = some v := ⟨_, List.getElem?_eq_getElem (by have := HQ4.out; omega)⟩
                      obtain ⟨h1, o1, cp1, e1, hd1⟩ := HCS.out.open (by have := HQ1.out; omega)
                      simp only [Value.slice.injEq] at e1
                      obtain ⟨rfl, _, rfl⟩ := e1
                      obtain ⟨h3, o3, cp3, e3, hd3⟩ := HCS3.out.open (by have := HQ4.out; omega)
                      simp only [Value.slice.injEq] at e3
                      obtain ⟨rfl, _, rfl⟩ := e3
                      obtain ⟨h5, o5, cp5, e5, hd5⟩ := (HQ3.out ▸ HSS.out : Ss w (.slice ta fc.length tc) fc).1.open (by have := HQ3.out; omega)
                      simp only [Value.slice.injEq] at e5
                      obtain ⟨rfl, _, rfl⟩ := e5
                      have hst6 := fitK_step y.cols t.cols fc c x hx
                      rw [kdAt_at t.cols c _ huc, he, kdAt_at y.cols e _ hsc] at hst6
                      dsimp only at hst6
                      have HST6 := Lib.hid (HJ5.out.trans hst6)
                      have s0 := cell_regrown (Go.Proofs.Ytokbipfkpojflaa.Sl.cell_kept z0 hwv)
                      have s1 := cell_regrown (Go.Proofs.Ytokbipfkpojflaa.Sl.cell_kept z1 hwv)
                      have s2 := cell_regrown (Go.Proofs.Ytokbipfkpojflaa.Sl.cell_kept z2 hwv)
                      have s3 := cell_regrown (Go.Proofs.Ytokbipfkpojflaa.Sl.cell_kept z3 hwv)
                      have s4 := cell_regrown (Go.Proofs.Ytokbipfkpojflaa.Sl.cell_kept w1' hwv)
                      have s5 := cell_regrown (Go.Proofs.Ytokbipfkpojflaa.Sl.cell_kept (cs_get hd1 hsc).2 hwv)
                      have s6 := cell_regrown (Go.Proofs.Ytokbipfkpojflaa.Sl.cell_kept (cs_get hd3 huc).2 hwv)
                      have s7 := cell_regrown (Go.Proofs.Ytokbipfkpojflaa.Sl.cell_kept (ss_get hd5 hx) hwv)
                      have s8 := cell_regrown u06
                      have HCI := fun d os => rcolumn_any y.name y.key (some ⟨g2, o2, none⟩) q2 d2 y.cols (some ⟨h1, o1, none⟩) q1 d1 x (Go.Sort.grow (redrawn wv d) os) HQ1.out (by have := HQ1.out; omega) ((HQ1.out ▸ HCS.out : Cs w (.slice (some ⟨h1, o1, none⟩) q1 d1) y.cols).below (bstep hwv (below_regrown wv d os)))
                      rw [he] at HCI
                      have a0 : (0 : Int) ≤ (c : Int) := by omega
                      have a1 : (c : Int) < (q3 : Int) := by omega
                      have a2 : (c : Int) < (q4 : Int) := by omega
                      have a3 : (0 : Int) ≤ (e : Int) := by omega
                      have a4 : (e : Int) < (q1 : Int) := by have := HQ1.out; omega
                      clear hx hsc huc hd1 hd3 hd5 he hz0 hzl hst6
                      generalize y.name = yn at *
                      generalize y.key = yk at *
                      by_cases hb : sb = ub
                      · have HE5 := Lib.hid (show fitK y.cols t.cols 0 fc = fitK y.cols t.cols (c + 1) (fc.drop (c + 1)) by rw [HST6.out, decide_eq_true hb, Bool.true_and])
                        subst hb
                        go_upto_region 25 with fail
                        refine wp_region_quiet_below (by kernel_rfl) (by kernel_rfl) ?_
                        repeat (go_big_quiet_step (first | (go_at_call 34; with_reducible exact Calls.regrown_of (HCI _ _))))
                        refine wpQuiet_nil ?_
                        intro _ hw9
                        obtain ⟨⟨dq2, osq2⟩, hw9⟩ := hw9
                        subst hw9
                        have hL7 := bstep hV (below_regrown wv dq2 osq2)
                        go_wp2
                        go_roundw
                        case rel => exact ⟨c + 1, by omega, by go_num, HE5, hL7⟩
                        case measure => simp [intOf]; omega
                      · have HE5 := Lib.hid (show R = (tab, 13) by
                          rw [HE.out]; unfold tailG; rw [HST.out, HSF.out, if_pos (by rw [HST6.out, decide_eq_false hb]; rfl)])
                        have hb2 : (sb != ub) = true := by simpa using hb
                        go_upto_region 25 with fail
                        refine wp_region_quiet_below (by kernel_rfl) (by kernel_rfl) ?_
                        repeat (go_big_quiet_step (first | (go_at_call 34; with_reducible exact Calls.regrown_of (HCI _ _))))
                        refine wpQuiet_nil ?_
                        intro _ hw9
                        obtain ⟨⟨dq2, osq2⟩, hw9⟩ := hw9
                        subst hw9
                        have hL7 := below_regrown wv dq2 osq2
                        have u17 := Go.Proofs.Ytokbipfkpojflaa.Sl.cell_kept u16 hL7
                        go_wp2
                        go_ret2
                        exact ⟨by rw [HE5.out]; rfl, bstep hwv hL7⟩
                    · have HE5 := Lib.hid (show fltF l y y.frn = fltF l y (y.frn.drop (j + 1)) by
                        rw [HSF.out, if_neg]
                        rw [HJ5.out, List.drop_of_length_le (by rw [← HQ3.out]; omega)]
                        simp [fitK])
                      go_wp2
                      go_roundw
                      case rel => exact ⟨j + 1, by omega, by go_num, HE5, hwv⟩
                      case measure => simp [intOf]; omega
                · have HE4 := Lib.hid (show R = (tab, 13) by
                    rw [HE.out]; unfold tailG; rw [HST.out, HST3.out, if_pos]
                    rw [decide_eq_false (fun e => hkl (HTK.out.trans e.symm))]; rfl)
                  have hkl2 : (tk != (q3 : Int)) = true := by simpa using hkl
                  go_upto_region 20 with (go_at_call 32; (with_reducible refine (HFT _ hw2).mono ?_); rintro e w3 ⟨rfl, rfl⟩)
                  refine wp_region_quiet_below (by kernel_rfl) (by kernel_rfl) ?_
                  repeat (go_big_quiet_step (fail))
                  refine wpQuiet_nil ?_
                  intro _ hw9
                  obtain ⟨⟨dq, osq⟩, hw9⟩ := hw9
                  subst hw9
                  have hL5 := below_regrown W2 dq osq
                  have u15 := Go.Proofs.Ytokbipfkpojflaa.Sl.cell_kept u1 hL5
                  go_wp2
                  go_ret2
                  exact ⟨by rw [HE4.out]; rfl, bstep hw2 hL5⟩
            · have HE3 := Lib.hid (show fltG l l = fltG l (l.drop (k + 1)) by
                rw [HST.out, HJ2.out, List.drop_of_length_le (by rw [← HQ2.out]; omega)]; rfl)
              go_wp2
              go_roundw
              case rel => exact ⟨k + 1, by omega, by go_num, HE3, hZ⟩
              case measure => simp [intOf]; omega
        · have HE2 := Lib.hid (show R = (⟨#[]⟩, 0) by rw [HE.out]; unfold tailG; rw [HJ.out, List.drop_of_length_le (by rw [← HN.out]; omega)]; rfl)
          go_wp2
          go_ret2
          exact ⟨by rw [HE2.out]; rfl, hQ⟩
theorem rall_any (l : List Sch) (s : Value) (w : World) (hs : LsAt w s l) : Calls Try.prog 15 #[s] w fun e w' => e = .returned (.tuple #[.string (allS l).1, .int .i64 (allS l).2]) ∧ Below w.heap.size w w' := by
  obtain ⟨a, c, rfl, _⟩ := Nest.form hs
  by_cases h : 8 < l.length
  · have e : allS l = (⟨#[]⟩, 5) := by unfold allS; rw [if_pos h]
    rw [e]
    refine (rall_big l a _ c w h).mono ?_
    rintro e w' ⟨rfl, rfl⟩
    exact ⟨rfl, Below.refl _ _⟩
  · exact rall_go l a _ c w rfl (by omega) hs
end Go.Proofs.Ytokbipfkpojflaa.Sc
