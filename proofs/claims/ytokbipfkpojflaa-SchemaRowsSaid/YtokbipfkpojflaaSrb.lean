/-
  Row, Key, the reference's Row, the walk of the law SchemaRows (layer 34).
-/
import Derived.Test.YtokbipfkpojflaaSra
import Derived.Test.YtokbipfkpojflaaScG
import Derived.Test.YtokbipfkpojflaaSw
import Derived.Test.YtokbipfkpojflaaSop
set_option linter.unusedSimpArgs false
set_option linter.unusedVariables false
namespace Go.Proofs.Ytokbipfkpojflaa.Sc
open Go Go.RowKit Go.ChangeShapes Go.WideShapes Go.Proofs.Ytokbipfkpojflaa.Sl Go.Lib
open Go.Proofs.Ytokbipfkpojflaa.Va (Cl flatC Cs cs_get V3 Vs flatV flatV_len vs_get allV agV SzL rowV rall_any equal_any)

def rowS (s : Sch) (l : List V3) : Int := if vldS s && allV l then (if eqK s.cols l then 0 else 13) else 1
set_option maxRecDepth 20000 in
set_option maxHeartbeats 2000000 in
theorem row_any (s : Sch) (l : List V3) (a1 a2 : Option Addr) (c1 c2 : Nat) (v : Value) (w : World) (hl1 : s.cols.length ≤ 1000000) (hl : l.length ≤ 1000000) (h1 : Cs w (.slice a1 s.cols.length c1) s.cols) (h2 : FsAt w (.slice a2 s.frn.length c2) s.frn) (hv : Vs w v l) :
    Calls Try.prog 39 #[.agg #[.string s.name, .slice a1 s.cols.length c1, .int .i64 s.key, .slice a2 s.frn.length c2], v] w fun e w' => e = .returned (.int .i64 (rowS s l)) ∧ Below w.heap.size w w' := by
  have HV := fun W (h : Below w.heap.size w W) => valid_any s a1 a2 c1 c2 W (h1.below h) (h2.below (fun r x hx => hx.below h) h)
  have HC := fun W (h : Below w.heap.size w W) => has_row l v W (by omega) (hv.below h)
  have HE := fun W (h : Below w.heap.size w W) => eqr_any s.cols l _ v W hl1 (h1.below h) (hv.below h)
  unfold rowS
  obtain ⟨va, vc, rfl⟩ := hv.form
  generalize vldS s = b1 at HV ⊢
  generalize allV l = b2 at HC ⊢
  generalize eqK s.cols l = b3 at HE ⊢
  generalize s.cols.length = q1 at *
  generalize s.frn.length = q2 at *
  generalize s.name = nm at *
  generalize s.key = ky at *
  generalize l.length = q3 at *
  clear h1 h2 hv
  go_enter Try.func39, Try.ntmps39
  go_upto_region 1 with fail
  obtain ⟨W0, hW⟩ : ∃ W0, w.alloc (.cells #[.string nm, .slice a1 q1 c1, .int .i64 ky, .slice a2 q2 c2] 28) = W0 := ⟨_, rfl⟩
  obtain ⟨hL, hlt, p0, p1, p2, p3⟩ := box4n hW
  rw [hW]
  clear hW
  cases b1
  · go_wp2_with (go_at_call 12; (with_reducible refine (HV _ hL).mono ?_); rintro e w1 ⟨rfl, hb1⟩; have hw1 := bstep hL hb1)
    go_ret
    exact ⟨rfl, hw1⟩
  · cases b2
    · go_wp2_with (first | (go_at_call 12; (with_reducible refine (HV _ hL).mono ?_); rintro e w1 ⟨rfl, hb1⟩; have hw1 := bstep hL hb1) | (go_at_call 85; (with_reducible refine (HC _ hw1).mono ?_); rintro e w2 ⟨rfl, hb2⟩; have hw2 := bstep hw1 hb2))
      go_ret
      exact ⟨rfl, hw2⟩
    · go_wp2_with (first | (go_at_call 12; (with_reducible refine (HV _ hL).mono ?_); rintro e w1 ⟨rfl, hb1⟩; have hw1 := bstep hL hb1; have r1 := Go.Proofs.Ytokbipfkpojflaa.Sl.cell_kept p1 hb1) | (go_at_call 85; (with_reducible refine (HC _ hw1).mono ?_); rintro e w2 ⟨rfl, hb2⟩; have hw2 := bstep hw1 hb2; have s1 := Go.Proofs.Ytokbipfkpojflaa.Sl.cell_kept r1 hb2) | (go_at_call 88; (with_reducible refine (HE _ hw2).mono ?_); rintro e w3 ⟨rfl, hb3⟩; have hw3 := bstep hw2 hb3; cases b3))
      · go_ret
        exact ⟨rfl, hw3⟩
      · go_ret
        exact ⟨rfl, hw3⟩
theorem vs_take {w : World} {a : Option Addr} {n c c2 : Nat} {l : List V3} (k : Nat) (hk : k ≤ l.length) (h : Vs w (.slice a n c) l) : Vs w (.slice a k c2) (l.take k) := by
  have hn : n = l.length := by
    obtain ⟨_, _, e⟩ := h.form
    simp only [Value.slice.injEq] at e
    exact e.2.1
  subst hn
  have hkl : (l.take k).length = k := by simp; omega
  by_cases h0 : k = 0
  · subst h0
    exact Sl.mk0 ..
  · obtain ⟨g, off, cap, e, hc⟩ := h.open (by omega)
    simp only [Value.slice.injEq] at e
    obtain ⟨rfl, _, rfl⟩ := e
    show Sl w _ (l.take k).length 3 _
    rw [hkl]
    refine Sl.mk (by rw [flatV_len, hkl]) (fun j u hu => hc j u ?_)
    have e2 : flatV l = flatV (l.take k) ++ flatV (l.drop k) := by
      unfold flatV
      rw [← List.flatten_append, ← List.map_append, List.take_append_drop]
    rw [e2, List.getElem?_append_left (List.getElem?_eq_some_iff.1 hu).1]
    exact hu
theorem rowS_zero {s : Sch} {l : List V3} (h : rowS s l = 0) : vldS s = true ∧ s.cols.length = l.length := by
  unfold rowS at h
  cases h1 : vldS s && allV l
  · rw [h1] at h; simp at h
  · cases h2 : eqK s.cols l
    · rw [h1, h2] at h; simp at h
    · refine ⟨by simp at h1; exact h1.1, ?_⟩
      have := congrArg List.length (of_decide_eq_true h2)
      simpa using this
/-- What Key returns. -/
def keyS (s : Sch) (l : List V3) : List V3 := if rowS s l = 0 then l.take s.key.toNat else []
def KyE (s : Sch) (l : List V3) (w : World) (e : Ending) (w' : World) : Prop := ∃ (a : Option Addr) (c : Nat), e = .returned (.slice a (keyS s l).length c) ∧ Vs w' (.slice a (keyS s l).length c) (keyS s l) ∧ Below w.heap.size w w'
set_option maxRecDepth 20000 in
set_option maxHeartbeats 2000000 in
theorem key_any (s : Sch) (l : List V3) (a1 a2 : Option Addr) (c1 c2 : Nat) (v : Value) (w : World) (hl1 : s.cols.length ≤ 1000000) (hl : l.length ≤ 1000000) (h1 : Cs w (.slice a1 s.cols.length c1) s.cols) (h2 : FsAt w (.slice a2 s.frn.length c2) s.frn) (hv : Vs w v l) (hcap : Cap v) :
    Calls Try.prog 38 #[.agg #[.string s.name, .slice a1 s.cols.length c1, .int .i64 s.key, .slice a2 s.frn.length c2], v] w (KyE s l w) := by
  have HR := fun W (h : Below w.heap.size w W) => row_any s l a1 a2 c1 c2 v W hl1 hl (h1.below h) (h2.below (fun r x hx => hx.below h) h) (hv.below h)
  by_cases hz : rowS s l = 0
  · obtain ⟨g1, g2⟩ := rowS_zero hz
    obtain ⟨k1, k2, k3, _⟩ := vld_key g1
    have ek : keyS s l = l.take s.key.toNat := by unfold keyS; rw [if_pos hz]
    obtain ⟨va, vc, rfl⟩ := hv.form
    have hvc := hcap.le
    obtain ⟨kn, hkn⟩ : ∃ kn : Nat, s.key = (kn : Int) := ⟨s.key.toNat, by omega⟩
    have hke : s.key.toNat = kn := by omega
    have HT := fun W (h : Below w.heap.size w W) => clone_vals (l.take kn) (.slice va kn vc) W (vs_take kn (by omega) (hv.below h)) (by rw [List.length_take]; omega)
    unfold KyE
    rw [ek, hke]
    rw [hz] at HR
    have u1 : kn ≤ vc := by omega
    have u2 : (0 : Int) ≤ (kn : Int) := by omega
    have u3 : (kn : Int) ≤ (vc : Int) := by omega
    rw [hkn] at HR ⊢
    generalize l.take kn = l2 at HT ⊢
    generalize s.cols.length = q1 at *
    generalize s.frn.length = q2 at *
    generalize s.name = nm at *
    generalize l.length = q3 at *
    clear h1 h2 hv ek hke hkn k1 k2 k3 g1 g2 hz hcap
    go_enter Try.func38, Try.ntmps38
    go_upto_region 1 with fail
    obtain ⟨W0, hW⟩ : ∃ W0, w.alloc (.cells #[.string nm, .slice a1 q1 c1, .int .i64 (kn : Int), .slice a2 q2 c2] 28) = W0 := ⟨_, rfl⟩
    obtain ⟨hL, hlt, p0, p1, p2, p3⟩ := box4n hW
    rw [hW]
    clear hW
    go_wp2_with (first | (go_at_call 39; (with_reducible refine (HR _ hL).mono ?_); rintro e w1 ⟨rfl, hb1⟩; have hw1 := bstep hL hb1; have r2 := Go.Proofs.Ytokbipfkpojflaa.Sl.cell_kept p2 hb1) | (go_at_call 84; (with_reducible refine (HT _ hw1).mono ?_); rintro e w2 ⟨v2, rfl, hv2, hb2⟩; have hw2 := bstep hw1 hb2))
    go_ret
    obtain ⟨a, c, rfl⟩ := hv2.form
    exact ⟨a, c, rfl, hv2, hw2⟩
  · have ek : keyS s l = [] := by unfold keyS; rw [if_neg hz]
    unfold KyE
    rw [ek]
    have hz2 : (rowS s l != 0) = true := by simpa using hz
    generalize rowS s l = r at *
    obtain ⟨va, vc, rfl⟩ := hv.form
    generalize s.cols.length = q1 at *
    generalize s.frn.length = q2 at *
    generalize s.name = nm at *
    generalize s.key = ky at *
    generalize l.length = q3 at *
    clear h1 h2 hv ek hcap
    go_enter Try.func38, Try.ntmps38
    go_upto_region 1 with fail
    obtain ⟨W0, hW⟩ : ∃ W0, w.alloc (.cells #[.string nm, .slice a1 q1 c1, .int .i64 ky, .slice a2 q2 c2] 28) = W0 := ⟨_, rfl⟩
    obtain ⟨hL, hlt, p0, p1, p2, p3⟩ := box4n hW
    rw [hW]
    clear hW
    go_wp2_with (go_at_call 39; (with_reducible refine (HR _ hL).mono ?_); rintro e w1 ⟨rfl, hb1⟩; have hw1 := bstep hL hb1)
    go_ret
    exact ⟨none, 0, rfl, Sl.mk0 .., hw1⟩
set_option maxRecDepth 20000 in
set_option maxHeartbeats 2000000 in
theorem rrow_any (s : Sch) (l : List V3) (a1 a2 : Option Addr) (c1 c2 : Nat) (v : Value) (w : World) (hl1 : s.cols.length ≤ 1000000) (hl : l.length ≤ 1000000) (hz : SzL l) (h1 : Cs w (.slice a1 s.cols.length c1) s.cols) (h2 : FsAt w (.slice a2 s.frn.length c2) s.frn) (hv : Vs w v l) :
    Calls Try.prog 37 #[.agg #[.string s.name, .slice a1 s.cols.length c1, .int .i64 s.key, .slice a2 s.frn.length c2], v] w fun e w' => e = .returned (.int .i64 (rowS s l)) ∧ Below w.heap.size w w' := by
  have HV := fun W (h : Below w.heap.size w W) => rvalid_any s a1 a2 c1 c2 W (h1.below h) (h2.below (fun r x hx => hx.below h) h)
  have HA := fun W (h : Below w.heap.size w W) => rall_any l v W (by omega) hz (hv.below h)
  obtain ⟨R, hR⟩ : ∃ R, rowS s l = R := ⟨_, rfl⟩
  rw [hR]
  unfold rowS at hR
  have HV1 := Lib.hid hv
  have HC1 := Lib.hid h1
  obtain ⟨va, vc, rfl⟩ := hv.form
  generalize vldS s = b1 at HV hR
  generalize allV l = b2 at HA hR
  obtain ⟨Z, hZ⟩ : ∃ Z, eqK s.cols l = Z := ⟨_, rfl⟩
  have HZ := Lib.hid hZ
  rw [hZ] at hR
  have HX := Lib.hid hR
  obtain ⟨q1, hq1⟩ : ∃ n, n = s.cols.length := ⟨_, rfl⟩
  obtain ⟨q3, hq3⟩ : ∃ n, n = l.length := ⟨_, rfl⟩
  have HQ1 := Lib.hid hq1
  have HQ3 := Lib.hid hq3
  rw [← hq1] at HV HC1 hl1 ⊢
  rw [← hq3] at HA HV1 hl ⊢
  generalize s.frn.length = q2 at *
  generalize s.name = nm at *
  generalize s.key = ky at *
  clear h1 h2 hv hZ hq1 hq3 hz hR
  go_enter Try.func37, Try.ntmps37
  go_upto_region 1 with fail
  obtain ⟨W0, hW⟩ : ∃ W0, w.alloc (.cells #[.string nm, .slice a1 q1 c1, .int .i64 ky, .slice a2 q2 c2] 28) = W0 := ⟨_, rfl⟩
  obtain ⟨hL, hlt, p0, p1, p2, p3⟩ := box4n hW
  rw [hW]
  clear hW
  cases b1
  · go_wp2_with (go_at_call 13; (with_reducible refine (HV _ hL).mono ?_); rintro e w1 ⟨rfl, hb1⟩; have hw1 := bstep hL hb1)
    go_ret
    exact ⟨by rw [← HX.out]; rfl, hw1⟩
  · cases b2
    · go_wp2_with (first | (go_at_call 13; (with_reducible refine (HV _ hL).mono ?_); rintro e w1 ⟨rfl, hb1⟩; have hw1 := bstep hL hb1) | (go_at_call 83; (with_reducible refine (HA _ hw1).mono ?_); rintro e w2 ⟨rfl, hb2⟩; have hw2 := bstep hw1 hb2))
      go_ret
      exact ⟨by rw [← HX.out]; rfl, hw2⟩
    · by_cases hq : q3 = q1
      · have hne : ((q3 : Int) != (q1 : Int)) = false := by simp [hq]
        have HQ := Lib.hid hq
        clear hq
        go_wp2_with (first | (go_at_call 13; (with_reducible refine (HV _ hL).mono ?_); rintro e w1 ⟨rfl, hb1⟩; have hw1 := bstep hL hb1; have r1 := Go.Proofs.Ytokbipfkpojflaa.Sl.cell_kept p1 hb1) | (go_at_call 83; (with_reducible refine (HA _ hw1).mono ?_); rintro e w2 ⟨rfl, hb2⟩; have hw2 := bstep hw1 hb2; have s1 := Go.Proofs.Ytokbipfkpojflaa.Sl.cell_kept r1 hb2))
        go_loopw [5] (fun i wr => ∃ k : Nat, k ≤ q3 ∧ i = .int .i64 k ∧ Hid (eqK (s.cols.drop k) (l.drop k) = Z) ∧ Below w2.heap.size w2 wr) (fun i _ => q3 - (intOf i).toNat)
        case atStart => exact ⟨0, Nat.zero_le _, rfl, Lib.hid HZ.out, Below.refl _ _⟩
        case round =>
          obtain ⟨k, hk, rfl, HI, hR⟩ := hrel
          have hw3 := bstep hw2 hR
          by_cases hlt2 : k < q3
          · obtain ⟨g, off, cp, e1, hc⟩ := (HQ1.out ▸ HC1.out : Cs w (.slice a1 s.cols.length c1) s.cols).open (by rw [← HQ1.out, ← HQ.out]; omega)
            obtain ⟨g2, off2, cp2, e2, hc2⟩ := (HQ3.out ▸ HV1.out : Vs w (.slice va l.length vc) l).open (by rw [← HQ3.out]; omega)
            simp only [Value.slice.injEq] at e1 e2
            obtain ⟨rfl, _, rfl⟩ := e1
            obtain ⟨rfl, _, rfl⟩ := e2
            obtain ⟨⟨c, x⟩, ht⟩ : ∃ t, s.cols[k]? = some t := ⟨_, List.getElem?_eq_getElem (by rw [← HQ1.out, ← HQ.out]; exact hlt2)⟩
            obtain ⟨⟨q, m, t⟩, ht2⟩ : ∃ t, l[k]? = some t := ⟨_, List.getElem?_eq_getElem (by rw [← HQ3.out]; exact hlt2)⟩
            have hst := eqK_step s.cols l k _ _ ht ht2
            rw [HI.out] at hst
            obtain ⟨c0, c1'⟩ := cs_get hc ht
            obtain ⟨x0, x1, x2⟩ := vs_get hc2 ht2
            have g1 := cell_regrown (Go.Proofs.Ytokbipfkpojflaa.Sl.cell_kept c1' hw3)
            have g2' := cell_regrown (Go.Proofs.Ytokbipfkpojflaa.Sl.cell_kept x0 hw3)
            have g3 := cell_regrown (Go.Proofs.Ytokbipfkpojflaa.Sl.cell_kept s1 hR)
            dsimp only at hst
            have k0 : (0 : Int) ≤ (k : Int) := by omega
            have k1 : (k : Int) < (q3 : Int) := by omega
            have k2 : (k : Int) < (q1 : Int) := by have := HQ.out; omega
            clear ht ht2 c0 c1' x0 x1 x2 hc hc2
            by_cases hxq : x = q
            · have HS := Lib.hid (show eqK (s.cols.drop (k + 1)) (l.drop (k + 1)) = Z by rw [hst]; simp [hxq])
              have hnq : (q != x) = false := by simp [hxq]
              clear hst hxq
              go_upto_region 8 with fail
              refine wp_region_quiet_below (by kernel_rfl) (by kernel_rfl) ?_
              repeat (go_big_quiet_step (fail))
              refine wpQuiet_nil ?_
              intro _ hw9
              obtain ⟨⟨dq, osq⟩, hw9⟩ := hw9
              subst hw9
              have hL5 := bstep hR (below_regrown wr dq osq)
              go_wp2
              go_roundw
              case rel => exact ⟨k + 1, by omega, by go_num, HS, hL5⟩
              case measure => simp [intOf]; omega
            · have HS := Lib.hid (show Z = false by rw [hst]; simp [hxq])
              have hnq : (q != x) = true := by simpa using fun h => hxq h.symm
              clear hst hxq
              go_upto_region 8 with fail
              refine wp_region_quiet_below (by kernel_rfl) (by kernel_rfl) ?_
              repeat (go_big_quiet_step (fail))
              refine wpQuiet_nil ?_
              intro _ hw9
              obtain ⟨⟨dq, osq⟩, hw9⟩ := hw9
              subst hw9
              have hL5 := bstep hw3 (below_regrown wr dq osq)
              go_wp2
              go_ret
              exact ⟨by rw [← HX.out, HS.out]; rfl, hL5⟩
          · go_wp2
            go_ret
            refine ⟨?_, hw3⟩
            have := HI.out
            rw [List.drop_of_length_le (by rw [← HQ1.out, ← HQ.out]; omega), List.drop_of_length_le (by rw [← HQ3.out]; omega)] at this
            rw [← HX.out, ← this]; rfl
      · have hne : ((q3 : Int) != (q1 : Int)) = true := by simpa using (show ¬ (q3 : Int) = (q1 : Int) by omega)
        have hE := Lib.hid (show R = 13 by rw [← HX.out, ← HZ.out, eqK_len _ _ (by have := HQ1.out; have := HQ3.out; omega)]; rfl)
        go_wp2_with (first | (go_at_call 13; (with_reducible refine (HV _ hL).mono ?_); rintro e w1 ⟨rfl, hb1⟩; have hw1 := bstep hL hb1; have r1 := Go.Proofs.Ytokbipfkpojflaa.Sl.cell_kept p1 hb1) | (go_at_call 83; (with_reducible refine (HA _ hw1).mono ?_); rintro e w2 ⟨rfl, hb2⟩; have hw2 := bstep hw1 hb2; have s1 := Go.Proofs.Ytokbipfkpojflaa.Sl.cell_kept r1 hb2))
        go_ret
        exact ⟨by rw [hE.out]; rfl, hw2⟩
end Go.Proofs.Ytokbipfkpojflaa.Sc
