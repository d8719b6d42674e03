/-
  The walk of the law SchemaRows (layer 34).
-/
import Derived.Test.YtokbipfkpojflaaSrb
set_option linter.unusedSimpArgs false
set_option linter.unusedVariables false
namespace Go.Proofs.Ytokbipfkpojflaa.Va
open Go Go.RowKit Go.ChangeShapes Go.WideShapes Go.Deep Go.Proofs.Ytokbipfkpojflaa.Sl Go.Proofs.Ytokbipfkpojflaa.Opn
open Go.Proofs.Ytokbipfkpojflaa.Sc (open_l cstr ci Cap maxLen_is)

section
variable {H : Type} {enc : TypeId × Value → H} {w : World} {base : Nat} {spare : Nat → Bool} {held : Bool}
theorem cval : Try.prog.cellsOf 72 = 3 := by kernel_rfl
theorem len3 {cs : List Value} (h : cs.length = 3) : ∃ a b c, cs = [a, b, c] := by
  match cs, h with
  | [a, b, c], _ => exact ⟨a, b, c, rfl⟩
def GoodV (u : V3) : Prop := u.2.2.size ≤ 9223372036854775807
theorem trod_v3 {n : Nat} {cs : List Value} {y : DataW H × List MemPlace} (h : DataW.trod enc Try.prog w base spare held n 72 cs = some y) : ∃ u : V3, cs = rowV u ∧ GoodV u := by
  obtain ⟨y0, y1, y2, n, _, hl, h0, h1, h2⟩ := trod_struct3 Try.underlying72 h
  rw [cval] at hl
  obtain ⟨a, b, c, rfl⟩ := len3 hl
  simp only [ci, cstr, List.drop_zero, List.take_succ_cons, List.take_zero, List.drop_succ_cons] at h0 h1 h2
  obtain ⟨z0, rfl, hz0⟩ := trod_cell Try.underlying3 h0
  obtain ⟨z1, rfl, hz1⟩ := trod_cell Try.underlying3 h1
  obtain ⟨z2, rfl, hz2⟩ := trod_str Try.underlying9 h2
  exact ⟨(z0, z1, z2), rfl, Nat.le_trans hz2 (Nat.le_of_eq maxLen_is)⟩
set_option maxRecDepth 100000 in
theorem open_vals {v : Value} {d : DataW H} {p : List MemPlace} {r : Reach} {b0 : Nat} (hv : Value.okWide Try.prog w r b0 66 v) (h : DataW.Trod enc Try.prog w base spare held 66 v d p) :
    ∃ l : List V3, (Vs w v l ∧ Cap v) ∧ l.length ≤ 9223372036854775807 ∧ ∀ u ∈ l, GoodV u := by
  obtain ⟨a, len, cap, rfl⟩ := okWide_slice Try.underlying66 hv
  obtain ⟨fuel, hf⟩ := h
  obtain ⟨ad, cap2, l, hcs, hl, hm, hs, hg⟩ := open_l rowV GoodV Try.underlying66 cval (by decide) (fun n cs y _ h => trod_v3 h) hf
  simp [Value.cells] at hcs
  obtain ⟨rfl, rfl, rfl⟩ := hcs
  exact ⟨l, ⟨hs, Cap.mk hl⟩, Nat.le_trans hl (Nat.le_trans hm (Nat.le_of_eq maxLen_is)), hg⟩
end
end Go.Proofs.Ytokbipfkpojflaa.Va
namespace Go.Proofs.Ytokbipfkpojflaa.Sc
open Go Go.RowKit Go.ChangeShapes Go.WideShapes Go.Proofs.Ytokbipfkpojflaa.Sl Go.Lib
open Go.Proofs.Ytokbipfkpojflaa.Va (Cl flatC Cs cs_get V3 Vs flatV flatV_len vs_get allV agV SzL rowV rall_any equal_any)
theorem grS_small {s : Sch} (h : grL [s] = false) : s.cols.length ≤ 20 := by
  unfold grL grS at h
  simp only [List.length_singleton, List.any_cons, List.any_nil, Bool.or_false, Bool.or_eq_false_iff, decide_eq_false_iff_not] at h
  omega
set_option maxRecDepth 20000 in
set_option maxHeartbeats 2000000 in
theorem rows_far (cs : List Value) (s : Sch) (v : Value) (l : List V3) (w : World) (hs : ScAt w cs s) (hv : Vs w v l) (h : grL [s] = true ∨ 20 < l.length) : Calls Try.prog 9 #[.agg cs.toArray, v] w fun e w' => e = .returned (.bool true) ∧ Below w.heap.size w w' := by
  obtain ⟨a1, c1, a2, c2, rfl, h1, h2⟩ := hs.shape
  have HG := fun W (h : Below w.heap.size w W) => great_any [s] (.slice (some ⟨W.heap.size, 0, none⟩) 1 1) _ (one_ls (t := 28) hs W h)
  obtain ⟨va, vc, rfl⟩ := hv.form
  generalize grL [s] = gr at HG h
  generalize s.cols.length = q1 at *
  generalize s.frn.length = q2 at *
  generalize s.name = nm at *
  generalize s.key = ky at *
  generalize l.length = q3 at *
  clear hs h1 h2 hv
  show Calls Try.prog 9 #[.agg #[.string nm, .slice a1 q1 c1, .int .i64 ky, .slice a2 q2 c2], _] w _
  go_enter Try.func9, Try.ntmps9
  go_upto_region 1 with fail
  obtain ⟨W0, hW⟩ : ∃ W0, w.alloc (.cells #[.string nm, .slice a1 q1 c1, .int .i64 ky, .slice a2 q2 c2] 28) = W0 := ⟨_, rfl⟩
  have hb0 : Bx W0 w.heap.size 28 #[.string nm, .slice a1 q1 c1, .int .i64 ky, .slice a2 q2 c2] := hW ▸ Bx.new w _ _
  have hL0 : Below w.heap.size w W0 := hW ▸ (Below.refl _ w).alloc (Nat.le_refl _) _
  rw [hW]
  clear hW
  generalize w.heap.size = B at hb0 ⊢
  go_upto_region 3 with (go_at_call 10; (with_reducible refine (awake_any _).mono ?_); rintro e w1 ⟨rfl, hb1⟩)
  have hw1 := bstep hL0 hb1
  have b1 := hb0.below hb1
  have p0 := b1.cell 0 _ rfl
  have p1 := b1.cell 1 _ rfl
  have p2 := b1.cell 2 _ rfl
  have p3 := b1.cell 3 _ rfl
  have hl1 := (Below.refl _ w1).alloc (Nat.le_refl _) (.cells #[.string nm, .slice a1 q1 c1, .int .i64 ky, .slice a2 q2 c2] 28)
  clear hb0 hb1 b1 hL0
  cases gr
  · have h20 : (20 : Int) < (q3 : Int) := by simp at h; omega
    go_wp2_with (go_at_call 11; (with_reducible refine (HG _ hw1).mono ?_); rintro e w2 ⟨rfl, hb2⟩; have hw2 := bstep (bstep hw1 hl1) hb2)
    go_ret
    exact ⟨rfl, hw2⟩
  · go_wp2_with (go_at_call 11; (with_reducible refine (HG _ hw1).mono ?_); rintro e w2 ⟨rfl, hb2⟩; have hw2 := bstep (bstep hw1 hl1) hb2)
    go_ret
    exact ⟨rfl, hw2⟩
set_option maxRecDepth 20000 in
set_option maxHeartbeats 4000000 in
theorem schemaRows_walk (cs : List Value) (s : Sch) (v : Value) (l : List V3) (w : World) (hs : ScAt w cs s) (hg : szS s) (hv : Vs w v l ∧ Cap v) (hll : l.length ≤ 9223372036854775807) (hgv : ∀ u ∈ l, Va.GoodV u) : Calls Try.prog 9 #[.agg cs.toArray, v] w fun e w' => e = .returned (.bool true) ∧ Below w.heap.size w w' := by
  obtain ⟨hv, hcap⟩ := hv
  by_cases hfar : grL [s] = true ∨ 20 < l.length
  · exact rows_far cs s v l w hs hv hfar
  have hgr : grL [s] = false := by cases h : grL [s] <;> simp_all
  have h20 : l.length ≤ 20 := by omega
  have hc20 := grS_small hgr
  obtain ⟨a1, c1, a2, c2, rfl, h1, h2⟩ := hs.shape
  have HG := fun W (h : Below w.heap.size w W) => great_any [s] (.slice (some ⟨W.heap.size, 0, none⟩) 1 1) _ (one_ls (t := 28) hs W h)
  rw [hgr] at HG
  have HR := fun W (h : Below w.heap.size w W) => row_any s l a1 a2 c1 c2 v W (by omega) (by omega) (h1.below h) (h2.below (fun r x hx => hx.below h) h) (hv.below h)
  have HRR := fun W (h : Below w.heap.size w W) => rrow_any s l a1 a2 c1 c2 v W (by omega) (by omega) (fun u hu => hgv u hu) (h1.below h) (h2.below (fun r x hx => hx.below h) h) (hv.below h)
  have HK := fun W (h : Below w.heap.size w W) => key_any s l a1 a2 c1 c2 v W (by omega) (by omega) (h1.below h) (h2.below (fun r x hx => hx.below h) h) (hv.below h) hcap
  unfold KyE at HK
  by_cases hz : rowS s l = 0
  · obtain ⟨g1, g2⟩ := rowS_zero hz
    obtain ⟨k1, k2, k3, _⟩ := vld_key g1
    have ek : keyS s l = l.take s.key.toNat := by unfold keyS; rw [if_pos hz]
    rw [ek] at HK
    rw [hz] at HR HRR
    obtain ⟨va, vc, rfl⟩ := hv.form
    have hvc := hcap.le
    obtain ⟨kn, hkn⟩ : ∃ kn : Nat, s.key = (kn : Int) := ⟨s.key.toNat, by omega⟩
    have hke : s.key.toNat = kn := by omega
    have u1 : kn ≤ vc := by omega
    have u2 : (0 : Int) ≤ (kn : Int) := by omega
    have u3 : (kn : Int) ≤ (vc : Int) := by omega
    have u4 : (l.length : Int) ≤ 20 := by omega
    have HT := fun W (h : Below w.heap.size w W) => vs_take (c2 := vc) kn (by omega) (hv.below h)
    have hll2 : (l.take kn).length ≤ 2000000 := by rw [List.length_take]; omega
    have HE := fun (x y : Value) W (hx : Vs W x (l.take kn)) (hy : Vs W y (l.take kn)) => equal_any (l.take kn) (l.take kn) x y W hll2 hll2 hx hy
    simp only [decide_true] at HE
    rw [hke] at HK
    rw [hkn] at HR HRR HK HG ⊢
    generalize l.take kn = l2 at HT HE HK
    generalize s.cols.length = q1 at *
    generalize s.frn.length = q2 at *
    generalize s.name = nm at *
    generalize l.length = q3 at *
    clear hs hg h1 h2 hv ek hke hkn k1 k2 k3 g1 g2 hz hcap hll hgv hfar hgr h20 hc20 hll2
    show Calls Try.prog 9 #[.agg #[.string nm, .slice a1 q1 c1, .int .i64 (kn : Int), .slice a2 q2 c2], _] w _
    go_enter Try.func9, Try.ntmps9
    go_upto_region 1 with fail
    obtain ⟨W0, hW⟩ : ∃ W0, w.alloc (.cells #[.string nm, .slice a1 q1 c1, .int .i64 (kn : Int), .slice a2 q2 c2] 28) = W0 := ⟨_, rfl⟩
    have hb0 : Bx W0 w.heap.size 28 #[.string nm, .slice a1 q1 c1, .int .i64 (kn : Int), .slice a2 q2 c2] := hW ▸ Bx.new w _ _
    have hL0 : Below w.heap.size w W0 := hW ▸ (Below.refl _ w).alloc (Nat.le_refl _) _
    rw [hW]
    clear hW
    generalize w.heap.size = B at hb0 ⊢
    go_upto_region 3 with (go_at_call 10; (with_reducible refine (awake_any _).mono ?_); rintro e w1 ⟨rfl, hb1⟩)
    have hw1 := bstep hL0 hb1
    have b1 := hb0.below hb1
    have p0 := b1.cell 0 _ rfl
    have p1 := b1.cell 1 _ rfl
    have p2 := b1.cell 2 _ rfl
    have p3 := b1.cell 3 _ rfl
    have HB1 := Lib.hid b1
    have hl1 := (Below.refl _ w1).alloc (Nat.le_refl _) (.cells #[.string nm, .slice a1 q1 c1, .int .i64 (kn : Int), .slice a2 q2 c2] 28)
    clear hb0 hb1 b1 hL0
    go_wp2_with (first | (go_at_call 11; (with_reducible refine (HG _ hw1).mono ?_); rintro e w2 ⟨rfl, hb2⟩; have b2 := (HB1.out.below hl1).below hb2; have hw2 := bstep (bstep hw1 hl1) hb2; have s0 := b2.cell 0 _ rfl; have s1 := b2.cell 1 _ rfl; have s2 := b2.cell 2 _ rfl; have s3 := b2.cell 3 _ rfl) | (go_at_call 37; (with_reducible refine (HRR _ hw2).mono ?_); rintro e w3 ⟨rfl, hb3⟩; have b3 := b2.below hb3; have hw3 := bstep hw2 hb3; have t0 := b3.cell 0 _ rfl; have t1 := b3.cell 1 _ rfl; have t2 := b3.cell 2 _ rfl; have t3 := b3.cell 3 _ rfl) | (go_at_call 38; (with_reducible refine (HK _ hw3).mono ?_); rintro e w4 ⟨ka, kc, rfl, hkv, hb4⟩; have b4 := b3.below hb4; have hw4 := bstep hw3 hb4; have m0 := b4.cell 0 _ rfl; have m1 := b4.cell 1 _ rfl; have m2 := b4.cell 2 _ rfl; have m3 := b4.cell 3 _ rfl) | (go_at_call 39; (with_reducible refine (HR _ hw4).mono ?_); rintro e w5 ⟨rfl, hb5⟩; have b5 := b4.below hb5; have hw5 := bstep hw4 hb5; have hkv5 := hkv.below hb5; have n0 := b5.cell 0 _ rfl; have n1 := b5.cell 1 _ rfl; have n2 := b5.cell 2 _ rfl; have n3 := b5.cell 3 _ rfl) | (go_at_call 40; (with_reducible refine (HE _ _ _ hkv5 (HT _ hw5)).mono ?_); rintro e w6 ⟨rfl, hb6⟩; have hw6 := bstep hw5 hb6))
    go_ret
    exact ⟨by first | rfl | simp, hw6⟩
  · have ek : keyS s l = [] := by unfold keyS; rw [if_neg hz]
    rw [ek] at HK
    simp only [List.length_nil] at HK
    have hz2 : (rowS s l != 0) = true := by simpa using hz
    have hz3 : (rowS s l == 0) = false := by simpa using hz
    generalize rowS s l = r at *
    obtain ⟨va, vc, rfl⟩ := hv.form
    have u4 : (l.length : Int) ≤ 20 := by omega
    generalize s.cols.length = q1 at *
    generalize s.frn.length = q2 at *
    generalize s.name = nm at *
    generalize s.key = ky at *
    generalize l.length = q3 at *
    clear hs hg h1 h2 hv ek hcap hll hgv hfar hgr h20 hc20
    show Calls Try.prog 9 #[.agg #[.string nm, .slice a1 q1 c1, .int .i64 ky, .slice a2 q2 c2], _] w _
    go_enter Try.func9, Try.ntmps9
    go_upto_region 1 with fail
    obtain ⟨W0, hW⟩ : ∃ W0, w.alloc (.cells #[.string nm, .slice a1 q1 c1, .int .i64 ky, .slice a2 q2 c2] 28) = W0 := ⟨_, rfl⟩
    have hb0 : Bx W0 w.heap.size 28 #[.string nm, .slice a1 q1 c1, .int .i64 ky, .slice a2 q2 c2] := hW ▸ Bx.new w _ _
    have hL0 : Below w.heap.size w W0 := hW ▸ (Below.refl _ w).alloc (Nat.le_refl _) _
    rw [hW]
    clear hW
    generalize w.heap.size = B at hb0 ⊢
    go_upto_region 3 with (go_at_call 10; (with_reducible refine (awake_any _).mono ?_); rintro e w1 ⟨rfl, hb1⟩)
    have hw1 := bstep hL0 hb1
    have b1 := hb0.below hb1
    have p0 := b1.cell 0 _ rfl
    have p1 := b1.cell 1 _ rfl
    have p2 := b1.cell 2 _ rfl
    have p3 := b1.cell 3 _ rfl
    have HB1 := Lib.hid b1
    have hl1 := (Below.refl _ w1).alloc (Nat.le_refl _) (.cells #[.string nm, .slice a1 q1 c1, .int .i64 ky, .slice a2 q2 c2] 28)
    clear hb0 hb1 b1 hL0
    go_wp2_with (first | (go_at_call 11; (with_reducible refine (HG _ hw1).mono ?_); rintro e w2 ⟨rfl, hb2⟩; have b2 := (HB1.out.below hl1).below hb2; have hw2 := bstep (bstep hw1 hl1) hb2; have s0 := b2.cell 0 _ rfl; have s1 := b2.cell 1 _ rfl; have s2 := b2.cell 2 _ rfl; have s3 := b2.cell 3 _ rfl) | (go_at_call 37; (with_reducible refine (HRR _ hw2).mono ?_); rintro e w3 ⟨rfl, hb3⟩; have b3 := b2.below hb3; have hw3 := bstep hw2 hb3; have t0 := b3.cell 0 _ rfl; have t1 := b3.cell 1 _ rfl; have t2 := b3.cell 2 _ rfl; have t3 := b3.cell 3 _ rfl) | (go_at_call 38; (with_reducible refine (HK _ hw3).mono ?_); rintro e w4 ⟨ka, kc, rfl, hkv, hb4⟩; have b4 := b3.below hb4; have hw4 := bstep hw3 hb4; have m0 := b4.cell 0 _ rfl; have m1 := b4.cell 1 _ rfl; have m2 := b4.cell 2 _ rfl; have m3 := b4.cell 3 _ rfl) | (go_at_call 39; (with_reducible refine (HR _ hw4).mono ?_); rintro e w5 ⟨rfl, hb5⟩; have b5 := b4.below hb5; have hw5 := bstep hw4 hb5; have hkv5 := hkv.below hb5; have n0 := b5.cell 0 _ rfl; have n1 := b5.cell 1 _ rfl; have n2 := b5.cell 2 _ rfl; have n3 := b5.cell 3 _ rfl))
    go_ret
    exact ⟨by first | rfl | simp, hw5⟩
end Go.Proofs.Ytokbipfkpojflaa.Sc
