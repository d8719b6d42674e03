/-
  The walk of the law SchemaFinds (layer 34).
-/
import Derived.Test.YtokbipfkpojflaaSsm
import Derived.Test.YtokbipfkpojflaaSrf
import Derived.Test.YtokbipfkpojflaaSop
set_option linter.unusedSimpArgs false
set_option linter.unusedVariables false
namespace Go.Proofs.Ytokbipfkpojflaa.Sc
open Go Go.RowKit Go.ChangeShapes Go.WideShapes Go.Proofs.Ytokbipfkpojflaa.Sl Go.Lib
open Go.Proofs.Ytokbipfkpojflaa.Va (Cl flatC Cs idxC)

theorem grS_cols {l : List Sch} (h : grL l = false) : l.length ≤ 12 ∧ ∀ s ∈ l, s.cols.length ≤ 20 ∧ s.frn.length ≤ 20 ∧ ∀ f ∈ s.frn, f.cols.length ≤ 20 := by
  unfold grL at h
  simp only [Bool.or_eq_false_iff, decide_eq_false_iff_not, List.any_eq_false] at h
  refine ⟨by omega, fun s hs => ?_⟩
  have h2 := h.2 s hs
  unfold grS at h2
  simp only [Bool.or_eq_true, decide_eq_true_eq, not_or, Bool.not_eq_true, List.any_eq_false] at h2
  refine ⟨by omega, by omega, fun f hf => ?_⟩
  have := h2.2 f hf
  unfold grF at this
  have := of_decide_eq_false this
  omega
set_option maxRecDepth 20000 in
set_option maxHeartbeats 4000000 in
theorem finds_tail (l : List Sch) (name : ByteArray) (v : Value) (w : World) (h12 : l.length ≤ 12) (hb : ∀ s ∈ l, s.cols.length ≤ 20 ∧ s.frn.length ≤ 20 ∧ ∀ f ∈ s.frn, f.cols.length ≤ 20) (hs : LsAt w v l) (hg : grL l = false)
    (z : Int) (hz : fndS name 0 l = z) (x : Sch) (hx : 0 ≤ z → l[z.toNat]? = some x) :
    Calls Try.prog 8 #[v, .string name] w fun e w' => e = .returned (.bool true) ∧ Below w.heap.size w w' := by
  have HG := fun W (h : Below w.heap.size w W) => great_any l v W (hs.below h)
  rw [hg] at HG
  have HFI := fun W (h : Below w.heap.size w W) => find_any l (by omega) v name W (hs.below h)
  have hl2 : ∀ s ∈ l, s.frn.length ≤ 1000000 := fun s hs => by have := (hb s hs).2.1; omega
  have HR1 := fun W (h : Below w.heap.size w W) => refersL_any l name v W (by omega) hl2 (hs.below h)
  have HR2 := fun W (h : Below w.heap.size w W) => rrefersL_any l name v W (by omega) hl2 (hs.below h)
  have HEQ := fun (a b : Value) W (ha : Ss W a (refL name l)) (hb : Ss W b (refL name l)) => eqs_any (refL name l) a b W (by
    have := refL_len name l l.length
    rw [List.take_length] at this
    omega) ha hb
  obtain ⟨a, c, rfl, _⟩ := Nest.form hs
  have HRF := fun W (h : Below w.heap.size w W) => rfind_any l a l.length c name W rfl (by omega) (hs.below h)
  rw [hz] at HRF
  obtain ⟨n, hn⟩ : ∃ n, n = l.length := ⟨_, rfl⟩
  have HS := Lib.hid hs
  have HN := Lib.hid hn
  have HB := Lib.hid hb
  have HZ := Lib.hid hz
  have HX := Lib.hid hx
  rw [← hn] at HG HFI HR1 HR2 HRF h12 ⊢
  clear hs hn hb hg hl2 hz hx
  generalize refL name l = RL at HR1 HR2 HEQ
  by_cases hzn : z < 0
  · have HF0 : ∀ W, Below w.heap.size w W → Calls Try.prog 30 #[.slice a n c, .string name] W fun e w' => e = .returned (.tuple #[.agg #[.string ⟨#[]⟩, .slice none 0 0, .int .i64 0, .slice none 0 0], .bool false]) ∧ Below W.heap.size W w' := fun W h => (HFI W h).mono (by
      rintro e w' ⟨u, rfl, hv, hb⟩
      rcases hv with ⟨_, rfl⟩ | ⟨y, _, _, _, _, h0, _⟩
      · exact ⟨rfl, hb⟩
      · rw [HZ.out] at h0; omega)
    have HSM := fun W => same_any sch0 (by decide) (by decide) (fun f hf => by cases hf) none none none none 0 0 0 0 W (Sl.mk0 ..) (Sl.mk0 ..) (FsAt.nil ..) (FsAt.nil ..)
    change ∀ W, Calls Try.prog 23 #[.agg #[.string ⟨#[]⟩, .slice none 0 0, .int .i64 0, .slice none 0 0], .agg #[.string ⟨#[]⟩, .slice none 0 0, .int .i64 0, .slice none 0 0]] W _ at HSM
    have hz2 : ¬ 0 ≤ z := by omega
    have hz3 : decide (0 ≤ z) = false := decide_eq_false hz2
    have hz4 : (false != decide (0 ≤ z)) = false := by rw [hz3]; rfl
    clear HFI
    go_enter Try.func8, Try.ntmps8
    go_upto_region 7 with (first | (go_at_call 10; (with_reducible refine (awake_any _).mono ?_); rintro e w1 ⟨rfl, hb1⟩) | (go_at_call 11; (with_reducible refine (HG _ hb1).mono ?_); rintro e w2 ⟨rfl, hb2⟩; have hw2 := bstep hb1 hb2) | (go_at_call 30; (with_reducible refine (HF0 _ hw2).mono ?_); rintro e w3 ⟨rfl, hb3⟩; have hw3 := bstep hw2 hb3) | (go_at_call 32; (with_reducible refine (HRF _ (hw3.alloc hw3.size _)).mono ?_); rintro e w4 ⟨rfl, rfl⟩))
    obtain ⟨W4, hW4⟩ : ∃ W4, w3.alloc (.cells #[.string ⟨#[]⟩, .slice none 0 0, .int .i64 0, .slice none 0 0] 28) = W4 := ⟨_, rfl⟩
    obtain ⟨hL4, hlt4, p0, p1, p2, p3⟩ := box4n hW4
    rw [hW4]
    clear hW4
    have hw4 := bstep hw3 hL4
    have g0 := cell_regrown p0
    have g1 := cell_regrown p1
    have g2 := cell_regrown p2
    have g3 := cell_regrown p3
    refine wp_region_quiet_below (by kernel_rfl) (by kernel_rfl) ?_
    repeat (go_big_quiet_step (first | (go_at_call 23; with_reducible exact Calls.regrown_of (HSM _))))
    refine wpQuiet_nil ?_
    intro _ hw9
    obtain ⟨⟨dq, osq⟩, hw9⟩ := hw9
    subst hw9
    have hw5 := bstep hw4 (below_regrown W4 dq osq)
    clear hw4 HSM
    generalize Go.Sort.grow (redrawn W4 dq) osq = W5 at hw5 ⊢
    go_wp2
    go_loopw [51] (fun i wr => ∃ k : Nat, k ≤ n ∧ i = .int .i64 k ∧ Below w.heap.size w wr) (fun i _ => n - (intOf i).toNat)
    case atStart => exact ⟨0, Nat.zero_le _, rfl, hw5⟩
    case round =>
      obtain ⟨k, hk, rfl, hR⟩ := hrel
      by_cases hlt : k < n
      · obtain ⟨g, off, cp, e1, hc⟩ := ls_get HS.out (by rw [← HN.out]; omega)
        rw [← HN.out] at e1
        cases e1
        obtain ⟨y, ht⟩ : ∃ t, l[k]? = some t := ⟨_, List.getElem?_eq_getElem (by rw [← HN.out]; exact hlt)⟩
        obtain ⟨b1, d1, b2, d2, hcs, hfs, z0, z1, z2, z3⟩ := hc k y ht
        have x0 := Go.Proofs.Ytokbipfkpojflaa.Sl.cell_kept z0 hR
        have x1 := Go.Proofs.Ytokbipfkpojflaa.Sl.cell_kept z1 hR
        have x2 := Go.Proofs.Ytokbipfkpojflaa.Sl.cell_kept z2 hR
        have x3 := Go.Proofs.Ytokbipfkpojflaa.Sl.cell_kept z3 hR
        have k0 : (0 : Int) ≤ (k : Int) := by omega
        have k1 : (k : Int) < (n : Int) := by omega
        have hyb := (HB.out y (List.mem_of_getElem? ht)).1
        have HC1 := fun W (h : Below w.heap.size w W) => column_any y.name y.key (.slice b2 y.frn.length d2) y.cols (.slice b1 y.cols.length d1) name W (by omega) (hcs.below h)
        have HC2 := fun W (h : Below w.heap.size w W) => rcolumn_any y.name y.key b2 y.frn.length d2 y.cols b1 y.cols.length d1 name W rfl (by omega) (hcs.below h)
        generalize idxC name 0 y.cols = cz at HC1 HC2
        generalize y.cols.length = q1 at *
        generalize y.frn.length = q2 at *
        generalize y.name = nm at *
        generalize y.key = ky at *
        clear hc ht hcs hfs z0 z1 z2 z3
        go_upto_region 12 with fail
        obtain ⟨W2, hW2⟩ : ∃ W2, wr.alloc (.cells #[.string nm, .slice b1 q1 d1, .int .i64 ky, .slice b2 q2 d2] 28) = W2 := ⟨_, rfl⟩
        obtain ⟨hL2, hlt2, p0, p1, p2, p3⟩ := box4n hW2
        rw [hW2]
        clear hW2 x0 x1 x2 x3
        have hw3 := bstep hR hL2
        have g0 := cell_regrown p0
        have g1 := cell_regrown p1
        have g2 := cell_regrown p2
        have g3 := cell_regrown p3
        refine wp_region_quiet_below (by kernel_rfl) (by kernel_rfl) ?_
        repeat (go_big_quiet_step (first | (go_at_call 33; with_reducible exact Calls.regrown_of (HC1 _ (bstep hw3 (below_regrown _ _ _)))) | (go_at_call 34; with_reducible exact Calls.regrown_of (HC2 _ (bstep hw3 (below_regrown _ _ _))))))
        refine wpQuiet_nil ?_
        intro _ hw9
        obtain ⟨⟨dq2, osq2⟩, hw9⟩ := hw9
        subst hw9
        have hL5 := bstep hw3 (below_regrown W2 dq2 osq2)
        go_wp2
        go_roundw
        case rel => exact ⟨k + 1, by omega, by go_num, hL5⟩
        case measure => simp [intOf]; omega
      · go_wp2_with (first | (go_at_call 35; (with_reducible refine (HR1 _ hR).mono ?_); rintro e w6 ⟨o1, rfl, hT1⟩; have hb6 := bstep hR hT1.2; have hS1 := hT1.ss) | (go_at_call 36; (with_reducible refine (HR2 _ hb6).mono ?_); rintro e w7 ⟨o2, rfl, hT2⟩; have hb7 := bstep hb6 hT2.2; have hS2 := hT2.ss; have hS17 := hS1.below hT2.2) | (go_at_call 20; (with_reducible refine (HEQ _ _ _ hS17 hS2).mono ?_); rintro e w8 ⟨rfl, hb8⟩))
        go_ret
        exact ⟨rfl, bstep hb7 hb8⟩
  · have hx2 := HX.out (by omega)
    obtain ⟨zn, rfl⟩ : ∃ zn : Nat, z = (zn : Int) := ⟨z.toNat, by omega⟩
    rw [Int.toNat_natCast] at hx2
    obtain ⟨g, off, cp, e1, hc⟩ := ls_get HS.out (by have := (List.getElem?_eq_some_iff.1 hx2).1; omega)
    rw [← HN.out] at e1
    cases e1
    obtain ⟨b1, d1, b2, d2, hcs, hfs, z0, z1, z2, z3⟩ := hc zn x hx2
    obtain ⟨v1, v2, v3⟩ := HB.out x (List.mem_of_getElem? hx2)
    have HF1 : ∀ W, Below w.heap.size w W → Calls Try.prog 30 #[.slice (some ⟨g, off, none⟩) n c, .string name] W fun e w' => ∃ a1 a2 c1 c2, e = .returned (.tuple #[.agg #[.string x.name, .slice a1 x.cols.length c1, .int .i64 x.key, .slice a2 x.frn.length c2], .bool true]) ∧ Cs w' (.slice a1 x.cols.length c1) x.cols ∧ FsAt w' (.slice a2 x.frn.length c2) x.frn ∧ Below W.heap.size W w' := fun W h => (HFI W h).mono (by
      rintro e w' ⟨u, rfl, hv, hb⟩
      rcases hv with ⟨h0, _⟩ | ⟨y, a1, a2, c1, c2, _, h1, h2, h3, rfl⟩
      · rw [HZ.out] at h0; omega
      · rw [HZ.out, Int.toNat_natCast, hx2] at h1
        cases h1
        exact ⟨a1, a2, c1, c2, rfl, h2, h3, hb⟩)
    have hzl : (zn : Int) < (n : Int) := by have := (List.getElem?_eq_some_iff.1 hx2).1; have := HN.out; omega
    have hz0 : (0 : Int) ≤ (zn : Int) := by omega
    have hz3 : decide ((0 : Int) ≤ (zn : Int)) = true := decide_eq_true hz0
    have hz4 : (true != decide ((0 : Int) ≤ (zn : Int))) = false := by rw [hz3]; rfl
    have HSM0 := fun (a1 a2 : Option Addr) (c1 c2 : Nat) W (h1 : Cs W (.slice a1 x.cols.length c1) x.cols) (h2 : FsAt W (.slice a2 x.frn.length c2) x.frn) (h : Below w.heap.size w W) => same_any x (by omega) (by omega) (fun f hf => by have := v3 f hf; omega) a1 b1 a2 b2 c1 d1 c2 d2 W h1 (hcs.below h) h2 (hfs.below (fun r x hx => hx.below h) h)
    clear HFI hc hcs hfs hx2 v1 v2 v3 hzn HX HZ
    generalize hq1 : x.cols.length = q1 at *
    generalize hq2 : x.frn.length = q2 at *
    generalize x.name = xn at *
    generalize x.key = xk at *
    clear hq1 hq2
    go_enter Try.func8, Try.ntmps8
    go_upto_region 7 with (first | (go_at_call 10; (with_reducible refine (awake_any _).mono ?_); rintro e w1 ⟨rfl, hb1⟩) | (go_at_call 11; (with_reducible refine (HG _ hb1).mono ?_); rintro e w2 ⟨rfl, hb2⟩; have hw2 := bstep hb1 hb2) | (go_at_call 30; (with_reducible refine (HF1 _ hw2).mono ?_); rintro e w3 ⟨a1, a2, c1, c2, rfl, hcs3, hfs3, hb3⟩; have hw3 := bstep hw2 hb3) | (go_at_call 32; (with_reducible refine (HRF _ (hw3.alloc hw3.size _)).mono ?_); rintro e w4 ⟨rfl, rfl⟩))
    obtain ⟨W4, hW4⟩ : ∃ W4, w3.alloc (.cells #[.string xn, .slice a1 q1 c1, .int .i64 xk, .slice a2 q2 c2] 28) = W4 := ⟨_, rfl⟩
    obtain ⟨hL4, hlt4, p0, p1, p2, p3⟩ := box4n hW4
    rw [hW4]
    clear hW4
    have hw4 := bstep hw3 hL4
    have g0 := cell_regrown p0
    have g1 := cell_regrown p1
    have g2 := cell_regrown p2
    have g3 := cell_regrown p3
    have HSM := fun d os => HSM0 a1 a2 c1 c2 (Go.Sort.grow (redrawn W4 d) os) (hcs3.below (bstep hL4 (below_regrown W4 d os))) (hfs3.below (fun r x hx => hx.below (bstep hL4 (below_regrown W4 d os))) (bstep hL4 (below_regrown W4 d os))) (bstep hw4 (below_regrown W4 d os))
    have m0 := cell_regrown (Go.Proofs.Ytokbipfkpojflaa.Sl.cell_kept z0 hw4)
    have m1 := cell_regrown (Go.Proofs.Ytokbipfkpojflaa.Sl.cell_kept z1 hw4)
    have m2 := cell_regrown (Go.Proofs.Ytokbipfkpojflaa.Sl.cell_kept z2 hw4)
    have m3 := cell_regrown (Go.Proofs.Ytokbipfkpojflaa.Sl.cell_kept z3 hw4)
    clear HSM0 hcs3 hfs3 z0 z1 z2 z3
    refine wp_region_quiet_below (by kernel_rfl) (by kernel_rfl) ?_
    repeat (go_big_quiet_step (first | (go_at_call 23; with_reducible exact Calls.regrown_of (HSM _ _))))
    refine wpQuiet_nil ?_
    intro _ hw9
    obtain ⟨⟨dq, osq⟩, hw9⟩ := hw9
    subst hw9
    have hw5 := bstep hw4 (below_regrown W4 dq osq)
    clear hw4 HSM
    generalize Go.Sort.grow (redrawn W4 dq) osq = W5 at hw5 ⊢
    go_wp2
    go_loopw [51] (fun i wr => ∃ k : Nat, k ≤ n ∧ i = .int .i64 k ∧ Below w.heap.size w wr) (fun i _ => n - (intOf i).toNat)
    case atStart => exact ⟨0, Nat.zero_le _, rfl, hw5⟩
    case round =>
      obtain ⟨k, hk, rfl, hR⟩ := hrel
      by_cases hlt : k < n
      · obtain ⟨g, off, cp, e1, hc⟩ := ls_get HS.out (by rw [← HN.out]; omega)
        rw [← HN.out] at e1
        cases e1
        obtain ⟨y, ht⟩ : ∃ t, l[k]? = some t := ⟨_, List.getElem?_eq_getElem (by rw [← HN.out]; exact hlt)⟩
        obtain ⟨b1, d1, b2, d2, hcs, hfs, z0, z1, z2, z3⟩ := hc k y ht
        have x0 := Go.Proofs.Ytokbipfkpojflaa.Sl.cell_kept z0 hR
        have x1 := Go.Proofs.Ytokbipfkpojflaa.Sl.cell_kept z1 hR
        have x2 := Go.Proofs.Ytokbipfkpojflaa.Sl.cell_kept z2 hR
        have x3 := Go.Proofs.Ytokbipfkpojflaa.Sl.cell_kept z3 hR
        have k0 : (0 : Int) ≤ (k : Int) := by omega
        have k1 : (k : Int) < (n : Int) := by omega
        have hyb := (HB.out y (List.mem_of_getElem? ht)).1
        have HC1 := fun W (h : Below w.heap.size w W) => column_any y.name y.key (.slice b2 y.frn.length d2) y.cols (.slice b1 y.cols.length d1) name W (by omega) (hcs.below h)
        have HC2 := fun W (h : Below w.heap.size w W) => rcolumn_any y.name y.key b2 y.frn.length d2 y.cols b1 y.cols.length d1 name W rfl (by omega) (hcs.below h)
        generalize idxC name 0 y.cols = cz at HC1 HC2
        generalize y.cols.length = q1 at *
        generalize y.frn.length = q2 at *
        generalize y.name = nm at *
        generalize y.key = ky at *
        clear hc ht hcs hfs z0 z1 z2 z3
        go_upto_region 12 with fail
        obtain ⟨W2, hW2⟩ : ∃ W2, wr.alloc (.cells #[.string nm, .slice b1 q1 d1, .int .i64 ky, .slice b2 q2 d2] 28) = W2 := ⟨_, rfl⟩
        obtain ⟨hL2, hlt2, p0, p1, p2, p3⟩ := box4n hW2
        rw [hW2]
        clear hW2 x0 x1 x2 x3
        have hw3 := bstep hR hL2
        have g0 := cell_regrown p0
        have g1 := cell_regrown p1
        have g2 := cell_regrown p2
        have g3 := cell_regrown p3
        refine wp_region_quiet_below (by kernel_rfl) (by kernel_rfl) ?_
        repeat (go_big_quiet_step (first | (go_at_call 33; with_reducible exact Calls.regrown_of (HC1 _ (bstep hw3 (below_regrown _ _ _)))) | (go_at_call 34; with_reducible exact Calls.regrown_of (HC2 _ (bstep hw3 (below_regrown _ _ _))))))
        refine wpQuiet_nil ?_
        intro _ hw9
        obtain ⟨⟨dq2, osq2⟩, hw9⟩ := hw9
        subst hw9
        have hL5 := bstep hw3 (below_regrown W2 dq2 osq2)
        go_wp2
        go_roundw
        case rel => exact ⟨k + 1, by omega, by go_num, hL5⟩
        case measure => simp [intOf]; omega
      · go_wp2_with (first | (go_at_call 35; (with_reducible refine (HR1 _ hR).mono ?_); rintro e w6 ⟨o1, rfl, hT1⟩; have hb6 := bstep hR hT1.2; have hS1 := hT1.ss) | (go_at_call 36; (with_reducible refine (HR2 _ hb6).mono ?_); rintro e w7 ⟨o2, rfl, hT2⟩; have hb7 := bstep hb6 hT2.2; have hS2 := hT2.ss; have hS17 := hS1.below hT2.2) | (go_at_call 20; (with_reducible refine (HEQ _ _ _ hS17 hS2).mono ?_); rintro e w8 ⟨rfl, hb8⟩))
        go_ret
        exact ⟨rfl, bstep hb7 hb8⟩
set_option maxRecDepth 20000 in
theorem schemaFinds_walk (v : Value) (l : List Sch) (name : ByteArray) (w : World) (hs : LsAt w v l) (hl : l.length ≤ 9223372036854775807) (hg : ∀ s ∈ l, szS s) {p : Prop} (hnm : p) : Calls Try.prog 8 #[v, .string name] w fun e w' => e = .returned (.bool true) ∧ Below w.heap.size w w' := by
  cases hgl : grL l
  · obtain ⟨h12, hb⟩ := grS_cols hgl
    refine finds_tail l name v w h12 hb hs hgl _ rfl ((l[(fndS name 0 l).toNat]?).getD default) (fun h => ?_)
    have hge := fndS_ge name l 0
    have hlt : (fndS name 0 l).toNat < l.length := by omega
    rw [List.getElem?_eq_getElem hlt]
    rfl
  · have HG := fun W (h : Below w.heap.size w W) => great_any l v W (hs.below h)
    rw [hgl] at HG
    obtain ⟨a, c, rfl, _⟩ := Nest.form hs
    obtain ⟨n, hn⟩ : ∃ n, n = l.length := ⟨_, rfl⟩
    rw [← hn] at HG ⊢
    clear hs hgl hg hn hl
    go_enter Try.func8, Try.ntmps8
    go_wp2_with (first | (go_at_call 10; (with_reducible refine (awake_any _).mono ?_); rintro e w1 ⟨rfl, hb1⟩) | (go_at_call 11; (with_reducible refine (HG _ hb1).mono ?_); rintro e w2 ⟨rfl, hb2⟩; have hw2 := bstep hb1 hb2))
    go_ret
    exact ⟨rfl, hw2⟩
end Go.Proofs.Ytokbipfkpojflaa.Sc
