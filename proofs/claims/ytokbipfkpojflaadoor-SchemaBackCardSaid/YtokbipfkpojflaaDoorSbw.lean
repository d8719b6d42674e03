/-
  The walk of the law SchemaBack (layer 34).
-/
import Derived.Test.YtokbipfkpojflaaDoorSbl
import Derived.Test.YtokbipfkpojflaaDoorScG
import Derived.Test.YtokbipfkpojflaaDoorSsm
import Derived.Test.YtokbipfkpojflaaDoorSop
set_option linter.unusedSimpArgs false
set_option linter.unusedVariables false
namespace Go.Proofs.YtokbipfkpojflaaDoor.Sc
open Go Go.RowKit Go.ChangeShapes Go.WideShapes Go.Proofs.YtokbipfkpojflaaDoor.Sl Go.Lib
open Go.Proofs.YtokbipfkpojflaaDoor.Va (Cl flatC Cs)

set_option maxRecDepth 20000 in
set_option maxHeartbeats 2000000 in
theorem back_great (cs : List Value) (s : Sch) (blank : Int) (w : World) (hs : ScAt w cs s) (hg : grL [s] = true) : Calls Tryd.prog 3 #[.agg cs.toArray, .int .u8 blank] w fun e w' => e = .returned (.bool true) ∧ Below w.heap.size w w' := by
  obtain ⟨a1, c1, a2, c2, rfl, h1, h2⟩ := hs.shape
  have HG := fun W (h : Below w.heap.size w W) => great_any [s] (.slice (some ⟨W.heap.size, 0, none⟩) 1 1) _ (one_ls (t := 25) hs W h)
  rw [hg] at HG
  generalize s.cols.length = q1 at *
  generalize s.frn.length = q2 at *
  generalize s.name = nm at *
  generalize s.key = ky at *
  clear hs hg h1 h2
  show Calls Tryd.prog 3 #[.agg #[.string nm, .slice a1 q1 c1, .int .i64 ky, .slice a2 q2 c2], .int .u8 blank] w _
  go_enter Tryd.func3, Tryd.ntmps3
  go_upto_region 1 with fail
  obtain ⟨W0, hW⟩ : ∃ W0, w.alloc (.cells #[.string nm, .slice a1 q1 c1, .int .i64 ky, .slice a2 q2 c2] 25) = W0 := ⟨_, rfl⟩
  have hb0 : Bx W0 w.heap.size 25 #[.string nm, .slice a1 q1 c1, .int .i64 ky, .slice a2 q2 c2] := hW ▸ Bx.new w _ _
  have hL0 : Below w.heap.size w W0 := hW ▸ (Below.refl _ w).alloc (Nat.le_refl _) _
  rw [hW]
  clear hW
  generalize w.heap.size = B at hb0 ⊢
  go_upto_region 3 with (go_at_call 5; (with_reducible refine (awake_any _).mono ?_); rintro e w1 ⟨rfl, hb1⟩)
  have hw1 := bstep hL0 hb1
  have b1 := hb0.below hb1
  have p0 := b1.cell 0 _ rfl
  have p1 := b1.cell 1 _ rfl
  have p2 := b1.cell 2 _ rfl
  have p3 := b1.cell 3 _ rfl
  have HB1 := Lib.hid b1
  have hl1 := (Below.refl _ w1).alloc (Nat.le_refl _) (.cells #[.string nm, .slice a1 q1 c1, .int .i64 ky, .slice a2 q2 c2] 25)
  clear hb0 hb1 b1 hL0
  go_wp2_with (go_at_call 6; (with_reducible refine (HG _ hw1).mono ?_); rintro e w2 ⟨rfl, hb2⟩; have hw2 := bstep (bstep hw1 hl1) hb2)
  go_ret
  exact ⟨rfl, hw2⟩
set_option maxRecDepth 20000 in
set_option maxHeartbeats 2000000 in
theorem back_bad (cs : List Value) (s : Sch) (blank : Int) (w : World) (hs : ScAt w cs s) (hg : grL [s] = false) (hv : vldS s = false) : Calls Tryd.prog 3 #[.agg cs.toArray, .int .u8 blank] w fun e w' => e = .returned (.bool true) ∧ Below w.heap.size w w' := by
  obtain ⟨a1, c1, a2, c2, rfl, h1, h2⟩ := hs.shape
  have HG := fun W (h : Below w.heap.size w W) => great_any [s] (.slice (some ⟨W.heap.size, 0, none⟩) 1 1) _ (one_ls (t := 25) hs W h)
  rw [hg] at HG
  have HT := fun W (h : Below w.heap.size w W) => text_any s a1 a2 c1 c2 W (h1.below h) (h2.below (fun r x hx => hx.below h) h)
  have ht : txtS s = (⟨#[]⟩, 1) := by unfold txtS; rw [if_pos hv]
  rw [ht] at HT
  have HV := fun W (h : Below w.heap.size w W) => valid_any s a1 a2 c1 c2 W (h1.below h) (h2.below (fun r x hx => hx.below h) h)
  rw [hv] at HV
  generalize s.cols.length = q1 at *
  generalize s.frn.length = q2 at *
  generalize s.name = nm at *
  generalize s.key = ky at *
  clear hs hg h1 h2 hv ht
  show Calls Tryd.prog 3 #[.agg #[.string nm, .slice a1 q1 c1, .int .i64 ky, .slice a2 q2 c2], .int .u8 blank] w _
  go_enter Tryd.func3, Tryd.ntmps3
  go_upto_region 1 with fail
  obtain ⟨W0, hW⟩ : ∃ W0, w.alloc (.cells #[.string nm, .slice a1 q1 c1, .int .i64 ky, .slice a2 q2 c2] 25) = W0 := ⟨_, rfl⟩
  have hb0 : Bx W0 w.heap.size 25 #[.string nm, .slice a1 q1 c1, .int .i64 ky, .slice a2 q2 c2] := hW ▸ Bx.new w _ _
  have hL0 : Below w.heap.size w W0 := hW ▸ (Below.refl _ w).alloc (Nat.le_refl _) _
  rw [hW]
  clear hW
  generalize w.heap.size = B at hb0 ⊢
  go_upto_region 3 with (go_at_call 5; (with_reducible refine (awake_any _).mono ?_); rintro e w1 ⟨rfl, hb1⟩)
  have hw1 := bstep hL0 hb1
  have b1 := hb0.below hb1
  have p0 := b1.cell 0 _ rfl
  have p1 := b1.cell 1 _ rfl
  have p2 := b1.cell 2 _ rfl
  have p3 := b1.cell 3 _ rfl
  have HB1 := Lib.hid b1
  have hl1 := (Below.refl _ w1).alloc (Nat.le_refl _) (.cells #[.string nm, .slice a1 q1 c1, .int .i64 ky, .slice a2 q2 c2] 25)
  clear hb0 hb1 b1 hL0
  go_wp2_with (first | (go_at_call 6; (with_reducible refine (HG _ hw1).mono ?_); rintro e w2 ⟨rfl, hb2⟩; have b2 := (HB1.out.below hl1).below hb2; have s0 := b2.cell 0 _ rfl; have s1 := b2.cell 1 _ rfl; have s2 := b2.cell 2 _ rfl; have s3 := b2.cell 3 _ rfl; have hw2 := bstep (bstep hw1 hl1) hb2) | (go_at_call 7; (with_reducible refine (HT _ hw2).mono ?_); rintro e w3 ⟨rfl, hb3⟩; have b3 := b2.below hb3; have t0 := b3.cell 0 _ rfl; have t1 := b3.cell 1 _ rfl; have t2 := b3.cell 2 _ rfl; have t3 := b3.cell 3 _ rfl; have hw3 := bstep hw2 hb3) | (go_at_call 8; (with_reducible refine (HV _ hw3).mono ?_); rintro e w4 ⟨rfl, hb4⟩; have hw4 := bstep hw3 hb4))
  go_ret
  exact ⟨by first | rfl | simp, hw4⟩
theorem lay_one : Lay [32] [40] [44] := ⟨fun _ _ => rfl, fun _ _ => rfl, fun _ _ => rfl, ⟨by decide, by decide, by decide⟩, by decide, by decide, by decide⟩
theorem len_txt {x : ByteArray} {l : List UInt8} (h : x.data.toList = l) (hl : l.length ≤ 4000) : x.size ≤ 4000 := by
  have e : x.size = x.data.toList.length := (Array.length_toList).symm
  rw [e, h]; exact hl
/-- ReplaceAll of one byte. -/
theorem repl_any (x : ByteArray) (c : UInt8) (new y : ByteArray) (m : Int) (W : World) (hx : x.size ≤ 4000) (hn : new.size ≤ 3) (hm : W.cell? ⟨0, 0, none⟩ = some (.int .i64 m)) (hy : y.data.toList = rep c new.data.toList x.data.toList) :
    Calls Tryd.prog 10 #[.string x, .string ⟨#[c]⟩, .string new] W fun e w' => e = .returned (.string y) ∧ Below W.heap.size W w' := by
  have hc := Lib.countB_le ⟨#[c]⟩ (by show 1 ≤ 1; omega) x.size x (Nat.le_refl _)
  have hmul : Lib.countB x ⟨#[c]⟩ * new.size ≤ 4000 * 3 := Nat.mul_le_mul (by omega) hn
  refine (Tryd.strings_ReplaceAll x ⟨#[c]⟩ new m W (by omega) hm (by show 1 ≤ 1; omega) (by omega)).mono ?_
  rintro e w' ⟨rfl, hb⟩
  refine ⟨?_, hb⟩
  rw [show (ByteArray.mk #[c]).data.toList = [c] from rfl, replaceAll_one, ← hy]
set_option maxRecDepth 20000 in
set_option maxHeartbeats 4000000 in
theorem back_ok0 (cs : List Value) (s : Sch) (blank : Int) (m : Int) (w : World) (hm : w.cell? ⟨0, 0, none⟩ = some (.int .i64 m)) (hs : ScAt w cs s) (hg : grL [s] = false) (hv : vldS s = true) (hr : blank.tmod 4 = 0) (hbk : 0 ≤ blank ∧ blank ≤ 255) : Calls Tryd.prog 3 #[.agg cs.toArray, .int .u8 blank] w fun e w' => e = .returned (.bool true) ∧ Below w.heap.size w w' := by
  obtain ⟨a1, c1, a2, c2, rfl, h1, h2⟩ := hs.shape
  have hok := ok_of hv
  have HG := fun W (h : Below w.heap.size w W) => great_any [s] (.slice (some ⟨W.heap.size, 0, none⟩) 1 1) _ (one_ls (t := 25) hs W h)
  rw [hg] at HG
  have HT := fun W (h : Below w.heap.size w W) => text_any s a1 a2 c1 c2 W (h1.below h) (h2.below (fun r x hx => hx.below h) h)
  have ht2 : (txtS s).2 = 0 := by unfold txtS; rw [if_neg (by rw [hv]; simp)]
  have htl := txt_is s hv
  rw [ht2] at HT
  generalize (txtS s).1 = T at HT htl
  have L2 : Lay [32, 32] [40, 32] [32, 44] := ⟨fun _ _ => rfl, fun _ _ => rfl, fun _ _ => rfl, ⟨by decide, by decide, by decide⟩, by decide, by decide, by decide⟩
  have L2a : Lay [32, 32] [40] [44] := ⟨fun _ _ => rfl, fun _ _ => rfl, fun _ _ => rfl, ⟨by decide, by decide, by decide⟩, by decide, by decide, by decide⟩
  have L2b : Lay [32, 32] [40, 32] [44] := ⟨fun _ _ => rfl, fun _ _ => rfl, fun _ _ => rfl, ⟨by decide, by decide, by decide⟩, by decide, by decide, by decide⟩
  have hT := len_txt htl (text_okB lay_one s hok).2
  obtain ⟨T1, hT1⟩ : ∃ T1 : ByteArray, T1.data.toList = textG [32, 32] [40] [44] s := ⟨⟨(textG [32, 32] [40] [44] s).toArray⟩, by simp⟩
  obtain ⟨T2, hT2⟩ : ∃ T2 : ByteArray, T2.data.toList = textG [32, 32] [40, 32] [44] s := ⟨⟨(textG [32, 32] [40, 32] [44] s).toArray⟩, by simp⟩
  obtain ⟨T3, hT3⟩ : ∃ T3 : ByteArray, T3.data.toList = textG [32, 32] [40, 32] [32, 44] s := ⟨⟨(textG [32, 32] [40, 32] [32, 44] s).toArray⟩, by simp⟩
  have hT3s := len_txt hT3 (text_okB L2 s hok).2
  have HR1 := fun W (h : Below w.heap.size w W) => repl_any T 32 ⟨#[32, 32]⟩ T1 m W hT (by decide) (Go.Proofs.YtokbipfkpojflaaDoor.Sl.cell_kept hm h) (by rw [hT1, htl, rep_text (by decide) (by decide) _ _ _ _ s hok]; rfl)
  have HR2 := fun W (h : Below w.heap.size w W) => repl_any T1 40 ⟨#[40, 32]⟩ T2 m W (len_txt hT1 (text_okB L2a s hok).2) (by decide) (Go.Proofs.YtokbipfkpojflaaDoor.Sl.cell_kept hm h) (by rw [hT2, hT1, rep_text (by decide) (by decide) _ _ _ _ s hok]; rfl)
  have HR3 := fun W (h : Below w.heap.size w W) => repl_any T2 44 ⟨#[32, 44]⟩ T3 m W (len_txt hT2 (text_okB L2b s hok).2) (by decide) (Go.Proofs.YtokbipfkpojflaaDoor.Sl.cell_kept hm h) (by rw [hT3, hT2, rep_text (by decide) (by decide) _ _ _ _ s hok]; rfl)
  have HP1 : ∀ W, Calls Tryd.prog 9 #[.string T] W fun e w' => ∃ (x : Option Addr) (y : Nat) (u : Option Addr) (z : Nat), e = .returned (.tuple #[.agg #[.string s.name, .slice x s.cols.length y, .int .i64 s.key, .slice u s.frn.length z], .agg #[.int .i64 0, .int .i64 0], .int .i64 0]) ∧ Cs w' (.slice x s.cols.length y) s.cols ∧ FsAt w' (.slice u s.frn.length z) s.frn ∧ Below W.heap.size W w' := fun W => by
    have h := parse_any T W
    rw [back_law s hv _ _ _ lay_one T [] (.inl rfl) (by rw [htl]; simp)] at h
    refine h.mono ?_
    rintro e w' ⟨sc, sf, rfl, k1, k2, k3⟩
    obtain ⟨x, y, rfl⟩ := k1.form
    obtain ⟨u, z, rfl, _⟩ := k2.form
    exact ⟨x, y, u, z, rfl, k1, k2, k3⟩
  have HP2 : ∀ W, Calls Tryd.prog 9 #[.string (T3 ++ ⟨#[10]⟩)] W fun e w' => ∃ (x : Option Addr) (y : Nat) (u : Option Addr) (z : Nat), e = .returned (.tuple #[.agg #[.string s.name, .slice x s.cols.length y, .int .i64 s.key, .slice u s.frn.length z], .agg #[.int .i64 0, .int .i64 0], .int .i64 0]) ∧ Cs w' (.slice x s.cols.length y) s.cols ∧ FsAt w' (.slice u s.frn.length z) s.frn ∧ Below W.heap.size W w' := fun W => by
    have h := parse_any (T3 ++ ⟨#[10]⟩) W
    rw [back_law s hv _ _ _ L2 (T3 ++ ⟨#[10]⟩) [10] (.inr rfl) (by simp [hT3])] at h
    refine h.mono ?_
    rintro e w' ⟨sc, sf, rfl, k1, k2, k3⟩
    obtain ⟨x, y, rfl⟩ := k1.form
    obtain ⟨u, z, rfl, _⟩ := k2.form
    exact ⟨x, y, u, z, rfl, k1, k2, k3⟩
  have hfl : ∀ f ∈ s.frn, f.cols.length ≤ 1000000 := fun f hf => by have := (hok.frs.2 f hf).2.2.1; omega
  have hcl : s.cols.length ≤ 1000000 := by have := hok.cols.2.2; omega
  have hql : s.frn.length ≤ 1000000 := by have := hok.frs.1; omega
  have HSM := fun x y u z W (k1 : Cs W (.slice x s.cols.length y) s.cols) (k2 : FsAt W (.slice u s.frn.length z) s.frn) (h : Below w.heap.size w W) => same_any s hcl hql hfl x a1 u a2 y c1 z c2 W k1 (h1.below h) k2 (h2.below (fun r x hx => hx.below h) h)
  generalize s.cols.length = q1 at *
  generalize s.frn.length = q2 at *
  generalize s.name = nm at *
  generalize s.key = ky at *
  clear hs hg h1 h2 hv hok ht2 htl L2 L2a L2b hT hT1 hT2 hT3 hfl hcl hql hm
  show Calls Tryd.prog 3 #[.agg #[.string nm, .slice a1 q1 c1, .int .i64 ky, .slice a2 q2 c2], .int .u8 blank] w _
  go_enter Tryd.func3, Tryd.ntmps3
  go_upto_region 1 with fail
  obtain ⟨W0, hW⟩ : ∃ W0, w.alloc (.cells #[.string nm, .slice a1 q1 c1, .int .i64 ky, .slice a2 q2 c2] 25) = W0 := ⟨_, rfl⟩
  have hb0 : Bx W0 w.heap.size 25 #[.string nm, .slice a1 q1 c1, .int .i64 ky, .slice a2 q2 c2] := hW ▸ Bx.new w _ _
  have hL0 : Below w.heap.size w W0 := hW ▸ (Below.refl _ w).alloc (Nat.le_refl _) _
  rw [hW]
  clear hW
  generalize w.heap.size = B at hb0 ⊢
  go_upto_region 3 with (go_at_call 5; (with_reducible refine (awake_any _).mono ?_); rintro e w1 ⟨rfl, hb1⟩)
  have hw1 := bstep hL0 hb1
  have b1 := hb0.below hb1
  have p0 := b1.cell 0 _ rfl
  have p1 := b1.cell 1 _ rfl
  have p2 := b1.cell 2 _ rfl
  have p3 := b1.cell 3 _ rfl
  have HB1 := Lib.hid b1
  have hl1 := (Below.refl _ w1).alloc (Nat.le_refl _) (.cells #[.string nm, .slice a1 q1 c1, .int .i64 ky, .slice a2 q2 c2] 25)
  clear hb0 hb1 b1 hL0
  go_upto_region 9 with (first | (go_at_call 6; (with_reducible refine (HG _ hw1).mono ?_); rintro e w2 ⟨rfl, hb2⟩; have b2 := (HB1.out.below hl1).below hb2; have s0 := b2.cell 0 _ rfl; have s1 := b2.cell 1 _ rfl; have s2 := b2.cell 2 _ rfl; have s3 := b2.cell 3 _ rfl; have hw2 := bstep (bstep hw1 hl1) hb2) | (go_at_call 7; (with_reducible refine (HT _ hw2).mono ?_); rintro e w3 ⟨rfl, hb3⟩; have b3 := b2.below hb3; have t0 := b3.cell 0 _ rfl; have t1 := b3.cell 1 _ rfl; have t2 := b3.cell 2 _ rfl; have t3 := b3.cell 3 _ rfl; have hw3 := bstep hw2 hb3) | (go_at_call 9; (with_reducible refine (HP1 _).mono ?_); rintro e w4 ⟨x4, y4, u4, z4, rfl, hcs4, hfs4, hb4⟩))
  have b4 := b3.below hb4
  have m4 : (w4.alloc (.cells #[.string nm, .slice x4 q1 y4, .int .i64 ky, .slice u4 q2 z4] 25)).heap.size = w4.heap.size + 1 := by simp
  have bs4 := (Bx.new w4 25 #[.string nm, .slice x4 q1 y4, .int .i64 ky, .slice u4 q2 z4]).alloc (.cells #[.int .i64 0, .int .i64 0] 33)
  have hl4 := ((Below.refl w4.heap.size w4).alloc (Nat.le_refl _) (.cells #[.string nm, .slice x4 q1 y4, .int .i64 ky, .slice u4 q2 z4] 25)).alloc (by omega) (.cells #[.int .i64 0, .int .i64 0] 33)
  have hV4 := bstep (bstep hw3 hb4) hl4
  have bB4 := b4.below hl4
  have hc4 := hcs4.below hl4
  have hf4 := hfs4.below (fun r x hx => hx.below hl4) hl4
  clear m4
  generalize ((w4.alloc (.cells #[.string nm, .slice x4 q1 y4, .int .i64 ky, .slice u4 q2 z4] 25)).alloc (.cells #[.int .i64 0, .int .i64 0] 33)) = V4 at *
  generalize w4.heap.size + 1 = P4 at *
  generalize w4.heap.size = K4 at bs4 ⊢
  have H4 := Lib.hid (And.intro hV4 (And.intro bB4 (And.intro bs4 (And.intro hc4 hf4))))
  have hsV := hV4.size
  have hl9 := (Below.refl V4.heap.size V4).alloc (Nat.le_refl _) (.cells #[.string ⟨#[32, 32]⟩, .string ⟨#[10]⟩, .string ⟨#[9]⟩, .string ⟨#[32, 10, 32]⟩] 9)
  clear b2 b3 b4 hb2 hb3 hb4 hw1 hw2 hw3 hl1 hl4 hcs4 hfs4 HB1 hV4 bB4 bs4 hc4 hf4 s0 s1 s2 s3 t0 t1 t2 t3 p0 p1 p2 p3
  have hb4' : (0 : Int) ≤ blank := hbk.1
  have hb5' : blank ≤ 255 := hbk.2
  go_upto_region 10 with (go_at_call 10; (with_reducible refine (HR1 _ (bstep H4.out.1 hl9)).mono ?_); rintro e w5 ⟨rfl, hb5⟩)
  have h45 := hl9.trans (hb5.mono hl9.size)
  have hw5 := bstep H4.out.1 h45
  go_upto_region 11 with (first | (go_at_call 10; (with_reducible refine (HR2 _ hw5).mono ?_); rintro e w6 ⟨rfl, hb6⟩; have hw6 := bstep hw5 hb6) | (go_at_call 10; (with_reducible refine (HR3 _ hw6).mono ?_); rintro e w7 ⟨rfl, hb7⟩; have hw7 := bstep hw6 hb7) | (go_at_call 9; (with_reducible refine (HP2 _).mono ?_); rintro e w8 ⟨x8, y8, u8, z8, rfl, hcs8, hfs8, hb8⟩))
  have m8 : (w8.alloc (.cells #[.string nm, .slice x8 q1 y8, .int .i64 ky, .slice u8 q2 z8] 25)).heap.size = w8.heap.size + 1 := by simp
  have bs8 := (Bx.new w8 25 #[.string nm, .slice x8 q1 y8, .int .i64 ky, .slice u8 q2 z8]).alloc (.cells #[.int .i64 0, .int .i64 0] 33)
  have hl8 := ((Below.refl w8.heap.size w8).alloc (Nat.le_refl _) (.cells #[.string nm, .slice x8 q1 y8, .int .i64 ky, .slice u8 q2 z8] 25)).alloc (by omega) (.cells #[.int .i64 0, .int .i64 0] 33)
  have h48 := bstep (bstep (bstep (bstep h45 hb6) hb7) hb8) hl8
  have hV8 := bstep H4.out.1 h48
  have hc8 := hcs8.below hl8
  have hf8 := hfs8.below (fun r x hx => hx.below hl8) hl8
  clear m8
  generalize ((w8.alloc (.cells #[.string nm, .slice x8 q1 y8, .int .i64 ky, .slice u8 q2 z8] 25)).alloc (.cells #[.int .i64 0, .int .i64 0] 33)) = V8 at *
  generalize w8.heap.size + 1 = P8 at *
  generalize w8.heap.size = K8 at bs8 ⊢
  have HSA := HSM _ _ _ _ V8 (H4.out.2.2.2.1.below h48) (H4.out.2.2.2.2.below (fun r x hx => hx.below h48) h48) hV8
  have HSB := fun W (h : Below V8.heap.size V8 W) => HSM _ _ _ _ W (hc8.below h) (hf8.below (fun r x hx => hx.below h) h) (bstep hV8 h)
  have bB8 := H4.out.2.1.below h48
  have bs48 := H4.out.2.2.1.below h48
  have p0 := bB8.cell 0 _ rfl
  have p1 := bB8.cell 1 _ rfl
  have p2 := bB8.cell 2 _ rfl
  have p3 := bB8.cell 3 _ rfl
  have s0 := bs48.cell 0 _ rfl
  have s1 := bs48.cell 1 _ rfl
  have s2 := bs48.cell 2 _ rfl
  have s3 := bs48.cell 3 _ rfl
  have HX := Lib.hid (And.intro bB8 bs8)
  clear bB8 bs48 bs8 hc8 hf8 hcs8 hfs8 hb5 hb6 hb7 hb8 hl8 hw5 hw6 hw7 h45 hl9 HR1 HR2 HR3 HP1 HP2 HSM HG HT
  go_wp2_with (first | (go_at_call 11; (with_reducible refine HSA.mono ?_); rintro e w9 ⟨rfl, hb9⟩; have g0 := (HX.out.1.below hb9).cell 0 _ rfl; have g1 := (HX.out.1.below hb9).cell 1 _ rfl; have g2 := (HX.out.1.below hb9).cell 2 _ rfl; have g3 := (HX.out.1.below hb9).cell 3 _ rfl; have i0 := (HX.out.2.below hb9).cell 0 _ rfl; have i1 := (HX.out.2.below hb9).cell 1 _ rfl; have i2 := (HX.out.2.below hb9).cell 2 _ rfl; have i3 := (HX.out.2.below hb9).cell 3 _ rfl) | (go_at_call 11; (with_reducible refine (HSB _ hb9).mono ?_); rintro e w10 ⟨rfl, hb10⟩))
  go_ret
  exact ⟨by first | rfl | simp, bstep hV8 (bstep hb9 hb10)⟩
set_option maxRecDepth 20000 in
set_option maxHeartbeats 4000000 in
theorem back_ok1 (cs : List Value) (s : Sch) (blank : Int) (m : Int) (w : World) (hm : w.cell? ⟨0, 0, none⟩ = some (.int .i64 m)) (hs : ScAt w cs s) (hg : grL [s] = false) (hv : vldS s = true) (hr : blank.tmod 4 = 1) (hbk : 0 ≤ blank ∧ blank ≤ 255) : Calls Tryd.prog 3 #[.agg cs.toArray, .int .u8 blank] w fun e w' => e = .returned (.bool true) ∧ Below w.heap.size w w' := by
  obtain ⟨a1, c1, a2, c2, rfl, h1, h2⟩ := hs.shape
  have hok := ok_of hv
  have HG := fun W (h : Below w.heap.size w W) => great_any [s] (.slice (some ⟨W.heap.size, 0, none⟩) 1 1) _ (one_ls (t := 25) hs W h)
  rw [hg] at HG
  have HT := fun W (h : Below w.heap.size w W) => text_any s a1 a2 c1 c2 W (h1.below h) (h2.below (fun r x hx => hx.below h) h)
  have ht2 : (txtS s).2 = 0 := by unfold txtS; rw [if_neg (by rw [hv]; simp)]
  have htl := txt_is s hv
  rw [ht2] at HT
  generalize (txtS s).1 = T at HT htl
  have L2 : Lay [10] [40, 32] [32, 44] := ⟨fun _ _ => rfl, fun _ _ => rfl, fun _ _ => rfl, ⟨by decide, by decide, by decide⟩, by decide, by decide, by decide⟩
  have L2a : Lay [10] [40] [44] := ⟨fun _ _ => rfl, fun _ _ => rfl, fun _ _ => rfl, ⟨by decide, by decide, by decide⟩, by decide, by decide, by decide⟩
  have L2b : Lay [10] [40, 32] [44] := ⟨fun _ _ => rfl, fun _ _ => rfl, fun _ _ => rfl, ⟨by decide, by decide, by decide⟩, by decide, by decide, by decide⟩
  have hT := len_txt htl (text_okB lay_one s hok).2
  obtain ⟨T1, hT1⟩ : ∃ T1 : ByteArray, T1.data.toList = textG [10] [40] [44] s := ⟨⟨(textG [10] [40] [44] s).toArray⟩, by simp⟩
  obtain ⟨T2, hT2⟩ : ∃ T2 : ByteArray, T2.data.toList = textG [10] [40, 32] [44] s := ⟨⟨(textG [10] [40, 32] [44] s).toArray⟩, by simp⟩
  obtain ⟨T3, hT3⟩ : ∃ T3 : ByteArray, T3.data.toList = textG [10] [40, 32] [32, 44] s := ⟨⟨(textG [10] [40, 32] [32, 44] s).toArray⟩, by simp⟩
  have hT3s := len_txt hT3 (text_okB L2 s hok).2
  have HR1 := fun W (h : Below w.heap.size w W) => repl_any T 32 ⟨#[10]⟩ T1 m W hT (by decide) (Go.Proofs.YtokbipfkpojflaaDoor.Sl.cell_kept hm h) (by rw [hT1, htl, rep_text (by decide) (by decide) _ _ _ _ s hok]; rfl)
  have HR2 := fun W (h : Below w.heap.size w W) => repl_any T1 40 ⟨#[40, 32]⟩ T2 m W (len_txt hT1 (text_okB L2a s hok).2) (by decide) (Go.Proofs.YtokbipfkpojflaaDoor.Sl.cell_kept hm h) (by rw [hT2, hT1, rep_text (by decide) (by decide) _ _ _ _ s hok]; rfl)
  have HR3 := fun W (h : Below w.heap.size w W) => repl_any T2 44 ⟨#[32, 44]⟩ T3 m W (len_txt hT2 (text_okB L2b s hok).2) (by decide) (Go.Proofs.YtokbipfkpojflaaDoor.Sl.cell_kept hm h) (by rw [hT3, hT2, rep_text (by decide) (by decide) _ _ _ _ s hok]; rfl)
  have HP1 : ∀ W, Calls Tryd.prog 9 #[.string T] W fun e w' => ∃ (x : Option Addr) (y : Nat) (u : Option Addr) (z : Nat), e = .returned (.tuple #[.agg #[.string s.name, .slice x s.cols.length y, .int .i64 s.key, .slice u s.frn.length z], .agg #[.int .i64 0, .int .i64 0], .int .i64 0]) ∧ Cs w' (.slice x s.cols.length y) s.cols ∧ FsAt w' (.slice u s.frn.length z) s.frn ∧ Below W.heap.size W w' := fun W => by
    have h := parse_any T W
    rw [back_law s hv _ _ _ lay_one T [] (.inl rfl) (by rw [htl]; simp)] at h
    refine h.mono ?_
    rintro e w' ⟨sc, sf, rfl, k1, k2, k3⟩
    obtain ⟨x, y, rfl⟩ := k1.form
    obtain ⟨u, z, rfl, _⟩ := k2.form
    exact ⟨x, y, u, z, rfl, k1, k2, k3⟩
  have HP2 : ∀ W, Calls Tryd.prog 9 #[.string (T3 ++ ⟨#[10]⟩)] W fun e w' => ∃ (x : Option Addr) (y : Nat) (u : Option Addr) (z : Nat), e = .returned (.tuple #[.agg #[.string s.name, .slice x s.cols.length y, .int .i64 s.key, .slice u s.frn.length z], .agg #[.int .i64 0, .int .i64 0], .int .i64 0]) ∧ Cs w' (.slice x s.cols.length y) s.cols ∧ FsAt w' (.slice u s.frn.length z) s.frn ∧ Below W.heap.size W w' := fun W => by
    have h := parse_any (T3 ++ ⟨#[10]⟩) W
    rw [back_law s hv _ _ _ L2 (T3 ++ ⟨#[10]⟩) [10] (.inr rfl) (by simp [hT3])] at h
    refine h.mono ?_
    rintro e w' ⟨sc, sf, rfl, k1, k2, k3⟩
    obtain ⟨x, y, rfl⟩ := k1.form
    obtain ⟨u, z, rfl, _⟩ := k2.form
    exact ⟨x, y, u, z, rfl, k1, k2, k3⟩
  have hfl : ∀ f ∈ s.frn, f.cols.length ≤ 1000000 := fun f hf => by have := (hok.frs.2 f hf).2.2.1; omega
  have hcl : s.cols.length ≤ 1000000 := by have := hok.cols.2.2; omega
  have hql : s.frn.length ≤ 1000000 := by have := hok.frs.1; omega
  have HSM := fun x y u z W (k1 : Cs W (.slice x s.cols.length y) s.cols) (k2 : FsAt W (.slice u s.frn.length z) s.frn) (h : Below w.heap.size w W) => same_any s hcl hql hfl x a1 u a2 y c1 z c2 W k1 (h1.below h) k2 (h2.below (fun r x hx => hx.below h) h)
  generalize s.cols.length = q1 at *
  generalize s.frn.length = q2 at *
  generalize s.name = nm at *
  generalize s.key = ky at *
  clear hs hg h1 h2 hv hok ht2 htl L2 L2a L2b hT hT1 hT2 hT3 hfl hcl hql hm
  show Calls Tryd.prog 3 #[.agg #[.string nm, .slice a1 q1 c1, .int .i64 ky, .slice a2 q2 c2], .int .u8 blank] w _
  go_enter Tryd.func3, Tryd.ntmps3
  go_upto_region 1 with fail
  obtain ⟨W0, hW⟩ : ∃ W0, w.alloc (.cells #[.string nm, .slice a1 q1 c1, .int .i64 ky, .slice a2 q2 c2] 25) = W0 := ⟨_, rfl⟩
  have hb0 : Bx W0 w.heap.size 25 #[.string nm, .slice a1 q1 c1, .int .i64 ky, .slice a2 q2 c2] := hW ▸ Bx.new w _ _
  have hL0 : Below w.heap.size w W0 := hW ▸ (Below.refl _ w).alloc (Nat.le_refl _) _
  rw [hW]
  clear hW
  generalize w.heap.size = B at hb0 ⊢
  go_upto_region 3 with (go_at_call 5; (with_reducible refine (awake_any _).mono ?_); rintro e w1 ⟨rfl, hb1⟩)
  have hw1 := bstep hL0 hb1
  have b1 := hb0.below hb1
  have p0 := b1.cell 0 _ rfl
  have p1 := b1.cell 1 _ rfl
  have p2 := b1.cell 2 _ rfl
  have p3 := b1.cell 3 _ rfl
  have HB1 := Lib.hid b1
  have hl1 := (Below.refl _ w1).alloc (Nat.le_refl _) (.cells #[.string nm, .slice a1 q1 c1, .int .i64 ky, .slice a2 q2 c2] 25)
  clear hb0 hb1 b1 hL0
  go_upto_region 9 with (first | (go_at_call 6; (with_reducible refine (HG _ hw1).mono ?_); rintro e w2 ⟨rfl, hb2⟩; have b2 := (HB1.out.below hl1).below hb2; have s0 := b2.cell 0 _ rfl; have s1 := b2.cell 1 _ rfl; have s2 := b2.cell 2 _ rfl; have s3 := b2.cell 3 _ rfl; have hw2 := bstep (bstep hw1 hl1) hb2) | (go_at_call 7; (with_reducible refine (HT _ hw2).mono ?_); rintro e w3 ⟨rfl, hb3⟩; have b3 := b2.below hb3; have t0 := b3.cell 0 _ rfl; have t1 := b3.cell 1 _ rfl; have t2 := b3.cell 2 _ rfl; have t3 := b3.cell 3 _ rfl; have hw3 := bstep hw2 hb3) | (go_at_call 9; (with_reducible refine (HP1 _).mono ?_); rintro e w4 ⟨x4, y4, u4, z4, rfl, hcs4, hfs4, hb4⟩))
  have b4 := b3.below hb4
  have m4 : (w4.alloc (.cells #[.string nm, .slice x4 q1 y4, .int .i64 ky, .slice u4 q2 z4] 25)).heap.size = w4.heap.size + 1 := by simp
  have bs4 := (Bx.new w4 25 #[.string nm, .slice x4 q1 y4, .int .i64 ky, .slice u4 q2 z4]).alloc (.cells #[.int .i64 0, .int .i64 0] 33)
  have hl4 := ((Below.refl w4.heap.size w4).alloc (Nat.le_refl _) (.cells #[.string nm, .slice x4 q1 y4, .int .i64 ky, .slice u4 q2 z4] 25)).alloc (by omega) (.cells #[.int .i64 0, .int .i64 0] 33)
  have hV4 := bstep (bstep hw3 hb4) hl4
  have bB4 := b4.below hl4
  have hc4 := hcs4.below hl4
  have hf4 := hfs4.below (fun r x hx => hx.below hl4) hl4
  clear m4
  generalize ((w4.alloc (.cells #[.string nm, .slice x4 q1 y4, .int .i64 ky, .slice u4 q2 z4] 25)).alloc (.cells #[.int .i64 0, .int .i64 0] 33)) = V4 at *
  generalize w4.heap.size + 1 = P4 at *
  generalize w4.heap.size = K4 at bs4 ⊢
  have H4 := Lib.hid (And.intro hV4 (And.intro bB4 (And.intro bs4 (And.intro hc4 hf4))))
  have hsV := hV4.size
  have hl9 := (Below.refl V4.heap.size V4).alloc (Nat.le_refl _) (.cells #[.string ⟨#[32, 32]⟩, .string ⟨#[10]⟩, .string ⟨#[9]⟩, .string ⟨#[32, 10, 32]⟩] 9)
  clear b2 b3 b4 hb2 hb3 hb4 hw1 hw2 hw3 hl1 hl4 hcs4 hfs4 HB1 hV4 bB4 bs4 hc4 hf4 s0 s1 s2 s3 t0 t1 t2 t3 p0 p1 p2 p3
  have hb4' : (0 : Int) ≤ blank := hbk.1
  have hb5' : blank ≤ 255 := hbk.2
  go_upto_region 10 with (go_at_call 10; (with_reducible refine (HR1 _ (bstep H4.out.1 hl9)).mono ?_); rintro e w5 ⟨rfl, hb5⟩)
  have h45 := hl9.trans (hb5.mono hl9.size)
  have hw5 := bstep H4.out.1 h45
  go_upto_region 11 with (first | (go_at_call 10; (with_reducible refine (HR2 _ hw5).mono ?_); rintro e w6 ⟨rfl, hb6⟩; have hw6 := bstep hw5 hb6) | (go_at_call 10; (with_reducible refine (HR3 _ hw6).mono ?_); rintro e w7 ⟨rfl, hb7⟩; have hw7 := bstep hw6 hb7) | (go_at_call 9; (with_reducible refine (HP2 _).mono ?_); rintro e w8 ⟨x8, y8, u8, z8, rfl, hcs8, hfs8, hb8⟩))
  have m8 : (w8.alloc (.cells #[.string nm, .slice x8 q1 y8, .int .i64 ky, .slice u8 q2 z8] 25)).heap.size = w8.heap.size + 1 := by simp
  have bs8 := (Bx.new w8 25 #[.string nm, .slice x8 q1 y8, .int .i64 ky, .slice u8 q2 z8]).alloc (.cells #[.int .i64 0, .int .i64 0] 33)
  have hl8 := ((Below.refl w8.heap.size w8).alloc (Nat.le_refl _) (.cells #[.string nm, .slice x8 q1 y8, .int .i64 ky, .slice u8 q2 z8] 25)).alloc (by omega) (.cells #[.int .i64 0, .int .i64 0] 33)
  have h48 := bstep (bstep (bstep (bstep h45 hb6) hb7) hb8) hl8
  have hV8 := bstep H4.out.1 h48
  have hc8 := hcs8.below hl8
  have hf8 := hfs8.below (fun r x hx => hx.below hl8) hl8
  clear m8
  generalize ((w8.alloc (.cells #[.string nm, .slice x8 q1 y8, .int .i64 ky, .slice u8 q2 z8] 25)).alloc (.cells #[.int .i64 0, .int .i64 0] 33)) = V8 at *
  generalize w8.heap.size + 1 = P8 at *
  generalize w8.heap.size = K8 at bs8 ⊢
  have HSA := HSM _ _ _ _ V8 (H4.out.2.2.2.1.below h48) (H4.out.2.2.2.2.below (fun r x hx => hx.below h48) h48) hV8
  have HSB := fun W (h : Below V8.heap.size V8 W) => HSM _ _ _ _ W (hc8.below h) (hf8.below (fun r x hx => hx.below h) h) (bstep hV8 h)
  have bB8 := H4.out.2.1.below h48
  have bs48 := H4.out.2.2.1.below h48
  have p0 := bB8.cell 0 _ rfl
  have p1 := bB8.cell 1 _ rfl
  have p2 := bB8.cell 2 _ rfl
  have p3 := bB8.cell 3 _ rfl
  have s0 := bs48.cell 0 _ rfl
  have s1 := bs48.cell 1 _ rfl
  have s2 := bs48.cell 2 _ rfl
  have s3 := bs48.cell 3 _ rfl
  have HX := Lib.hid (And.intro bB8 bs8)
  clear bB8 bs48 bs8 hc8 hf8 hcs8 hfs8 hb5 hb6 hb7 hb8 hl8 hw5 hw6 hw7 h45 hl9 HR1 HR2 HR3 HP1 HP2 HSM HG HT
  go_wp2_with (first | (go_at_call 11; (with_reducible refine HSA.mono ?_); rintro e w9 ⟨rfl, hb9⟩; have g0 := (HX.out.1.below hb9).cell 0 _ rfl; have g1 := (HX.out.1.below hb9).cell 1 _ rfl; have g2 := (HX.out.1.below hb9).cell 2 _ rfl; have g3 := (HX.out.1.below hb9).cell 3 _ rfl; have i0 := (HX.out.2.below hb9).cell 0 _ rfl; have i1 := (HX.out.2.below hb9).cell 1 _ rfl; have i2 := (HX.out.2.below hb9).cell 2 _ rfl; have i3 := (HX.out.2.below hb9).cell 3 _ rfl) | (go_at_call 11; (with_reducible refine (HSB _ hb9).mono ?_); rintro e w10 ⟨rfl, hb10⟩))
  go_ret
  exact ⟨by first | rfl | simp, bstep hV8 (bstep hb9 hb10)⟩
set_option maxRecDepth 20000 in
set_option maxHeartbeats 4000000 in
theorem back_ok2 (cs : List Value) (s : Sch) (blank : Int) (m : Int) (w : World) (hm : w.cell? ⟨0, 0, none⟩ = some (.int .i64 m)) (hs : ScAt w cs s) (hg : grL [s] = false) (hv : vldS s = true) (hr : blank.tmod 4 = 2) (hbk : 0 ≤ blank ∧ blank ≤ 255) : Calls Tryd.prog 3 #[.agg cs.toArray, .int .u8 blank] w fun e w' => e = .returned (.bool true) ∧ Below w.heap.size w w' := by
  obtain ⟨a1, c1, a2, c2, rfl, h1, h2⟩ := hs.shape
  have hok := ok_of hv
  have HG := fun W (h : Below w.heap.size w W) => great_any [s] (.slice (some ⟨W.heap.size, 0, none⟩) 1 1) _ (one_ls (t := 25) hs W h)
  rw [hg] at HG
  have HT := fun W (h : Below w.heap.size w W) => text_any s a1 a2 c1 c2 W (h1.below h) (h2.below (fun r x hx => hx.below h) h)
  have ht2 : (txtS s).2 = 0 := by unfold txtS; rw [if_neg (by rw [hv]; simp)]
  have htl := txt_is s hv
  rw [ht2] at HT
  generalize (txtS s).1 = T at HT htl
  have L2 : Lay [9] [40, 32] [32, 44] := ⟨fun _ _ => rfl, fun _ _ => rfl, fun _ _ => rfl, ⟨by decide, by decide, by decide⟩, by decide, by decide, by decide⟩
  have L2a : Lay [9] [40] [44] := ⟨fun _ _ => rfl, fun _ _ => rfl, fun _ _ => rfl, ⟨by decide, by decide, by decide⟩, by decide, by decide, by decide⟩
  have L2b : Lay [9] [40, 32] [44] := ⟨fun _ _ => rfl, fun _ _ => rfl, fun _ _ => rfl, ⟨by decide, by decide, by decide⟩, by decide, by decide, by decide⟩
  have hT := len_txt htl (text_okB lay_one s hok).2
  obtain ⟨T1, hT1⟩ : ∃ T1 : ByteArray, T1.data.toList = textG [9] [40] [44] s := ⟨⟨(textG [9] [40] [44] s).toArray⟩, by simp⟩
  obtain ⟨T2, hT2⟩ : ∃ T2 : ByteArray, T2.data.toList = textG [9] [40, 32] [44] s := ⟨⟨(textG [9] [40, 32] [44] s).toArray⟩, by simp⟩
  obtain ⟨T3, hT3⟩ : ∃ T3 : ByteArray, T3.data.toList = textG [9] [40, 32] [32, 44] s := ⟨⟨(textG [9] [40, 32] [32, 44] s).toArray⟩, by simp⟩
  have hT3s := len_txt hT3 (text_okB L2 s hok).2
  have HR1 := fun W (h : Below w.heap.size w W) => repl_any T 32 ⟨#[9]⟩ T1 m W hT (by decide) (Go.Proofs.YtokbipfkpojflaaDoor.Sl.cell_kept hm h) (by rw [hT1, htl, rep_text (by decide) (by decide) _ _ _ _ s hok]; rfl)
  have HR2 := fun W (h : Below w.heap.size w W) => repl_any T1 40 ⟨#[40, 32]⟩ T2 m W (len_txt hT1 (text_okB L2a s hok).2) (by decide) (Go.Proofs.YtokbipfkpojflaaDoor.Sl.cell_kept hm h) (by rw [hT2, hT1, rep_text (by decide) (by decide) _ _ _ _ s hok]; rfl)
  have HR3 := fun W (h : Below w.heap.size w W) => repl_any T2 44 ⟨#[32, 44]⟩ T3 m W (len_txt hT2 (text_okB L2b s hok).2) (by decide) (Go.Proofs.YtokbipfkpojflaaDoor.Sl.cell_kept hm h) (by rw [hT3, hT2, rep_text (by decide) (by decide) _ _ _ _ s hok]; rfl)
  have HP1 : ∀ W, Calls Tryd.prog 9 #[.string T] W fun e w' => ∃ (x : Option Addr) (y : Nat) (u : Option Addr) (z : Nat), e = .returned (.tuple #[.agg #[.string s.name, .slice x s.cols.length y, .int .i64 s.key, .slice u s.frn.length z], .agg #[.int .i64 0, .int .i64 0], .int .i64 0]) ∧ Cs w' (.slice x s.cols.length y) s.cols ∧ FsAt w' (.slice u s.frn.length z) s.frn ∧ Below W.heap.size W w' := fun W => by
    have h := parse_any T W
    rw [back_law s hv _ _ _ lay_one T [] (.inl rfl) (by rw [htl]; simp)] at h
    refine h.mono ?_
    rintro e w' ⟨sc, sf, rfl, k1, k2, k3⟩
    obtain ⟨x, y, rfl⟩ := k1.form
    obtain ⟨u, z, rfl, _⟩ := k2.form
    exact ⟨x, y, u, z, rfl, k1, k2, k3⟩
  have HP2 : ∀ W, Calls Tryd.prog 9 #[.string (T3 ++ ⟨#[10]⟩)] W fun e w' => ∃ (x : Option Addr) (y : Nat) (u : Option Addr) (z : Nat), e = .returned (.tuple #[.agg #[.string s.name, .slice x s.cols.length y, .int .i64 s.key, .slice u s.frn.length z], .agg #[.int .i64 0, .int .i64 0], .int .i64 0]) ∧ Cs w' (.slice x s.cols.length y) s.cols ∧ FsAt w' (.slice u s.frn.length z) s.frn ∧ Below W.heap.size W w' := fun W => by
    have h := parse_any (T3 ++ ⟨#[10]⟩) W
    rw [back_law s hv _ _ _ L2 (T3 ++ ⟨#[10]⟩) [10] (.inr rfl) (by simp [hT3])] at h
    refine h.mono ?_
    rintro e w' ⟨sc, sf, rfl, k1, k2, k3⟩
    obtain ⟨x, y, rfl⟩ := k1.form
    obtain ⟨u, z, rfl, _⟩ := k2.form
    exact ⟨x, y, u, z, rfl, k1, k2, k3⟩
  have hfl : ∀ f ∈ s.frn, f.cols.length ≤ 1000000 := fun f hf => by have := (hok.frs.2 f hf).2.2.1; omega
  have hcl : s.cols.length ≤ 1000000 := by have := hok.cols.2.2; omega
  have hql : s.frn.length ≤ 1000000 := by have := hok.frs.1; omega
  have HSM := fun x y u z W (k1 : Cs W (.slice x s.cols.length y) s.cols) (k2 : FsAt W (.slice u s.frn.length z) s.frn) (h : Below w.heap.size w W) => same_any s hcl hql hfl x a1 u a2 y c1 z c2 W k1 (h1.below h) k2 (h2.below (fun r x hx => hx.below h) h)
  generalize s.cols.length = q1 at *
  generalize s.frn.length = q2 at *
  generalize s.name = nm at *
  generalize s.key = ky at *
  clear hs hg h1 h2 hv hok ht2 htl L2 L2a L2b hT hT1 hT2 hT3 hfl hcl hql hm
  show Calls Tryd.prog 3 #[.agg #[.string nm, .slice a1 q1 c1, .int .i64 ky, .slice a2 q2 c2], .int .u8 blank] w _
  go_enter Tryd.func3, Tryd.ntmps3
  go_upto_region 1 with fail
  obtain ⟨W0, hW⟩ : ∃ W0, w.alloc (.cells #[.string nm, .slice a1 q1 c1, .int .i64 ky, .slice a2 q2 c2] 25) = W0 := ⟨_, rfl⟩
  have hb0 : Bx W0 w.heap.size 25 #[.string nm, .slice a1 q1 c1, .int .i64 ky, .slice a2 q2 c2] := hW ▸ Bx.new w _ _
  have hL0 : Below w.heap.size w W0 := hW ▸ (Below.refl _ w).alloc (Nat.le_refl _) _
  rw [hW]
  clear hW
  generalize w.heap.size = B at hb0 ⊢
  go_upto_region 3 with (go_at_call 5; (with_reducible refine (awake_any _).mono ?_); rintro e w1 ⟨rfl, hb1⟩)
  have hw1 := bstep hL0 hb1
  have b1 := hb0.below hb1
  have p0 := b1.cell 0 _ rfl
  have p1 := b1.cell 1 _ rfl
  have p2 := b1.cell 2 _ rfl
  have p3 := b1.cell 3 _ rfl
  have HB1 := Lib.hid b1
  have hl1 := (Below.refl _ w1).alloc (Nat.le_refl _) (.cells #[.string nm, .slice a1 q1 c1, .int .i64 ky, .slice a2 q2 c2] 25)
  clear hb0 hb1 b1 hL0
  go_upto_region 9 with (first | (go_at_call 6; (with_reducible refine (HG _ hw1).mono ?_); rintro e w2 ⟨rfl, hb2⟩; have b2 := (HB1.out.below hl1).below hb2; have s0 := b2.cell 0 _ rfl; have s1 := b2.cell 1 _ rfl; have s2 := b2.cell 2 _ rfl; have s3 := b2.cell 3 _ rfl; have hw2 := bstep (bstep hw1 hl1) hb2) | (go_at_call 7; (with_reducible refine (HT _ hw2).mono ?_); rintro e w3 ⟨rfl, hb3⟩; have b3 := b2.below hb3; have t0 := b3.cell 0 _ rfl; have t1 := b3.cell 1 _ rfl; have t2 := b3.cell 2 _ rfl; have t3 := b3.cell 3 _ rfl; have hw3 := bstep hw2 hb3) | (go_at_call 9; (with_reducible refine (HP1 _).mono ?_); rintro e w4 ⟨x4, y4, u4, z4, rfl, hcs4, hfs4, hb4⟩))
  have b4 := b3.below hb4
  have m4 : (w4.alloc (.cells #[.string nm, .slice x4 q1 y4, .int .i64 ky, .slice u4 q2 z4] 25)).heap.size = w4.heap.size + 1 := by simp
  have bs4 := (Bx.new w4 25 #[.string nm, .slice x4 q1 y4, .int .i64 ky, .slice u4 q2 z4]).alloc (.cells #[.int .i64 0, .int .i64 0] 33)
  have hl4 := ((Below.refl w4.heap.size w4).alloc (Nat.le_refl _) (.cells #[.string nm, .slice x4 q1 y4, .int .i64 ky, .slice u4 q2 z4] 25)).alloc (by omega) (.cells #[.int .i64 0, .int .i64 0] 33)
  have hV4 := bstep (bstep hw3 hb4) hl4
  have bB4 := b4.below hl4
  have hc4 := hcs4.below hl4
  have hf4 := hfs4.below (fun r x hx => hx.below hl4) hl4
  clear m4
  generalize ((w4.alloc (.cells #[.string nm, .slice x4 q1 y4, .int .i64 ky, .slice u4 q2 z4] 25)).alloc (.cells #[.int .i64 0, .int .i64 0] 33)) = V4 at *
  generalize w4.heap.size + 1 = P4 at *
  generalize w4.heap.size = K4 at bs4 ⊢
  have H4 := Lib.hid (And.intro hV4 (And.intro bB4 (And.intro bs4 (And.intro hc4 hf4))))
  have hsV := hV4.size
  have hl9 := (Below.refl V4.heap.size V4).alloc (Nat.le_refl _) (.cells #[.string ⟨#[32, 32]⟩, .string ⟨#[10]⟩, .string ⟨#[9]⟩, .string ⟨#[32, 10, 32]⟩] 9)
  clear b2 b3 b4 hb2 hb3 hb4 hw1 hw2 hw3 hl1 hl4 hcs4 hfs4 HB1 hV4 bB4 bs4 hc4 hf4 s0 s1 s2 s3 t0 t1 t2 t3 p0 p1 p2 p3
  have hb4' : (0 : Int) ≤ blank := hbk.1
  have hb5' : blank ≤ 255 := hbk.2
  go_upto_region 10 with (go_at_call 10; (with_reducible refine (HR1 _ (bstep H4.out.1 hl9)).mono ?_); rintro e w5 ⟨rfl, hb5⟩)
  have h45 := hl9.trans (hb5.mono hl9.size)
  have hw5 := bstep H4.out.1 h45
  go_upto_region 11 with (first | (go_at_call 10; (with_reducible refine (HR2 _ hw5).mono ?_); rintro e w6 ⟨rfl, hb6⟩; have hw6 := bstep hw5 hb6) | (go_at_call 10; (with_reducible refine (HR3 _ hw6).mono ?_); rintro e w7 ⟨rfl, hb7⟩; have hw7 := bstep hw6 hb7) | (go_at_call 9; (with_reducible refine (HP2 _).mono ?_); rintro e w8 ⟨x8, y8, u8, z8, rfl, hcs8, hfs8, hb8⟩))
  have m8 : (w8.alloc (.cells #[.string nm, .slice x8 q1 y8, .int .i64 ky, .slice u8 q2 z8] 25)).heap.size = w8.heap.size + 1 := by simp
  have bs8 := (Bx.new w8 25 #[.string nm, .slice x8 q1 y8, .int .i64 ky, .slice u8 q2 z8]).alloc (.cells #[.int .i64 0, .int .i64 0] 33)
  have hl8 := ((Below.refl w8.heap.size w8).alloc (Nat.le_refl _) (.cells #[.string nm, .slice x8 q1 y8, .int .i64 ky, .slice u8 q2 z8] 25)).alloc (by omega) (.cells #[.int .i64 0, .int .i64 0] 33)
  have h48 := bstep (bstep (bstep (bstep h45 hb6) hb7) hb8) hl8
  have hV8 := bstep H4.out.1 h48
  have hc8 := hcs8.below hl8
  have hf8 := hfs8.below (fun r x hx => hx.below hl8) hl8
  clear m8
  generalize ((w8.alloc (.cells #[.string nm, .slice x8 q1 y8, .int .i64 ky, .slice u8 q2 z8] 25)).alloc (.cells #[.int .i64 0, .int .i64 0] 33)) = V8 at *
  generalize w8.heap.size + 1 = P8 at *
  generalize w8.heap.size = K8 at bs8 ⊢
  have HSA := HSM _ _ _ _ V8 (H4.out.2.2.2.1.below h48) (H4.out.2.2.2.2.below (fun r x hx => hx.below h48) h48) hV8
  have HSB := fun W (h : Below V8.heap.size V8 W) => HSM _ _ _ _ W (hc8.below h) (hf8.below (fun r x hx => hx.below h) h) (bstep hV8 h)
  have bB8 := H4.out.2.1.below h48
  have bs48 := H4.out.2.2.1.below h48
  have p0 := bB8.cell 0 _ rfl
  have p1 := bB8.cell 1 _ rfl
  have p2 := bB8.cell 2 _ rfl
  have p3 := bB8.cell 3 _ rfl
  have s0 := bs48.cell 0 _ rfl
  have s1 := bs48.cell 1 _ rfl
  have s2 := bs48.cell 2 _ rfl
  have s3 := bs48.cell 3 _ rfl
  have HX := Lib.hid (And.intro bB8 bs8)
  clear bB8 bs48 bs8 hc8 hf8 hcs8 hfs8 hb5 hb6 hb7 hb8 hl8 hw5 hw6 hw7 h45 hl9 HR1 HR2 HR3 HP1 HP2 HSM HG HT
  go_wp2_with (first | (go_at_call 11; (with_reducible refine HSA.mono ?_); rintro e w9 ⟨rfl, hb9⟩; have g0 := (HX.out.1.below hb9).cell 0 _ rfl; have g1 := (HX.out.1.below hb9).cell 1 _ rfl; have g2 := (HX.out.1.below hb9).cell 2 _ rfl; have g3 := (HX.out.1.below hb9).cell 3 _ rfl; have i0 := (HX.out.2.below hb9).cell 0 _ rfl; have i1 := (HX.out.2.below hb9).cell 1 _ rfl; have i2 := (HX.out.2.below hb9).cell 2 _ rfl; have i3 := (HX.out.2.below hb9).cell 3 _ rfl) | (go_at_call 11; (with_reducible refine (HSB _ hb9).mono ?_); rintro e w10 ⟨rfl, hb10⟩))
  go_ret
  exact ⟨by first | rfl | simp, bstep hV8 (bstep hb9 hb10)⟩
set_option maxRecDepth 20000 in
set_option maxHeartbeats 4000000 in
theorem back_ok3 (cs : List Value) (s : Sch) (blank : Int) (m : Int) (w : World) (hm : w.cell? ⟨0, 0, none⟩ = some (.int .i64 m)) (hs : ScAt w cs s) (hg : grL [s] = false) (hv : vldS s = true) (hr : blank.tmod 4 = 3) (hbk : 0 ≤ blank ∧ blank ≤ 255) : Calls Tryd.prog 3 #[.agg cs.toArray, .int .u8 blank] w fun e w' => e = .returned (.bool true) ∧ Below w.heap.size w w' := by
  obtain ⟨a1, c1, a2, c2, rfl, h1, h2⟩ := hs.shape
  have hok := ok_of hv
  have HG := fun W (h : Below w.heap.size w W) => great_any [s] (.slice (some ⟨W.heap.size, 0, none⟩) 1 1) _ (one_ls (t := 25) hs W h)
  rw [hg] at HG
  have HT := fun W (h : Below w.heap.size w W) => text_any s a1 a2 c1 c2 W (h1.below h) (h2.below (fun r x hx => hx.below h) h)
  have ht2 : (txtS s).2 = 0 := by unfold txtS; rw [if_neg (by rw [hv]; simp)]
  have htl := txt_is s hv
  rw [ht2] at HT
  generalize (txtS s).1 = T at HT htl
  have L2 : Lay [32, 10, 32] [40, 32] [32, 44] := ⟨fun _ _ => rfl, fun _ _ => rfl, fun _ _ => rfl, ⟨by decide, by decide, by decide⟩, by decide, by decide, by decide⟩
  have L2a : Lay [32, 10, 32] [40] [44] := ⟨fun _ _ => rfl, fun _ _ => rfl, fun _ _ => rfl, ⟨by decide, by decide, by decide⟩, by decide, by decide, by decide⟩
  have L2b : Lay [32, 10, 32] [40, 32] [44] := ⟨fun _ _ => rfl, fun _ _ => rfl, fun _ _ => rfl, ⟨by decide, by decide, by decide⟩, by decide, by decide, by decide⟩
  have hT := len_txt htl (text_okB lay_one s hok).2
  obtain ⟨T1, hT1⟩ : ∃ T1 : ByteArray, T1.data.toList = textG [32, 10, 32] [40] [44] s := ⟨⟨(textG [32, 10, 32] [40] [44] s).toArray⟩, by simp⟩
  obtain ⟨T2, hT2⟩ : ∃ T2 : ByteArray, T2.data.toList = textG [32, 10, 32] [40, 32] [44] s := ⟨⟨(textG [32, 10, 32] [40, 32] [44] s).toArray⟩, by simp⟩
  obtain ⟨T3, hT3⟩ : ∃ T3 : ByteArray, T3.data.toList = textG [32, 10, 32] [40, 32] [32, 44] s := ⟨⟨(textG [32, 10, 32] [40, 32] [32, 44] s).toArray⟩, by simp⟩
  have hT3s := len_txt hT3 (text_okB L2 s hok).2
  have HR1 := fun W (h : Below w.heap.size w W) => repl_any T 32 ⟨#[32, 10, 32]⟩ T1 m W hT (by decide) (Go.Proofs.YtokbipfkpojflaaDoor.Sl.cell_kept hm h) (by rw [hT1, htl, rep_text (by decide) (by decide) _ _ _ _ s hok]; rfl)
  have HR2 := fun W (h : Below w.heap.size w W) => repl_any T1 40 ⟨#[40, 32]⟩ T2 m W (len_txt hT1 (text_okB L2a s hok).2) (by decide) (Go.Proofs.YtokbipfkpojflaaDoor.Sl.cell_kept hm h) (by rw [hT2, hT1, rep_text (by decide) (by decide) _ _ _ _ s hok]; rfl)
  have HR3 := fun W (h : Below w.heap.size w W) => repl_any T2 44 ⟨#[32, 44]⟩ T3 m W (len_txt hT2 (text_okB L2b s hok).2) (by decide) (Go.Proofs.YtokbipfkpojflaaDoor.Sl.cell_kept hm h) (by rw [hT3, hT2, rep_text (by decide) (by decide) _ _ _ _ s hok]; rfl)
  have HP1 : ∀ W, Calls Tryd.prog 9 #[.string T] W fun e w' => ∃ (x : Option Addr) (y : Nat) (u : Option Addr) (z : Nat), e = .returned (.tuple #[.agg #[.string s.name, .slice x s.cols.length y, .int .i64 s.key, .slice u s.frn.length z], .agg #[.int .i64 0, .int .i64 0], .int .i64 0]) ∧ Cs w' (.slice x s.cols.length y) s.cols ∧ FsAt w' (.slice u s.frn.length z) s.frn ∧ Below W.heap.size W w' := fun W => by
    have h := parse_any T W
    rw [back_law s hv _ _ _ lay_one T [] (.inl rfl) (by rw [htl]; simp)] at h
    refine h.mono ?_
    rintro e w' ⟨sc, sf, rfl, k1, k2, k3⟩
    obtain ⟨x, y, rfl⟩ := k1.form
    obtain ⟨u, z, rfl, _⟩ := k2.form
    exact ⟨x, y, u, z, rfl, k1, k2, k3⟩
  have HP2 : ∀ W, Calls Tryd.prog 9 #[.string (T3 ++ ⟨#[10]⟩)] W fun e w' => ∃ (x : Option Addr) (y : Nat) (u : Option Addr) (z : Nat), e = .returned (.tuple #[.agg #[.string s.name, .slice x s.cols.length y, .int .i64 s.key, .slice u s.frn.length z], .agg #[.int .i64 0, .int .i64 0], .int .i64 0]) ∧ Cs w' (.slice x s.cols.length y) s.cols ∧ FsAt w' (.slice u s.frn.length z) s.frn ∧ Below W.heap.size W w' := fun W => by
    have h := parse_any (T3 ++ ⟨#[10]⟩) W
    rw [back_law s hv _ _ _ L2 (T3 ++ ⟨#[10]⟩) [10] (.inr rfl) (by simp [hT3])] at h
    refine h.mono ?_
    rintro e w' ⟨sc, sf, rfl, k1, k2, k3⟩
    obtain ⟨x, y, rfl⟩ := k1.form
    obtain ⟨u, z, rfl, _⟩ := k2.form
    exact ⟨x, y, u, z, rfl, k1, k2, k3⟩
  have hfl : ∀ f ∈ s.frn, f.cols.length ≤ 1000000 := fun f hf => by have := (hok.frs.2 f hf).2.2.1; omega
  have hcl : s.cols.length ≤ 1000000 := by have := hok.cols.2.2; omega
  have hql : s.frn.length ≤ 1000000 := by have := hok.frs.1; omega
  have HSM := fun x y u z W (k1 : Cs W (.slice x s.cols.length y) s.cols) (k2 : FsAt W (.slice u s.frn.length z) s.frn) (h : Below w.heap.size w W) => same_any s hcl hql hfl x a1 u a2 y c1 z c2 W k1 (h1.below h) k2 (h2.below (fun r x hx => hx.below h) h)
  generalize s.cols.length = q1 at *
  generalize s.frn.length = q2 at *
  generalize s.name = nm at *
  generalize s.key = ky at *
  clear hs hg h1 h2 hv hok ht2 htl L2 L2a L2b hT hT1 hT2 hT3 hfl hcl hql hm
  show Calls Tryd.prog 3 #[.agg #[.string nm, .slice a1 q1 c1, .int .i64 ky, .slice a2 q2 c2], .int .u8 blank] w _
  go_enter Tryd.func3, Tryd.ntmps3
  go_upto_region 1 with fail
  obtain ⟨W0, hW⟩ : ∃ W0, w.alloc (.cells #[.string nm, .slice a1 q1 c1, .int .i64 ky, .slice a2 q2 c2] 25) = W0 := ⟨_, rfl⟩
  have hb0 : Bx W0 w.heap.size 25 #[.string nm, .slice a1 q1 c1, .int .i64 ky, .slice a2 q2 c2] := hW ▸ Bx.new w _ _
  have hL0 : Below w.heap.size w W0 := hW ▸ (Below.refl _ w).alloc (Nat.le_refl _) _
  rw [hW]
  clear hW
  generalize w.heap.size = B at hb0 ⊢
  go_upto_region 3 with (go_at_call 5; (with_reducible refine (awake_any _).mono ?_); rintro e w1 ⟨rfl, hb1⟩)
  have hw1 := bstep hL0 hb1
  have b1 := hb0.below hb1
  have p0 := b1.cell 0 _ rfl
  have p1 := b1.cell 1 _ rfl
  have p2 := b1.cell 2 _ rfl
  have p3 := b1.cell 3 _ rfl
  have HB1 := Lib.hid b1
  have hl1 := (Below.refl _ w1).alloc (Nat.le_refl _) (.cells #[.string nm, .slice a1 q1 c1, .int .i64 ky, .slice a2 q2 c2] 25)
  clear hb0 hb1 b1 hL0
  go_upto_region 9 with (first | (go_at_call 6; (with_reducible refine (HG _ hw1).mono ?_); rintro e w2 ⟨rfl, hb2⟩; have b2 := (HB1.out.below hl1).below hb2; have s0 := b2.cell 0 _ rfl; have s1 := b2.cell 1 _ rfl; have s2 := b2.cell 2 _ rfl; have s3 := b2.cell 3 _ rfl; have hw2 := bstep (bstep hw1 hl1) hb2) | (go_at_call 7; (with_reducible refine (HT _ hw2).mono ?_); rintro e w3 ⟨rfl, hb3⟩; have b3 := b2.below hb3; have t0 := b3.cell 0 _ rfl; have t1 := b3.cell 1 _ rfl; have t2 := b3.cell 2 _ rfl; have t3 := b3.cell 3 _ rfl; have hw3 := bstep hw2 hb3) | (go_at_call 9; (with_reducible refine (HP1 _).mono ?_); rintro e w4 ⟨x4, y4, u4, z4, rfl, hcs4, hfs4, hb4⟩))
  have b4 := b3.below hb4
  have m4 : (w4.alloc (.cells #[.string nm, .slice x4 q1 y4, .int .i64 ky, .slice u4 q2 z4] 25)).heap.size = w4.heap.size + 1 := by simp
  have bs4 := (Bx.new w4 25 #[.string nm, .slice x4 q1 y4, .int .i64 ky, .slice u4 q2 z4]).alloc (.cells #[.int .i64 0, .int .i64 0] 33)
  have hl4 := ((Below.refl w4.heap.size w4).alloc (Nat.le_refl _) (.cells #[.string nm, .slice x4 q1 y4, .int .i64 ky, .slice u4 q2 z4] 25)).alloc (by omega) (.cells #[.int .i64 0, .int .i64 0] 33)
  have hV4 := bstep (bstep hw3 hb4) hl4
  have bB4 := b4.below hl4
  have hc4 := hcs4.below hl4
  have hf4 := hfs4.below (fun r x hx => hx.below hl4) hl4
  clear m4
  generalize ((w4.alloc (.cells #[.string nm, .slice x4 q1 y4, .int .i64 ky, .slice u4 q2 z4] 25)).alloc (.cells #[.int .i64 0, .int .i64 0] 33)) = V4 at *
  generalize w4.heap.size + 1 = P4 at *
  generalize w4.heap.size = K4 at bs4 ⊢
  have H4 := Lib.hid (And.intro hV4 (And.intro bB4 (And.intro bs4 (And.intro hc4 hf4))))
  have hsV := hV4.size
  have hl9 := (Below.refl V4.heap.size V4).alloc (Nat.le_refl _) (.cells #[.string ⟨#[32, 32]⟩, .string ⟨#[10]⟩, .string ⟨#[9]⟩, .string ⟨#[32, 10, 32]⟩] 9)
  clear b2 b3 b4 hb2 hb3 hb4 hw1 hw2 hw3 hl1 hl4 hcs4 hfs4 HB1 hV4 bB4 bs4 hc4 hf4 s0 s1 s2 s3 t0 t1 t2 t3 p0 p1 p2 p3
  have hb4' : (0 : Int) ≤ blank := hbk.1
  have hb5' : blank ≤ 255 := hbk.2
  go_upto_region 10 with (go_at_call 10; (with_reducible refine (HR1 _ (bstep H4.out.1 hl9)).mono ?_); rintro e w5 ⟨rfl, hb5⟩)
  have h45 := hl9.trans (hb5.mono hl9.size)
  have hw5 := bstep H4.out.1 h45
  go_upto_region 11 with (first | (go_at_call 10; (with_reducible refine (HR2 _ hw5).mono ?_); rintro e w6 ⟨rfl, hb6⟩; have hw6 := bstep hw5 hb6) | (go_at_call 10; (with_reducible refine (HR3 _ hw6).mono ?_); rintro e w7 ⟨rfl, hb7⟩; have hw7 := bstep hw6 hb7) | (go_at_call 9; (with_reducible refine (HP2 _).mono ?_); rintro e w8 ⟨x8, y8, u8, z8, rfl, hcs8, hfs8, hb8⟩))
  have m8 : (w8.alloc (.cells #[.string nm, .slice x8 q1 y8, .int .i64 ky, .slice u8 q2 z8] 25)).heap.size = w8.heap.size + 1 := by simp
  have bs8 := (Bx.new w8 25 #[.string nm, .slice x8 q1 y8, .int .i64 ky, .slice u8 q2 z8]).alloc (.cells #[.int .i64 0, .int .i64 0] 33)
  have hl8 := ((Below.refl w8.heap.size w8).alloc (Nat.le_refl _) (.cells #[.string nm, .slice x8 q1 y8, .int .i64 ky, .slice u8 q2 z8] 25)).alloc (by omega) (.cells #[.int .i64 0, .int .i64 0] 33)
  have h48 := bstep (bstep (bstep (bstep h45 hb6) hb7) hb8) hl8
  have hV8 := bstep H4.out.1 h48
  have hc8 := hcs8.below hl8
  have hf8 := hfs8.below (fun r x hx => hx.below hl8) hl8
  clear m8
  generalize ((w8.alloc (.cells #[.string nm, .slice x8 q1 y8, .int .i64 ky, .slice u8 q2 z8] 25)).alloc (.cells #[.int .i64 0, .int .i64 0] 33)) = V8 at *
  generalize w8.heap.size + 1 = P8 at *
  generalize w8.heap.size = K8 at bs8 ⊢
  have HSA := HSM _ _ _ _ V8 (H4.out.2.2.2.1.below h48) (H4.out.2.2.2.2.below (fun r x hx => hx.below h48) h48) hV8
  have HSB := fun W (h : Below V8.heap.size V8 W) => HSM _ _ _ _ W (hc8.below h) (hf8.below (fun r x hx => hx.below h) h) (bstep hV8 h)
  have bB8 := H4.out.2.1.below h48
  have bs48 := H4.out.2.2.1.below h48
  have p0 := bB8.cell 0 _ rfl
  have p1 := bB8.cell 1 _ rfl
  have p2 := bB8.cell 2 _ rfl
  have p3 := bB8.cell 3 _ rfl
  have s0 := bs48.cell 0 _ rfl
  have s1 := bs48.cell 1 _ rfl
  have s2 := bs48.cell 2 _ rfl
  have s3 := bs48.cell 3 _ rfl
  have HX := Lib.hid (And.intro bB8 bs8)
  clear bB8 bs48 bs8 hc8 hf8 hcs8 hfs8 hb5 hb6 hb7 hb8 hl8 hw5 hw6 hw7 h45 hl9 HR1 HR2 HR3 HP1 HP2 HSM HG HT
  go_wp2_with (first | (go_at_call 11; (with_reducible refine HSA.mono ?_); rintro e w9 ⟨rfl, hb9⟩; have g0 := (HX.out.1.below hb9).cell 0 _ rfl; have g1 := (HX.out.1.below hb9).cell 1 _ rfl; have g2 := (HX.out.1.below hb9).cell 2 _ rfl; have g3 := (HX.out.1.below hb9).cell 3 _ rfl; have i0 := (HX.out.2.below hb9).cell 0 _ rfl; have i1 := (HX.out.2.below hb9).cell 1 _ rfl; have i2 := (HX.out.2.below hb9).cell 2 _ rfl; have i3 := (HX.out.2.below hb9).cell 3 _ rfl) | (go_at_call 11; (with_reducible refine (HSB _ hb9).mono ?_); rintro e w10 ⟨rfl, hb10⟩))
  go_ret
  exact ⟨by first | rfl | simp, bstep hV8 (bstep hb9 hb10)⟩
theorem schemaBack_walk (cs : List Value) (s : Sch) (blank : Int) (m : Int) (w : World) (hm : w.cell? ⟨0, 0, none⟩ = some (.int .i64 m)) (hs : ScAt w cs s) (hg : szS s) (hwf : (Lit.int .u8 blank).wf = true) : Calls Tryd.prog 3 #[.agg cs.toArray, .int .u8 blank] w fun e w' => e = .returned (.bool true) ∧ Below w.heap.size w w' := by
  have hb : 0 ≤ blank ∧ blank ≤ 255 := by
    simp [Lit.wf, IntKind.min, IntKind.max, IntKind.signed, IntKind.bits] at hwf
    omega
  cases hgr : grL [s]
  · cases hv : vldS s
    · exact back_bad cs s blank w hs hgr hv
    · have hq : blank.tmod 4 = 0 ∨ blank.tmod 4 = 1 ∨ blank.tmod 4 = 2 ∨ blank.tmod 4 = 3 := by
        rw [Int.tmod_eq_emod_of_nonneg hb.1]
        omega
      rcases hq with h | h | h | h
      · exact back_ok0 cs s blank m w hm hs hgr hv h hb
      · exact back_ok1 cs s blank m w hm hs hgr hv h hb
      · exact back_ok2 cs s blank m w hm hs hgr hv h hb
      · exact back_ok3 cs s blank m w hm hs hgr hv h hb
  · exact back_great cs s blank w hs hgr
end Go.Proofs.YtokbipfkpojflaaDoor.Sc
