/-
  The walk of the law SchemaTexts (layer 34).
-/
import Derived.Test.YtokbipfkpojflaaSu
import Derived.Test.YtokbipfkpojflaaSop
set_option linter.unusedSimpArgs false
set_option linter.unusedVariables false
namespace Go.Proofs.Ytokbipfkpojflaa.Sc
open Go Go.RowKit Go.ChangeShapes Go.WideShapes Go.Proofs.Ytokbipfkpojflaa.Sl Go.Lib
open Go.Proofs.Ytokbipfkpojflaa.Va (Cl flatC Cs)

set_option maxRecDepth 20000 in
set_option maxHeartbeats 2000000 in
theorem schemaTexts_walk (cs : List Value) (s : Sch) (w : World) (hs : ScAt w cs s) (hg : szS s) : Calls Try.prog 4 #[.agg cs.toArray] w fun e w' => e = .returned (.bool true) ∧ Below w.heap.size w w' := by
  obtain ⟨a1, c1, a2, c2, rfl, h1, h2⟩ := hs.shape
  have HG := fun W (h : Below w.heap.size w W) => great_any [s] (.slice (some ⟨W.heap.size, 0, none⟩) 1 1) _ (one_ls (t := 28) hs W h)
  have HT := fun W (h : Below w.heap.size w W) => text_any s a1 a2 c1 c2 W (h1.below h) (h2.below (fun r x hx => hx.below h) h)
  have HU := fun W (h : Below w.heap.size w W) => rtextS_any s a1 a2 c1 c2 W (h1.below h) (h2.below (fun r x hx => hx.below h) h)
  generalize grL [s] = gr at HG
  generalize (txtS s).1 = T1 at HT HU
  generalize (txtS s).2 = T2 at HT HU
  have hbb : (T1.toList == T1.toList) = true := (Lib.bytes_beq_iff T1 T1).2 rfl
  generalize s.cols.length = q1 at *
  generalize s.frn.length = q2 at *
  generalize s.name = nm at *
  generalize s.key = ky at *
  clear hs hg h1 h2
  show Calls Try.prog 4 #[.agg #[.string nm, .slice a1 q1 c1, .int .i64 ky, .slice a2 q2 c2]] w _
  go_enter Try.func4, Try.ntmps4
  go_upto_region 1 with fail
  obtain ⟨W0, hW⟩ : ∃ W0, w.alloc (.cells #[.string nm, .slice a1 q1 c1, .int .i64 ky, .slice a2 q2 c2] 28) = W0 := ⟨_, rfl⟩
  have hb0 : Bx W0 w.heap.size 28 #[.string nm, .slice a1 q1 c1, .int .i64 ky, .slice a2 q2 c2] := hW ▸ Bx.new w _ _
  have hL0 : Below w.heap.size w W0 := hW ▸ (Below.refl _ w).alloc (Nat.le_refl _) _
  rw [hW]
  clear hW
  generalize w.heap.size = B at hb0 ⊢
  go_upto_region 3 with (go_at_call 10; (with_reducible refine (awake_any _).mono ?_); rintro e w1 ⟨rfl, hb1⟩)
  have hw1 := bstep hL0 hb1
  have b1 := hb0.below hb1
  have p0 := b1.cell 0 _ rfl
  have p1 := b1.cell 1 _ rfl
  have p2 := b1.cell 2 _ rfl
  have p3 := b1.cell 3 _ rfl
  have HB1 := Lib.hid b1
  have hl1 := (Below.refl _ w1).alloc (Nat.le_refl _) (.cells #[.string nm, .slice a1 q1 c1, .int .i64 ky, .slice a2 q2 c2] 28)
  clear hb0 hb1 b1 hL0
  cases gr
  · go_wp2_with (first | (go_at_call 11; (with_reducible refine (HG _ hw1).mono ?_); rintro e w2 ⟨rfl, hb2⟩; have b2 := (HB1.out.below hl1).below hb2; have s0 := b2.cell 0 _ rfl; have s1 := b2.cell 1 _ rfl; have s2 := b2.cell 2 _ rfl; have s3 := b2.cell 3 _ rfl; have hw2 := bstep (bstep hw1 hl1) hb2) | (go_at_call 16; (with_reducible refine (HT _ hw2).mono ?_); rintro e w3 ⟨rfl, hb3⟩; have b3 := b2.below hb3; have t0 := b3.cell 0 _ rfl; have t1 := b3.cell 1 _ rfl; have t2 := b3.cell 2 _ rfl; have t3 := b3.cell 3 _ rfl; have hw3 := bstep hw2 hb3) | (go_at_call 17; (with_reducible refine (HU _ hw3).mono ?_); rintro e w4 ⟨rfl, hb4⟩; have hw4 := bstep hw3 hb4))
    go_ret
    exact ⟨by first | rfl | simp [hbb], hw4⟩
  · go_wp2_with (go_at_call 11; (with_reducible refine (HG _ hw1).mono ?_); rintro e w2 ⟨rfl, hb2⟩; have hw2 := bstep (bstep hw1 hl1) hb2)
    go_ret
    exact ⟨rfl, hw2⟩
end Go.Proofs.Ytokbipfkpojflaa.Sc
