/-
  The reference's Parse, whole; the walk of the law SchemaParses (layer 34).
-/
import Derived.Test.YtokbipfkpojflaaSb8
import Derived.Test.YtokbipfkpojflaaScG
import Derived.Test.YtokbipfkpojflaaSsm
set_option linter.unusedSimpArgs false
set_option linter.unusedVariables false
namespace Go.Proofs.Ytokbipfkpojflaa.Sc
open Go Go.RowKit Go.ChangeShapes Go.WideShapes Go.Proofs.Ytokbipfkpojflaa.Sl Go.Lib
open Go.Proofs.Ytokbipfkpojflaa.Lx (Tok tokV cellsT cellsT_len cellsT_app cellsT_one)
open Go.Proofs.Ytokbipfkpojflaa.Va (Cl flatC flatC_len flatC_snoc Cs)

set_option maxRecDepth 20000 in
set_option maxHeartbeats 4000000 in
theorem rparse_bad (s : ByteArray) (w : World) (p : Nat × Nat) (n : Int) (h0 : ¬ n = 0) (HT : ∀ W, Calls Try.prog 69 #[.string s] W fun e w' => ∃ (a : Option Addr) (m c : Nat), e = .returned (.tuple #[.slice a m c, .agg #[.int .i64 p.1, .int .i64 p.2], .int .i64 n]) ∧ Below W.heap.size W w') : Calls Try.prog 22 #[.string s] w (PrsP w sch0 p n) := by
  have hn : (n != 0) = true := by simpa using h0
  go_enter Try.func22, Try.ntmps22
  go_upto_region 3 with (go_at_call 69; (with_reducible refine (HT _).mono ?_); rintro e w1 ⟨va, m, vc, rfl, hb⟩)
  have b2 : Bx w1 w.heap.size 28 #[.string ⟨#[]⟩, .slice none 0 0, .int .i64 0, .slice none 0 0] := ((Bx.new w _ _).alloc _).below hb
  have b3 : Bx w1 (w.heap.size + 1) 45 #[.int .i64 0, .int .i64 0] := by
    have h := (Bx.new (w.alloc (.cells #[.string ⟨#[]⟩, .slice none 0 0, .int .i64 0, .slice none 0 0] 28)) 45 #[.int .i64 0, .int .i64 0]).below hb
    rw [show (w.alloc (.cells #[.string ⟨#[]⟩, .slice none 0 0, .int .i64 0, .slice none 0 0] 28)).heap.size = w.heap.size + 1 by simp] at h
    exact h
  have hL : Below w.heap.size w w1 := bstep (((Below.refl _ w).alloc (Nat.le_refl _) _).alloc (by simp) _) hb
  have c20 := b2.cell 0 _ rfl
  have c21 := b2.cell 1 _ rfl
  have c22 := b2.cell 2 _ rfl
  have c23 := b2.cell 3 _ rfl
  have f20 := b2.frozen 0
  have f21 := b2.frozen 1
  have f22 := b2.frozen 2
  have f23 := b2.frozen 3
  have c30 := b3.cell 0 _ rfl
  have c31 := b3.cell 1 _ rfl
  have f30 := b3.frozen 0
  have f31 := b3.frozen 1
  have hl3 := b3.lt
  have hl2 := b2.lt
  have b2' := Lib.hid b2
  have b3' := Lib.hid b3
  clear hb b2 b3
  go_region
  have e2 := ((b2'.out.set4 (.string ⟨#[]⟩) (.slice none 0 0) (.int .i64 0) (.slice none 0 0)).far2 (P := w.heap.size + 1) (by omega) (.int .i64 p.1) (.int .i64 p.2)).alloc (.cells #[.int .i64 p.1, .int .i64 p.2] 45)
  have e3 := ((b3'.out.far4 (P := w.heap.size) (by omega) (.string ⟨#[]⟩) (.slice none 0 0) (.int .i64 0) (.slice none 0 0)).set2 (.int .i64 p.1) (.int .i64 p.2)).alloc (.cells #[.int .i64 p.1, .int .i64 p.2] 45)
  have hL9 : Below w.heap.size w ((((((((w1.setCell ⟨w.heap.size, 0, none⟩ (.string ⟨#[]⟩)).setCell ⟨w.heap.size, 1, none⟩ (.slice none 0 0)).setCell ⟨w.heap.size, 2, none⟩ (.int .i64 0)).setCell ⟨w.heap.size, 3, none⟩ (.slice none 0 0)).setCell ⟨w.heap.size + 1, 0, none⟩ (.int .i64 p.1)).setCell ⟨w.heap.size + 1, 1, none⟩ (.int .i64 p.2)).alloc (.cells #[.int .i64 p.1, .int .i64 p.2] 45))).drew := by go_grown
  generalize (((((((w1.setCell ⟨w.heap.size, 0, none⟩ (.string ⟨#[]⟩)).setCell ⟨w.heap.size, 1, none⟩ (.slice none 0 0)).setCell ⟨w.heap.size, 2, none⟩ (.int .i64 0)).setCell ⟨w.heap.size, 3, none⟩ (.slice none 0 0)).setCell ⟨w.heap.size + 1, 0, none⟩ (.int .i64 p.1)).setCell ⟨w.heap.size + 1, 1, none⟩ (.int .i64 p.2)).alloc (.cells #[.int .i64 p.1, .int .i64 p.2] 45)) = W9 at e2 e3 hL9 ⊢
  clear c20 c21 c22 c23 c30 c31 f20 f21 f22 f23 f30 f31 hl2 hl3
  go_wp2
  refine bodyPost_ret (rprs_ret _ _ _ _ _ _ _ p n rfl rfl rfl e2 e3) rfl ?_
  exact ⟨_, _, rfl, Sl.mk0 .., FsAt.nil .., hL9⟩
theorem rparse_any (s : ByteArray) (w : World) : Calls Try.prog 22 #[.string s] w (PrsP w (prsS s).1 (prsS s).2.1 (prsS s).2.2) := by
  by_cases hs : 65536 < s.size
  · have e : prsS s = (sch0, (0, 0), 5) := by unfold prsS; rw [if_pos hs]
    rw [e]
    exact rparse_bad s w (0, 0) 5 (by decide) (fun W => (rtokens_big s W hs).mono (by rintro e w' ⟨rfl, hb⟩; exact ⟨none, 0, 0, rfl, hb⟩))
  · by_cases h0 : (tokS s).2.2 = 0
    · exact rparse_go s w (by omega) h0
    · have e : prsS s = (sch0, (tokS s).2.1, (tokS s).2.2) := by unfold prsS; rw [if_neg hs, if_pos h0]
      rw [e]
      exact rparse_bad s w _ _ h0 (fun W => (rtokens_ok s W (by omega)).mono (by rintro e w' ⟨v, rfl, ht, hb⟩; obtain ⟨a, c, rfl⟩ := ht.1.form; exact ⟨a, _, c, rfl, hb⟩))
theorem prsS_small (s : ByteArray) : (prsS s).1.cols.length ≤ 1000000 ∧ (prsS s).1.frn.length ≤ 1000000 ∧ ∀ f ∈ (prsS s).1.frn, f.cols.length ≤ 1000000 := by
  have h0 : sch0.cols.length ≤ 1000000 ∧ sch0.frn.length ≤ 1000000 ∧ ∀ f ∈ sch0.frn, f.cols.length ≤ 1000000 := ⟨by decide, by decide, fun f hf => by cases hf⟩
  unfold prsS
  split
  · exact h0
  · split
    · exact h0
    · split
      · exact h0
      · split
        · exact h0
        · rename_i hv
          have hv2 : vldS (prsL (tokS s).1) = true := by simpa using hv
          obtain ⟨_, _, h3, h4, _⟩ := vld_key hv2
          exact ⟨by show (prsL _).cols.length ≤ _; omega, by show (prsL _).frn.length ≤ _; omega, fun f hf => by have := (vld_frn hv2 hf).2.1; omega⟩
set_option maxRecDepth 20000 in
set_option maxHeartbeats 4000000 in
theorem schemaParses_walk (s : ByteArray) {q : Prop} (hq : q) (w : World) : Calls Try.prog 6 #[.string s] w fun e w' => e = .returned (.bool true) ∧ Below w.heap.size w w' := by
  by_cases hsz : 2000 < s.size ∧ s.size ≤ 65536
  · have h1 : (2000 : Int) < (s.size : Int) := by omega
    have h2 : (s.size : Int) ≤ 65536 := by omega
    clear hsz hq
    go_enter Try.func6, Try.ntmps6
    go_wp2_with (go_at_call 10; (with_reducible refine (awake_any _).mono ?_); rintro e w1 ⟨rfl, hb1⟩)
    go_ret
    exact ⟨rfl, hb1⟩
  have HP := fun W => parse_any s W
  have HR := fun W => rparse_any s W
  obtain ⟨z1, z2, z3⟩ := prsS_small s
  generalize (prsS s).1 = S at *
  generalize (prsS s).2.1 = p at *
  generalize (prsS s).2.2 = x at *
  have hpq : ∀ wz : World, (binOp .eql 45 (.agg #[.int .i64 (p.1 : Nat), .int .i64 (p.2 : Nat)]) (.agg #[.int .i64 (p.1 : Nat), .int .i64 (p.2 : Nat)])).run Try.prog wz = .ok (.bool true) wz := fun wz => by simp [go_sem, Try.underlying45]
  have HSM := fun a1 c1 f1 d1 a2 c2 f2 d2 (W : World) (h1 : Cs W (.slice a1 S.cols.length c1) S.cols) (h2 : Cs W (.slice a2 S.cols.length c2) S.cols) (h3 : FsAt W (.slice f1 S.frn.length d1) S.frn) (h4 : FsAt W (.slice f2 S.frn.length d2) S.frn) => same_any S z1 z2 z3 a1 a2 f1 f2 c1 c2 d1 d2 W h1 h2 h3 h4
  clear z1 z2 z3 hq
  have hsz2 : (s.size : Int) ≤ 2000 ∨ (65536 : Int) < (s.size : Int) := by omega
  clear hsz
  go_enter Try.func6, Try.ntmps6
  rcases hsz2 with hsz2 | hsz2
  · skip
    go_upto_region 6 with (first | (go_at_call 10; (with_reducible refine (awake_any _).mono ?_); rintro e w1 ⟨rfl, hb1⟩) | (go_at_call 21; (with_reducible refine (HP _).mono ?_); rintro e w2 ⟨sc1, sf1, rfl, hcs1, hfs1, hb2⟩; unfold prsV posV; obtain ⟨a1, c1, rfl⟩ := hcs1.form; obtain ⟨f1, d1, rfl, _⟩ := hfs1.form))
    have hw2 := bstep hb1 hb2
    have m1 : (w2.alloc (.cells #[.string S.name, .slice a1 S.cols.length c1, .int .i64 S.key, .slice f1 S.frn.length d1] 28)).heap.size = w2.heap.size + 1 := by simp
    have bs1 := (Bx.new w2 28 #[.string S.name, .slice a1 S.cols.length c1, .int .i64 S.key, .slice f1 S.frn.length d1]).alloc (.cells #[.int .i64 p.1, .int .i64 p.2] 45)
    have bp1 := Bx.new (w2.alloc (.cells #[.string S.name, .slice a1 S.cols.length c1, .int .i64 S.key, .slice f1 S.frn.length d1] 28)) 45 #[.int .i64 p.1, .int .i64 p.2]
    rw [m1] at bp1
    have hl1 := ((Below.refl w2.heap.size w2).alloc (Nat.le_refl _) (.cells #[.string S.name, .slice a1 S.cols.length c1, .int .i64 S.key, .slice f1 S.frn.length d1] 28)).alloc (by omega) (.cells #[.int .i64 p.1, .int .i64 p.2] 45)
    have hcs1' := hcs1.below hl1
    have hfs1' := hfs1.below (fun r x hx => hx.below hl1) hl1
    clear m1 hcs1 hfs1
    generalize ((w2.alloc (.cells #[.string S.name, .slice a1 S.cols.length c1, .int .i64 S.key, .slice f1 S.frn.length d1] 28)).alloc (.cells #[.int .i64 p.1, .int .i64 p.2] 45)) = V1 at *
    generalize w2.heap.size + 1 = P1 at bp1 ⊢
    generalize w2.heap.size = S1 at bs1 ⊢
    have hV1 := bstep hw2 hl1
    clear hb1 hb2 hw2 hl1
    go_upto_region 7 with (go_at_call 22; (with_reducible refine (HR _).mono ?_); rintro e w3 ⟨sc2, sf2, rfl, hcs2, hfs2, hb3⟩; unfold prsV posV; obtain ⟨a2, c2, rfl⟩ := hcs2.form; obtain ⟨f2, d2, rfl, _⟩ := hfs2.form)
    have hw3 := bstep hV1 hb3
    have bs1' := bs1.below hb3
    have bp1' := bp1.below hb3
    have hcs1'' := hcs1'.below hb3
    have hfs1'' := hfs1'.below (fun r x hx => hx.below hb3) hb3
    have m2 : (w3.alloc (.cells #[.string S.name, .slice a2 S.cols.length c2, .int .i64 S.key, .slice f2 S.frn.length d2] 28)).heap.size = w3.heap.size + 1 := by simp
    have bs2 := (Bx.new w3 28 #[.string S.name, .slice a2 S.cols.length c2, .int .i64 S.key, .slice f2 S.frn.length d2]).alloc (.cells #[.int .i64 p.1, .int .i64 p.2] 45)
    have bp2 := Bx.new (w3.alloc (.cells #[.string S.name, .slice a2 S.cols.length c2, .int .i64 S.key, .slice f2 S.frn.length d2] 28)) 45 #[.int .i64 p.1, .int .i64 p.2]
    rw [m2] at bp2
    have hl2 := ((Below.refl w3.heap.size w3).alloc (Nat.le_refl _) (.cells #[.string S.name, .slice a2 S.cols.length c2, .int .i64 S.key, .slice f2 S.frn.length d2] 28)).alloc (by omega) (.cells #[.int .i64 p.1, .int .i64 p.2] 45)
    have hcs2' := hcs2.below hl2
    have hfs2' := hfs2.below (fun r x hx => hx.below hl2) hl2
    have bs1x := bs1'.below hl2
    have bp1x := bp1'.below hl2
    have hcs1x := hcs1''.below hl2
    have hfs1x := hfs1''.below (fun r x hx => hx.below hl2) hl2
    clear m2 hcs2 hfs2
    generalize ((w3.alloc (.cells #[.string S.name, .slice a2 S.cols.length c2, .int .i64 S.key, .slice f2 S.frn.length d2] 28)).alloc (.cells #[.int .i64 p.1, .int .i64 p.2] 45)) = V2 at *
    generalize w3.heap.size + 1 = P2 at bp2 ⊢
    generalize w3.heap.size = S2 at bs2 ⊢
    have hV2 := bstep hw3 hl2
    have HSM2 := HSM a1 c1 f1 d1 a2 c2 f2 d2 V2 hcs1x hcs2' hfs1x hfs2'
    have k0 := bs1x.cell 0 _ rfl
    have k1 := bs1x.cell 1 _ rfl
    have k2 := bs1x.cell 2 _ rfl
    have k3 := bs1x.cell 3 _ rfl
    have n0 := bs2.cell 0 _ rfl
    have n1 := bs2.cell 1 _ rfl
    have n2 := bs2.cell 2 _ rfl
    have n3 := bs2.cell 3 _ rfl
    have p0 := bp1x.cell 0 _ rfl
    have p1 := bp1x.cell 1 _ rfl
    have q0 := bp2.cell 0 _ rfl
    have q1 := bp2.cell 1 _ rfl
    clear hb3 hw3 bs1 bp1 bs1' bp1' hcs1' hfs1' hcs1'' hfs1'' hl2 hV1 HSM hcs1x hcs2' hfs1x hfs2' bs1x bp1x bs2 bp2 HP HR
    generalize S.cols.length = s1 at *
    generalize S.frn.length = s2 at *
    generalize S.name = s3 at *
    generalize S.key = s4 at *
    go_wp2_with (go_at_call 23; (with_reducible refine HSM2.mono ?_); rintro e w9 ⟨rfl, hb9⟩)
    go_ret
    exact ⟨by first | rfl | simp, bstep hV2 hb9⟩
  · skip
    go_upto_region 6 with (first | (go_at_call 10; (with_reducible refine (awake_any _).mono ?_); rintro e w1 ⟨rfl, hb1⟩) | (go_at_call 21; (with_reducible refine (HP _).mono ?_); rintro e w2 ⟨sc1, sf1, rfl, hcs1, hfs1, hb2⟩; unfold prsV posV; obtain ⟨a1, c1, rfl⟩ := hcs1.form; obtain ⟨f1, d1, rfl, _⟩ := hfs1.form))
    have hw2 := bstep hb1 hb2
    have m1 : (w2.alloc (.cells #[.string S.name, .slice a1 S.cols.length c1, .int .i64 S.key, .slice f1 S.frn.length d1] 28)).heap.size = w2.heap.size + 1 := by simp
    have bs1 := (Bx.new w2 28 #[.string S.name, .slice a1 S.cols.length c1, .int .i64 S.key, .slice f1 S.frn.length d1]).alloc (.cells #[.int .i64 p.1, .int .i64 p.2] 45)
    have bp1 := Bx.new (w2.alloc (.cells #[.string S.name, .slice a1 S.cols.length c1, .int .i64 S.key, .slice f1 S.frn.length d1] 28)) 45 #[.int .i64 p.1, .int .i64 p.2]
    rw [m1] at bp1
    have hl1 := ((Below.refl w2.heap.size w2).alloc (Nat.le_refl _) (.cells #[.string S.name, .slice a1 S.cols.length c1, .int .i64 S.key, .slice f1 S.frn.length d1] 28)).alloc (by omega) (.cells #[.int .i64 p.1, .int .i64 p.2] 45)
    have hcs1' := hcs1.below hl1
    have hfs1' := hfs1.below (fun r x hx => hx.below hl1) hl1
    clear m1 hcs1 hfs1
    generalize ((w2.alloc (.cells #[.string S.name, .slice a1 S.cols.length c1, .int .i64 S.key, .slice f1 S.frn.length d1] 28)).alloc (.cells #[.int .i64 p.1, .int .i64 p.2] 45)) = V1 at *
    generalize w2.heap.size + 1 = P1 at bp1 ⊢
    generalize w2.heap.size = S1 at bs1 ⊢
    have hV1 := bstep hw2 hl1
    clear hb1 hb2 hw2 hl1
    go_upto_region 7 with (go_at_call 22; (with_reducible refine (HR _).mono ?_); rintro e w3 ⟨sc2, sf2, rfl, hcs2, hfs2, hb3⟩; unfold prsV posV; obtain ⟨a2, c2, rfl⟩ := hcs2.form; obtain ⟨f2, d2, rfl, _⟩ := hfs2.form)
    have hw3 := bstep hV1 hb3
    have bs1' := bs1.below hb3
    have bp1' := bp1.below hb3
    have hcs1'' := hcs1'.below hb3
    have hfs1'' := hfs1'.below (fun r x hx => hx.below hb3) hb3
    have m2 : (w3.alloc (.cells #[.string S.name, .slice a2 S.cols.length c2, .int .i64 S.key, .slice f2 S.frn.length d2] 28)).heap.size = w3.heap.size + 1 := by simp
    have bs2 := (Bx.new w3 28 #[.string S.name, .slice a2 S.cols.length c2, .int .i64 S.key, .slice f2 S.frn.length d2]).alloc (.cells #[.int .i64 p.1, .int .i64 p.2] 45)
    have bp2 := Bx.new (w3.alloc (.cells #[.string S.name, .slice a2 S.cols.length c2, .int .i64 S.key, .slice f2 S.frn.length d2] 28)) 45 #[.int .i64 p.1, .int .i64 p.2]
    rw [m2] at bp2
    have hl2 := ((Below.refl w3.heap.size w3).alloc (Nat.le_refl _) (.cells #[.string S.name, .slice a2 S.cols.length c2, .int .i64 S.key, .slice f2 S.frn.length d2] 28)).alloc (by omega) (.cells #[.int .i64 p.1, .int .i64 p.2] 45)
    have hcs2' := hcs2.below hl2
    have hfs2' := hfs2.below (fun r x hx => hx.below hl2) hl2
    have bs1x := bs1'.below hl2
    have bp1x := bp1'.below hl2
    have hcs1x := hcs1''.below hl2
    have hfs1x := hfs1''.below (fun r x hx => hx.below hl2) hl2
    clear m2 hcs2 hfs2
    generalize ((w3.alloc (.cells #[.string S.name, .slice a2 S.cols.length c2, .int .i64 S.key, .slice f2 S.frn.length d2] 28)).alloc (.cells #[.int .i64 p.1, .int .i64 p.2] 45)) = V2 at *
    generalize w3.heap.size + 1 = P2 at bp2 ⊢
    generalize w3.heap.size = S2 at bs2 ⊢
    have hV2 := bstep hw3 hl2
    have HSM2 := HSM a1 c1 f1 d1 a2 c2 f2 d2 V2 hcs1x hcs2' hfs1x hfs2'
    have k0 := bs1x.cell 0 _ rfl
    have k1 := bs1x.cell 1 _ rfl
    have k2 := bs1x.cell 2 _ rfl
    have k3 := bs1x.cell 3 _ rfl
    have n0 := bs2.cell 0 _ rfl
    have n1 := bs2.cell 1 _ rfl
    have n2 := bs2.cell 2 _ rfl
    have n3 := bs2.cell 3 _ rfl
    have p0 := bp1x.cell 0 _ rfl
    have p1 := bp1x.cell 1 _ rfl
    have q0 := bp2.cell 0 _ rfl
    have q1 := bp2.cell 1 _ rfl
    clear hb3 hw3 bs1 bp1 bs1' bp1' hcs1' hfs1' hcs1'' hfs1'' hl2 hV1 HSM hcs1x hcs2' hfs1x hfs2' bs1x bp1x bs2 bp2 HP HR
    generalize S.cols.length = s1 at *
    generalize S.frn.length = s2 at *
    generalize S.name = s3 at *
    generalize S.key = s4 at *
    go_wp2_with (go_at_call 23; (with_reducible refine HSM2.mono ?_); rintro e w9 ⟨rfl, hb9⟩)
    go_ret
    exact ⟨by first | rfl | simp, bstep hV2 hb9⟩
end Go.Proofs.Ytokbipfkpojflaa.Sc
