/-
  The walk of the law SchemaPlaces (layer 34).
-/
import Derived.Test.YtokbipfkpojflaaDoorSpp
import Derived.Test.YtokbipfkpojflaaDoorScG
import Derived.Test.YtokbipfkpojflaaDoorSsm
import Derived.Test.YtokbipfkpojflaaDoorLxS
import Derived.Test.YtokbipfkpojflaaDoorLxL
set_option linter.unusedSimpArgs false
set_option linter.unusedVariables false
namespace Go.Proofs.YtokbipfkpojflaaDoor.Sc
open Go Go.RowKit Go.ChangeShapes Go.WideShapes Go.Proofs.YtokbipfkpojflaaDoor.Sl Go.Lib
open Go.Proofs.YtokbipfkpojflaaDoor.Lx (Tok tokV splitL)
open Go.Proofs.YtokbipfkpojflaaDoor.Va (Cl flatC Cs)

set_option maxRecDepth 20000 in
set_option maxHeartbeats 4000000 in
theorem places_ok (s : ByteArray) (w : World) (hl : s.size ≤ 2000) (S : Sch) (p : Nat × Nat) (HP : ∀ W, Calls Tryd.prog 9 #[.string s] W (PrsP W S p 0)) (hv : vldS S = true) (hp : p = (0, 0)) : Calls Tryd.prog 4 #[.string s] w fun e w' => e = .returned (.bool true) ∧ Below w.heap.size w w' := by
  have hpq : ∀ wz : World, (binOp .eql 33 (.agg #[.int .i64 (p.1 : Nat), .int .i64 (p.2 : Nat)]) (.agg #[.int .i64 0, .int .i64 0])).run Tryd.prog wz = .ok (.bool true) wz := fun wz => by simp [go_sem, Tryd.underlying33, hp]
  have hs1 : (s.size : Int) ≤ 2000 := by omega
  clear hp hl
  go_enter Tryd.func4, Tryd.ntmps4
  go_upto_region 6 with (first | (go_at_call 5; (with_reducible refine (awake_any _).mono ?_); rintro e w1 ⟨rfl, hb1⟩) | (go_at_call 9; (with_reducible refine (HP _).mono ?_); rintro e w2 ⟨sc1, sf1, rfl, hcs1, hfs1, hb2⟩; unfold prsV posV; obtain ⟨a1, c1, hsc⟩ : ∃ a c, sc1 = .slice a S.cols.length c := hcs1.form; obtain ⟨f1, d1, hsf⟩ : ∃ a c, sf1 = .slice a S.frn.length c := (by obtain ⟨a, c, h, _⟩ := hfs1.form; exact ⟨a, c, h⟩); subst hsc; subst hsf))
  have hw2 := bstep hb1 hb2
  have m1 : (w2.alloc (.cells #[.string S.name, .slice a1 S.cols.length c1, .int .i64 S.key, .slice f1 S.frn.length d1] 25)).heap.size = w2.heap.size + 1 := by simp
  have bs1 := (Bx.new w2 25 #[.string S.name, .slice a1 S.cols.length c1, .int .i64 S.key, .slice f1 S.frn.length d1]).alloc (.cells #[.int .i64 (p.1 : Nat), .int .i64 (p.2 : Nat)] 33)
  have bp1 := Bx.new (w2.alloc (.cells #[.string S.name, .slice a1 S.cols.length c1, .int .i64 S.key, .slice f1 S.frn.length d1] 25)) 33 #[.int .i64 (p.1 : Nat), .int .i64 (p.2 : Nat)]
  rw [m1] at bp1
  have hl1 := ((Below.refl w2.heap.size w2).alloc (Nat.le_refl _) (.cells #[.string S.name, .slice a1 S.cols.length c1, .int .i64 S.key, .slice f1 S.frn.length d1] 25)).alloc (by omega) (.cells #[.int .i64 (p.1 : Nat), .int .i64 (p.2 : Nat)] 33)
  have hcs := hcs1.below hl1
  have hfs := hfs1.below (fun r x hx => hx.below hl1) hl1
  have hV := bstep hw2 hl1
  clear m1 hcs1 hfs1 hl1 hw2 hb1 hb2
  generalize ((w2.alloc (.cells #[.string S.name, .slice a1 S.cols.length c1, .int .i64 S.key, .slice f1 S.frn.length d1] 25)).alloc (.cells #[.int .i64 (p.1 : Nat), .int .i64 (p.2 : Nat)] 33)) = V1 at *
  generalize w2.heap.size + 1 = P1 at bp1 ⊢
  generalize w2.heap.size = S1 at bs1 ⊢
  have k0 := bs1.cell 0 _ rfl
  have k1 := bs1.cell 1 _ rfl
  have k2 := bs1.cell 2 _ rfl
  have k3 := bs1.cell 3 _ rfl
  have p0 := bp1.cell 0 _ rfl
  have p1 := bp1.cell 1 _ rfl
  have HV := valid_any S a1 f1 c1 d1 V1 hcs hfs
  rw [hv] at HV
  have HBP := Lib.hid bp1
  clear hcs hfs hv bs1 bp1
  generalize S.cols.length = s1 at *
  generalize S.frn.length = s2 at *
  generalize S.name = s3 at *
  generalize S.key = s4 at *
  go_wp2_with (go_at_call 8; (with_reducible refine HV.mono ?_); rintro e w9 ⟨rfl, hb9⟩; have t0 := (HBP.out.below hb9).cell 0 _ rfl; have t1 := (HBP.out.below hb9).cell 1 _ rfl)
  go_ret
  exact ⟨by first | rfl | simp, bstep hV hb9⟩
set_option maxRecDepth 20000 in
set_option maxHeartbeats 4000000 in
theorem places_none (s : ByteArray) (w : World) (hl : s.size ≤ 2000) (p : Nat × Nat) (x : Int) (HP : ∀ W, Calls Tryd.prog 9 #[.string s] W (PrsP W sch0 p x)) (hx : x = 1 ∨ x = 4) (hp : p = (0, 0)) : Calls Tryd.prog 4 #[.string s] w fun e w' => e = .returned (.bool true) ∧ Below w.heap.size w w' := by
  have hpq : ∀ wz : World, (binOp .eql 33 (.agg #[.int .i64 (p.1 : Nat), .int .i64 (p.2 : Nat)]) (.agg #[.int .i64 0, .int .i64 0])).run Tryd.prog wz = .ok (.bool true) wz := fun wz => by simp [go_sem, Tryd.underlying33, hp]
  have hs1 : (s.size : Int) ≤ 2000 := by omega
  clear hp hl
  rcases hx with rfl | rfl
  · skip
    go_enter Tryd.func4, Tryd.ntmps4
    go_upto_region 6 with (first | (go_at_call 5; (with_reducible refine (awake_any _).mono ?_); rintro e w1 ⟨rfl, hb1⟩) | (go_at_call 9; (with_reducible refine (HP _).mono ?_); rintro e w2 ⟨sc1, sf1, rfl, hcs1, hfs1, hb2⟩; unfold prsV posV sch0; obtain ⟨a1, c1, hsc⟩ : ∃ a c, sc1 = .slice a 0 c := hcs1.form; obtain ⟨f1, d1, hsf⟩ : ∃ a c, sf1 = .slice a 0 c := (by obtain ⟨a, c, h, _⟩ := hfs1.form; exact ⟨a, c, h⟩); subst hsc; subst hsf))
    have hw2 := bstep hb1 hb2
    have m1 : (w2.alloc (.cells #[.string ⟨#[]⟩, .slice a1 0 c1, .int .i64 0, .slice f1 0 d1] 25)).heap.size = w2.heap.size + 1 := by simp
    have bs1 := (Bx.new w2 25 #[.string ⟨#[]⟩, .slice a1 0 c1, .int .i64 0, .slice f1 0 d1]).alloc (.cells #[.int .i64 (p.1 : Nat), .int .i64 (p.2 : Nat)] 33)
    have bp1 := Bx.new (w2.alloc (.cells #[.string ⟨#[]⟩, .slice a1 0 c1, .int .i64 0, .slice f1 0 d1] 25)) 33 #[.int .i64 (p.1 : Nat), .int .i64 (p.2 : Nat)]
    rw [m1] at bp1
    have hl1 := ((Below.refl w2.heap.size w2).alloc (Nat.le_refl _) (.cells #[.string ⟨#[]⟩, .slice a1 0 c1, .int .i64 0, .slice f1 0 d1] 25)).alloc (by omega) (.cells #[.int .i64 (p.1 : Nat), .int .i64 (p.2 : Nat)] 33)
    have hcs := hcs1.below hl1
    have hfs := hfs1.below (fun r x hx => hx.below hl1) hl1
    have hV := bstep hw2 hl1
    clear m1 hcs1 hfs1 hl1 hw2 hb1 hb2
    generalize ((w2.alloc (.cells #[.string ⟨#[]⟩, .slice a1 0 c1, .int .i64 0, .slice f1 0 d1] 25)).alloc (.cells #[.int .i64 (p.1 : Nat), .int .i64 (p.2 : Nat)] 33)) = V1 at *
    generalize w2.heap.size + 1 = P1 at bp1 ⊢
    generalize w2.heap.size = S1 at bs1 ⊢
    have k0 := bs1.cell 0 _ rfl
    have k1 := bs1.cell 1 _ rfl
    have k2 := bs1.cell 2 _ rfl
    have k3 := bs1.cell 3 _ rfl
    have p0 := bp1.cell 0 _ rfl
    have p1 := bp1.cell 1 _ rfl
    have HSM := same_any sch0 (by decide) (by decide) (fun f hf => by cases hf) a1 none f1 none c1 0 d1 0 V1 hcs (Sl.mk0 ..) hfs (FsAt.nil ..)
    change Calls Tryd.prog 11 #[.agg #[.string ⟨#[]⟩, .slice a1 0 c1, .int .i64 0, .slice f1 0 d1], .agg #[.string ⟨#[]⟩, .slice none 0 0, .int .i64 0, .slice none 0 0]] V1 _ at HSM
    have HBP := Lib.hid bp1
    clear hcs hfs bs1 bp1
    go_wp2_with (go_at_call 11; (with_reducible refine HSM.mono ?_); rintro e w9 ⟨rfl, hb9⟩; have t0 := (HBP.out.below hb9).cell 0 _ rfl; have t1 := (HBP.out.below hb9).cell 1 _ rfl)
    go_ret
    exact ⟨by first | rfl | simp, bstep hV hb9⟩
  · skip
    go_enter Tryd.func4, Tryd.ntmps4
    go_upto_region 6 with (first | (go_at_call 5; (with_reducible refine (awake_any _).mono ?_); rintro e w1 ⟨rfl, hb1⟩) | (go_at_call 9; (with_reducible refine (HP _).mono ?_); rintro e w2 ⟨sc1, sf1, rfl, hcs1, hfs1, hb2⟩; unfold prsV posV sch0; obtain ⟨a1, c1, hsc⟩ : ∃ a c, sc1 = .slice a 0 c := hcs1.form; obtain ⟨f1, d1, hsf⟩ : ∃ a c, sf1 = .slice a 0 c := (by obtain ⟨a, c, h, _⟩ := hfs1.form; exact ⟨a, c, h⟩); subst hsc; subst hsf))
    have hw2 := bstep hb1 hb2
    have m1 : (w2.alloc (.cells #[.string ⟨#[]⟩, .slice a1 0 c1, .int .i64 0, .slice f1 0 d1] 25)).heap.size = w2.heap.size + 1 := by simp
    have bs1 := (Bx.new w2 25 #[.string ⟨#[]⟩, .slice a1 0 c1, .int .i64 0, .slice f1 0 d1]).alloc (.cells #[.int .i64 (p.1 : Nat), .int .i64 (p.2 : Nat)] 33)
    have bp1 := Bx.new (w2.alloc (.cells #[.string ⟨#[]⟩, .slice a1 0 c1, .int .i64 0, .slice f1 0 d1] 25)) 33 #[.int .i64 (p.1 : Nat), .int .i64 (p.2 : Nat)]
    rw [m1] at bp1
    have hl1 := ((Below.refl w2.heap.size w2).alloc (Nat.le_refl _) (.cells #[.string ⟨#[]⟩, .slice a1 0 c1, .int .i64 0, .slice f1 0 d1] 25)).alloc (by omega) (.cells #[.int .i64 (p.1 : Nat), .int .i64 (p.2 : Nat)] 33)
    have hcs := hcs1.below hl1
    have hfs := hfs1.below (fun r x hx => hx.below hl1) hl1
    have hV := bstep hw2 hl1
    clear m1 hcs1 hfs1 hl1 hw2 hb1 hb2
    generalize ((w2.alloc (.cells #[.string ⟨#[]⟩, .slice a1 0 c1, .int .i64 0, .slice f1 0 d1] 25)).alloc (.cells #[.int .i64 (p.1 : Nat), .int .i64 (p.2 : Nat)] 33)) = V1 at *
    generalize w2.heap.size + 1 = P1 at bp1 ⊢
    generalize w2.heap.size = S1 at bs1 ⊢
    have k0 := bs1.cell 0 _ rfl
    have k1 := bs1.cell 1 _ rfl
    have k2 := bs1.cell 2 _ rfl
    have k3 := bs1.cell 3 _ rfl
    have p0 := bp1.cell 0 _ rfl
    have p1 := bp1.cell 1 _ rfl
    have HSM := same_any sch0 (by decide) (by decide) (fun f hf => by cases hf) a1 none f1 none c1 0 d1 0 V1 hcs (Sl.mk0 ..) hfs (FsAt.nil ..)
    change Calls Tryd.prog 11 #[.agg #[.string ⟨#[]⟩, .slice a1 0 c1, .int .i64 0, .slice f1 0 d1], .agg #[.string ⟨#[]⟩, .slice none 0 0, .int .i64 0, .slice none 0 0]] V1 _ at HSM
    have HBP := Lib.hid bp1
    clear hcs hfs bs1 bp1
    go_wp2_with (go_at_call 11; (with_reducible refine HSM.mono ?_); rintro e w9 ⟨rfl, hb9⟩; have t0 := (HBP.out.below hb9).cell 0 _ rfl; have t1 := (HBP.out.below hb9).cell 1 _ rfl)
    go_ret
    exact ⟨by first | rfl | simp, bstep hV hb9⟩
set_option maxRecDepth 20000 in
set_option maxHeartbeats 4000000 in
theorem places_at (s : ByteArray) (m : Int) (w : World) (hm : w.cell? ⟨0, 0, none⟩ = some (.int .i64 m)) (hl : s.size ≤ 2000) (i k : Nat) (x : Int) (HP0 : ∀ W, Calls Tryd.prog 9 #[.string s] W (PrsP W sch0 (i + 1, k + 1) x)) (c : UInt8) (ln : List UInt8) (hi : (splitL 10 s.data.toList)[i]? = some ln) (hk : ln[k]? = some c) (h32 : ¬ c.toNat = 32) (h9 : ¬ c.toNat = 9) (hx : x = 3 ∨ (x = 2 ∧ 48 ≤ c.toNat ∧ c.toNat ≤ 57) ∨ (x = 2 ∧ c.toNat = 45)) : Calls Tryd.prog 4 #[.string s] w fun e w' => e = .returned (.bool true) ∧ Below w.heap.size w w' := by
  have HP : ∀ W, Calls Tryd.prog 9 #[.string s] W fun e w' => ∃ sc sf, e = .returned (.tuple #[.agg #[.string ⟨#[]⟩, sc, .int .i64 0, sf], .agg #[.int .i64 ((i : Int) + 1), .int .i64 ((k : Int) + 1)], .int .i64 x]) ∧ Cs w' sc sch0.cols ∧ FsAt w' sf sch0.frn ∧ Below W.heap.size W w' := fun W => (HP0 W).mono (by
    rintro e w' ⟨sc, sf, rfl, h1, h2, h3⟩
    exact ⟨sc, sf, rfl, h1, h2, h3⟩)
  have HSP := fun (W : World) (h : Below w.heap.size w W) => Lx.split_any s 10 m W (by omega) (Go.Proofs.YtokbipfkpojflaaDoor.Sl.cell_kept hm h)
  have hs1 : (s.size : Int) ≤ 2000 := by omega
  have HI := Lib.hid hi
  have HK := Lib.hid hk
  have HL := Lib.hid hl
  have c32 : ((c.toNat : Int) == 32) = false := by simpa using (show ¬ (c.toNat : Int) = 32 by omega)
  have c9 : ((c.toNat : Int) == 9) = false := by simpa using (show ¬ (c.toNat : Int) = 9 by omega)
  have e32 : ¬ (c.toNat : Int) = 32 := by omega
  have e9 : ¬ (c.toNat : Int) = 9 := by omega
  have HE := Lib.hid (And.intro e32 e9)
  clear HP0 hi hk hl h32 h9 c32 c9
  go_enter Tryd.func4, Tryd.ntmps4
  go_upto_region 6 with (first | (go_at_call 5; (with_reducible refine (awake_any _).mono ?_); rintro e w1 ⟨rfl, hb1⟩) | (go_at_call 9; (with_reducible refine (HP _).mono ?_); rintro e w2 ⟨sc1, sf1, rfl, hcs1, hfs1, hb2⟩; obtain ⟨a1, c1, hsc⟩ : ∃ a c, sc1 = .slice a 0 c := hcs1.form; obtain ⟨f1, d1, hsf⟩ : ∃ a c, sf1 = .slice a 0 c := (by obtain ⟨a, c, h, _⟩ := hfs1.form; exact ⟨a, c, h⟩); subst hsc; subst hsf))
  have hw2 := bstep hb1 hb2
  have m1 : (w2.alloc (.cells #[.string ⟨#[]⟩, .slice a1 0 c1, .int .i64 0, .slice f1 0 d1] 25)).heap.size = w2.heap.size + 1 := by simp
  have bs1 := (Bx.new w2 25 #[.string ⟨#[]⟩, .slice a1 0 c1, .int .i64 0, .slice f1 0 d1]).alloc (.cells #[.int .i64 ((i : Int) + 1), .int .i64 ((k : Int) + 1)] 33)
  have bp1 := Bx.new (w2.alloc (.cells #[.string ⟨#[]⟩, .slice a1 0 c1, .int .i64 0, .slice f1 0 d1] 25)) 33 #[.int .i64 ((i : Int) + 1), .int .i64 ((k : Int) + 1)]
  rw [m1] at bp1
  have hl1 := ((Below.refl w2.heap.size w2).alloc (Nat.le_refl _) (.cells #[.string ⟨#[]⟩, .slice a1 0 c1, .int .i64 0, .slice f1 0 d1] 25)).alloc (by omega) (.cells #[.int .i64 ((i : Int) + 1), .int .i64 ((k : Int) + 1)] 33)
  have hcs := hcs1.below hl1
  have hfs := hfs1.below (fun r x hx => hx.below hl1) hl1
  have hV := bstep hw2 hl1
  clear m1 hcs1 hfs1 hl1 hw2 hb1 hb2
  generalize ((w2.alloc (.cells #[.string ⟨#[]⟩, .slice a1 0 c1, .int .i64 0, .slice f1 0 d1] 25)).alloc (.cells #[.int .i64 ((i : Int) + 1), .int .i64 ((k : Int) + 1)] 33)) = V1 at *
  generalize w2.heap.size + 1 = P1 at bp1 ⊢
  generalize w2.heap.size = S1 at bs1 ⊢
  have k0 := bs1.cell 0 _ rfl
  have k1 := bs1.cell 1 _ rfl
  have k2 := bs1.cell 2 _ rfl
  have k3 := bs1.cell 3 _ rfl
  have p0 := bp1.cell 0 _ rfl
  have p1 := bp1.cell 1 _ rfl
  have HSM := same_any sch0 (by decide) (by decide) (fun f hf => by cases hf) a1 none f1 none c1 0 d1 0 V1 hcs (Sl.mk0 ..) hfs (FsAt.nil ..)
  change Calls Tryd.prog 11 #[.agg #[.string ⟨#[]⟩, .slice a1 0 c1, .int .i64 0, .slice f1 0 d1], .agg #[.string ⟨#[]⟩, .slice none 0 0, .int .i64 0, .slice none 0 0]] V1 _ at HSM
  have HBP := Lib.hid bp1
  clear hcs hfs bs1 bp1
  rcases hx with rfl | ⟨rfl, hx⟩ | ⟨rfl, hx⟩
  · skip
    go_upto_region 13 with (first | (go_at_call 11; (with_reducible refine HSM.mono ?_); rintro e w9 ⟨rfl, hb9⟩; have t0 := (HBP.out.below hb9).cell 0 _ rfl; have t1 := (HBP.out.below hb9).cell 1 _ rfl) | (go_at_call 12; (with_reducible refine (HSP _ (bstep hV hb9)).mono ?_); rintro e w10 ⟨PB, hPB, hlen, rfl, rfl⟩))
    obtain ⟨w10, hw10⟩ : ∃ w10, w10 = w9.alloc (.cells (PB.map Value.string).toArray 9) := ⟨_, rfl⟩
    rw [← hw10]
    have hPL : PB.length = (splitL 10 s.data.toList).length := by rw [← hPB, List.length_map]
    obtain ⟨tx, htx⟩ : ∃ t, PB[i]? = some t := ⟨_, List.getElem?_eq_getElem (by rw [hPL]; exact (List.getElem?_eq_some_iff.1 HI.out).1)⟩
    have htl : tx.data.toList = ln := by
      have h1 : (PB.map (·.data.toList))[i]? = some tx.data.toList := by rw [List.getElem?_map, htx]; rfl
      rw [hPB, HI.out] at h1
      exact (Option.some.inj h1).symm
    have hln : ln.length = tx.size := by rw [← htl]; exact Array.length_toList
    have hkl : k < tx.size := by rw [← hln]; exact (List.getElem?_eq_some_iff.1 HK.out).1
    have hkc : tx[k]'hkl = c := by
      have h1 := HK.out
      rw [← htl] at h1
      have h2 := (List.getElem?_eq_some_iff.1 h1).2
      rw [← h2]
      simp [ByteArray.getElem_eq_getElem_data]
    have hiP : i < PB.length := (List.getElem?_eq_some_iff.1 htx).1
    have hts := Lx.piece_le s PB hPB i tx htx
    have hl10 : Below w9.heap.size w9 w10 := hw10 ▸ (Below.refl _ w9).alloc (Nat.le_refl _) _
    have hct : w10.cell? ⟨w9.heap.size, i, none⟩ = some (.string tx) := by
      rw [hw10]
      have := Lx.cells_str w9 PB 9 i tx htx
      simpa using this
    have hV10 := bstep (bstep hV hb9) hl10
    have u0 := cell_regrown (Go.Proofs.YtokbipfkpojflaaDoor.Sl.cell_kept t0 hl10)
    have u1 := cell_regrown (Go.Proofs.YtokbipfkpojflaaDoor.Sl.cell_kept t1 hl10)
    have u2 := cell_regrown hct
    have HBQ := Lib.hid ((HBP.out.below hb9).below hl10)
    have HCT := Lib.hid hct
    have z1 : (i : Int) + 1 - 1 = i := by omega
    have z2 : (k : Int) + 1 - 1 = k := by omega
    have z3 : (0 : Int) ≤ (i : Int) := by omega
    have z4 : (i : Int) < (PB.length : Int) := by omega
    have z5 : (0 : Int) ≤ (k : Int) := by omega
    have z6 : (k : Int) < (tx.size : Int) := by omega
    have z11 : (k : Int) ≤ 2000 := by have := HL.out; omega
    have z12 : (tx.size : Int) ≤ 2000 := by have := HL.out; omega
    have z7 : ¬ (i : Int) + 1 < 1 := by omega
    have z8 : ¬ (PB.length : Int) < (i : Int) + 1 := by omega
    have z9 : ¬ (k : Int) + 1 < 1 := by omega
    have z10 : ¬ (tx.size : Int) < (k : Int) + 1 := by omega
    have hix : ∀ W : World, (Instr.index 9 (.string tx) (.int .i64 (k : Int))).run Tryd.prog W = .ok (.int .u8 (c.toNat : Int)) W := fun W => by
      rw [run_index_string W 9 tx .i64 (k : Int) Tryd.underlying9, dif_pos ⟨z5, z6⟩, ← hkc]
      rfl
    have hpl : PB.length ≤ 2001 := by have := HL.out; omega
    clear hPB hPL htx htl hln hkc hkl hiP hts hw10 hct t0 t1 hl10 k0 k1 k2 k3 p0 p1 HSM
    generalize PB.length = pl at *
    generalize w9.heap.size = LB at *
    refine wp_region_quiet_below (by kernel_rfl) (by kernel_rfl) ?_
    repeat (go_big_quiet_step (fail))
    refine wpQuiet_nil ?_
    intro _ hw9
    obtain ⟨⟨dq, osq⟩, hw9⟩ := hw9
    subst hw9
    have hL5 := bstep hV10 (below_regrown w10 dq osq)
    have hl5 := below_regrown w10 dq osq
    go_upto_region 15 with fail
    have v0 := cell_regrown ((HBQ.out.below hl5).cell 0 _ rfl)
    have v1 := cell_regrown ((HBQ.out.below hl5).cell 1 _ rfl)
    have v2 := cell_regrown (Go.Proofs.YtokbipfkpojflaaDoor.Sl.cell_kept HCT.out hl5)
    clear u0 u1 u2
    generalize Go.Sort.grow (redrawn w10 dq) osq = W11 at *
    have y0 := (HBQ.out.below hl5).cell 0 _ rfl
    have y1 := (HBQ.out.below hl5).cell 1 _ rfl
    have y2 := Go.Proofs.YtokbipfkpojflaaDoor.Sl.cell_kept HCT.out hl5
    clear v0 v1 v2
    go_region
    have hx3 : True := trivial
    go_wp2
    go_ret
    exact ⟨by first | rfl | (simp; done) | (simp; exact HE.out), by first | exact hL5.drew | go_grown⟩
  · skip
    go_upto_region 13 with (first | (go_at_call 11; (with_reducible refine HSM.mono ?_); rintro e w9 ⟨rfl, hb9⟩; have t0 := (HBP.out.below hb9).cell 0 _ rfl; have t1 := (HBP.out.below hb9).cell 1 _ rfl) | (go_at_call 12; (with_reducible refine (HSP _ (bstep hV hb9)).mono ?_); rintro e w10 ⟨PB, hPB, hlen, rfl, rfl⟩))
    obtain ⟨w10, hw10⟩ : ∃ w10, w10 = w9.alloc (.cells (PB.map Value.string).toArray 9) := ⟨_, rfl⟩
    rw [← hw10]
    have hPL : PB.length = (splitL 10 s.data.toList).length := by rw [← hPB, List.length_map]
    obtain ⟨tx, htx⟩ : ∃ t, PB[i]? = some t := ⟨_, List.getElem?_eq_getElem (by rw [hPL]; exact (List.getElem?_eq_some_iff.1 HI.out).1)⟩
    have htl : tx.data.toList = ln := by
      have h1 : (PB.map (·.data.toList))[i]? = some tx.data.toList := by rw [List.getElem?_map, htx]; rfl
      rw [hPB, HI.out] at h1
      exact (Option.some.inj h1).symm
    have hln : ln.length = tx.size := by rw [← htl]; exact Array.length_toList
    have hkl : k < tx.size := by rw [← hln]; exact (List.getElem?_eq_some_iff.1 HK.out).1
    have hkc : tx[k]'hkl = c := by
      have h1 := HK.out
      rw [← htl] at h1
      have h2 := (List.getElem?_eq_some_iff.1 h1).2
      rw [← h2]
      simp [ByteArray.getElem_eq_getElem_data]
    have hiP : i < PB.length := (List.getElem?_eq_some_iff.1 htx).1
    have hts := Lx.piece_le s PB hPB i tx htx
    have hl10 : Below w9.heap.size w9 w10 := hw10 ▸ (Below.refl _ w9).alloc (Nat.le_refl _) _
    have hct : w10.cell? ⟨w9.heap.size, i, none⟩ = some (.string tx) := by
      rw [hw10]
      have := Lx.cells_str w9 PB 9 i tx htx
      simpa using this
    have hV10 := bstep (bstep hV hb9) hl10
    have u0 := cell_regrown (Go.Proofs.YtokbipfkpojflaaDoor.Sl.cell_kept t0 hl10)
    have u1 := cell_regrown (Go.Proofs.YtokbipfkpojflaaDoor.Sl.cell_kept t1 hl10)
    have u2 := cell_regrown hct
    have HBQ := Lib.hid ((HBP.out.below hb9).below hl10)
    have HCT := Lib.hid hct
    have z1 : (i : Int) + 1 - 1 = i := by omega
    have z2 : (k : Int) + 1 - 1 = k := by omega
    have z3 : (0 : Int) ≤ (i : Int) := by omega
    have z4 : (i : Int) < (PB.length : Int) := by omega
    have z5 : (0 : Int) ≤ (k : Int) := by omega
    have z6 : (k : Int) < (tx.size : Int) := by omega
    have z11 : (k : Int) ≤ 2000 := by have := HL.out; omega
    have z12 : (tx.size : Int) ≤ 2000 := by have := HL.out; omega
    have z7 : ¬ (i : Int) + 1 < 1 := by omega
    have z8 : ¬ (PB.length : Int) < (i : Int) + 1 := by omega
    have z9 : ¬ (k : Int) + 1 < 1 := by omega
    have z10 : ¬ (tx.size : Int) < (k : Int) + 1 := by omega
    have hix : ∀ W : World, (Instr.index 9 (.string tx) (.int .i64 (k : Int))).run Tryd.prog W = .ok (.int .u8 (c.toNat : Int)) W := fun W => by
      rw [run_index_string W 9 tx .i64 (k : Int) Tryd.underlying9, dif_pos ⟨z5, z6⟩, ← hkc]
      rfl
    have hpl : PB.length ≤ 2001 := by have := HL.out; omega
    clear hPB hPL htx htl hln hkc hkl hiP hts hw10 hct t0 t1 hl10 k0 k1 k2 k3 p0 p1 HSM
    generalize PB.length = pl at *
    generalize w9.heap.size = LB at *
    refine wp_region_quiet_below (by kernel_rfl) (by kernel_rfl) ?_
    repeat (go_big_quiet_step (fail))
    refine wpQuiet_nil ?_
    intro _ hw9
    obtain ⟨⟨dq, osq⟩, hw9⟩ := hw9
    subst hw9
    have hL5 := bstep hV10 (below_regrown w10 dq osq)
    have hl5 := below_regrown w10 dq osq
    go_upto_region 15 with fail
    have v0 := cell_regrown ((HBQ.out.below hl5).cell 0 _ rfl)
    have v1 := cell_regrown ((HBQ.out.below hl5).cell 1 _ rfl)
    have v2 := cell_regrown (Go.Proofs.YtokbipfkpojflaaDoor.Sl.cell_kept HCT.out hl5)
    clear u0 u1 u2
    generalize Go.Sort.grow (redrawn w10 dq) osq = W11 at *
    have y0 := (HBQ.out.below hl5).cell 0 _ rfl
    have y1 := (HBQ.out.below hl5).cell 1 _ rfl
    have y2 := Go.Proofs.YtokbipfkpojflaaDoor.Sl.cell_kept HCT.out hl5
    clear v0 v1 v2
    go_region
    have g1 : (48 : Int) ≤ (c.toNat : Int) := by omega
    have g2 : (c.toNat : Int) ≤ 57 := by omega
    go_wp2
    go_ret
    exact ⟨by first | rfl | (simp; done) | (simp; exact HE.out), by first | exact hL5.drew | go_grown⟩
  · skip
    go_upto_region 13 with (first | (go_at_call 11; (with_reducible refine HSM.mono ?_); rintro e w9 ⟨rfl, hb9⟩; have t0 := (HBP.out.below hb9).cell 0 _ rfl; have t1 := (HBP.out.below hb9).cell 1 _ rfl) | (go_at_call 12; (with_reducible refine (HSP _ (bstep hV hb9)).mono ?_); rintro e w10 ⟨PB, hPB, hlen, rfl, rfl⟩))
    obtain ⟨w10, hw10⟩ : ∃ w10, w10 = w9.alloc (.cells (PB.map Value.string).toArray 9) := ⟨_, rfl⟩
    rw [← hw10]
    have hPL : PB.length = (splitL 10 s.data.toList).length := by rw [← hPB, List.length_map]
    obtain ⟨tx, htx⟩ : ∃ t, PB[i]? = some t := ⟨_, List.getElem?_eq_getElem (by rw [hPL]; exact (List.getElem?_eq_some_iff.1 HI.out).1)⟩
    have htl : tx.data.toList = ln := by
      have h1 : (PB.map (·.data.toList))[i]? = some tx.data.toList := by rw [List.getElem?_map, htx]; rfl
      rw [hPB, HI.out] at h1
      exact (Option.some.inj h1).symm
    have hln : ln.length = tx.size := by rw [← htl]; exact Array.length_toList
    have hkl : k < tx.size := by rw [← hln]; exact (List.getElem?_eq_some_iff.1 HK.out).1
    have hkc : tx[k]'hkl = c := by
      have h1 := HK.out
      rw [← htl] at h1
      have h2 := (List.getElem?_eq_some_iff.1 h1).2
      rw [← h2]
      simp [ByteArray.getElem_eq_getElem_data]
    have hiP : i < PB.length := (List.getElem?_eq_some_iff.1 htx).1
    have hts := Lx.piece_le s PB hPB i tx htx
    have hl10 : Below w9.heap.size w9 w10 := hw10 ▸ (Below.refl _ w9).alloc (Nat.le_refl _) _
    have hct : w10.cell? ⟨w9.heap.size, i, none⟩ = some (.string tx) := by
      rw [hw10]
      have := Lx.cells_str w9 PB 9 i tx htx
      simpa using this
    have hV10 := bstep (bstep hV hb9) hl10
    have u0 := cell_regrown (Go.Proofs.YtokbipfkpojflaaDoor.Sl.cell_kept t0 hl10)
    have u1 := cell_regrown (Go.Proofs.YtokbipfkpojflaaDoor.Sl.cell_kept t1 hl10)
    have u2 := cell_regrown hct
    have HBQ := Lib.hid ((HBP.out.below hb9).below hl10)
    have HCT := Lib.hid hct
    have z1 : (i : Int) + 1 - 1 = i := by omega
    have z2 : (k : Int) + 1 - 1 = k := by omega
    have z3 : (0 : Int) ≤ (i : Int) := by omega
    have z4 : (i : Int) < (PB.length : Int) := by omega
    have z5 : (0 : Int) ≤ (k : Int) := by omega
    have z6 : (k : Int) < (tx.size : Int) := by omega
    have z11 : (k : Int) ≤ 2000 := by have := HL.out; omega
    have z12 : (tx.size : Int) ≤ 2000 := by have := HL.out; omega
    have z7 : ¬ (i : Int) + 1 < 1 := by omega
    have z8 : ¬ (PB.length : Int) < (i : Int) + 1 := by omega
    have z9 : ¬ (k : Int) + 1 < 1 := by omega
    have z10 : ¬ (tx.size : Int) < (k : Int) + 1 := by omega
    have hix : ∀ W : World, (Instr.index 9 (.string tx) (.int .i64 (k : Int))).run Tryd.prog W = .ok (.int .u8 (c.toNat : Int)) W := fun W => by
      rw [run_index_string W 9 tx .i64 (k : Int) Tryd.underlying9, dif_pos ⟨z5, z6⟩, ← hkc]
      rfl
    have hpl : PB.length ≤ 2001 := by have := HL.out; omega
    clear hPB hPL htx htl hln hkc hkl hiP hts hw10 hct t0 t1 hl10 k0 k1 k2 k3 p0 p1 HSM
    generalize PB.length = pl at *
    generalize w9.heap.size = LB at *
    refine wp_region_quiet_below (by kernel_rfl) (by kernel_rfl) ?_
    repeat (go_big_quiet_step (fail))
    refine wpQuiet_nil ?_
    intro _ hw9
    obtain ⟨⟨dq, osq⟩, hw9⟩ := hw9
    subst hw9
    have hL5 := bstep hV10 (below_regrown w10 dq osq)
    have hl5 := below_regrown w10 dq osq
    go_upto_region 15 with fail
    have v0 := cell_regrown ((HBQ.out.below hl5).cell 0 _ rfl)
    have v1 := cell_regrown ((HBQ.out.below hl5).cell 1 _ rfl)
    have v2 := cell_regrown (Go.Proofs.YtokbipfkpojflaaDoor.Sl.cell_kept HCT.out hl5)
    clear u0 u1 u2
    generalize Go.Sort.grow (redrawn w10 dq) osq = W11 at *
    have y0 := (HBQ.out.below hl5).cell 0 _ rfl
    have y1 := (HBQ.out.below hl5).cell 1 _ rfl
    have y2 := Go.Proofs.YtokbipfkpojflaaDoor.Sl.cell_kept HCT.out hl5
    clear v0 v1 v2
    go_region
    have g1 : ¬ (48 : Int) ≤ (c.toNat : Int) := by omega
    have g2 : ((c.toNat : Int) == 45) = true := by simpa using (show (c.toNat : Int) = 45 by omega)
    go_wp2
    go_ret
    exact ⟨by first | rfl | (simp; done) | (simp; exact HE.out), by first | exact hL5.drew | go_grown⟩
set_option maxRecDepth 20000 in
theorem schemaPlaces_walk (s : ByteArray) (m : Int) (w : World) (hm : w.cell? ⟨0, 0, none⟩ = some (.int .i64 m)) : Calls Tryd.prog 4 #[.string s] w fun e w' => e = .returned (.bool true) ∧ Below w.heap.size w w' := by
  by_cases hl : 2000 < s.size
  · have h1 : (2000 : Int) < (s.size : Int) := by omega
    clear hl hm
    go_enter Tryd.func4, Tryd.ntmps4
    go_wp2_with (go_at_call 5; (with_reducible refine (awake_any _).mono ?_); rintro e w1 ⟨rfl, hb1⟩)
    go_ret
    exact ⟨rfl, hb1⟩
  · have hlaw := places_law s (by omega)
    have HP := fun W => parse_any s W
    rcases hlaw with ⟨h1, h2, h3⟩ | ⟨h1, h2, h3⟩ | ⟨h1, h2, c, ⟨q1, q2, ln, q3, q4⟩, h32, h9, hn⟩
    · rw [h1] at HP
      exact places_ok s w (by omega) _ _ HP h2 h3
    · rw [h1] at HP
      exact places_none s w (by omega) _ _ HP h2 h3
    · rw [h1] at HP
      obtain ⟨i, hi⟩ : ∃ i, (prsS s).2.1.1 = i + 1 := ⟨(prsS s).2.1.1 - 1, by omega⟩
      obtain ⟨k, hk⟩ : ∃ k, (prsS s).2.1.2 = k + 1 := ⟨(prsS s).2.1.2 - 1, by omega⟩
      rw [show (prsS s).2.1 = (i + 1, k + 1) from Prod.ext hi hk] at HP
      rw [hi] at q3
      rw [hk] at q4
      refine places_at s m w hm (by omega) i k _ HP c ln q3 q4 h32 h9 ?_
      rcases h2 with h2 | h2
      · exact .inl h2
      · rcases hn h2 with h | h
        · exact .inr (.inl ⟨h2, h⟩)
        · exact .inr (.inr ⟨h2, h⟩)
end Go.Proofs.YtokbipfkpojflaaDoor.Sc
