/-
  The walk of layer 34's examples (awake).
-/
import Derived.Test.YtokbipfkpojflaaDoorScZ
import Derived.Test.YtokbipfkpojflaaDoorScO
set_option linter.unusedSimpArgs false
set_option linter.unusedVariables false
namespace Go.Proofs.YtokbipfkpojflaaDoor.Sc
open Go Go.RowKit Go.ChangeShapes Go.WideShapes Go.Proofs.YtokbipfkpojflaaDoor.Sl Go.Lib
open Go.Proofs.YtokbipfkpojflaaDoor.Va (Cl flatC flatC_len flatC_snoc Cs bdrew)

theorem eqs_any (l : List ByteArray) (a b : Value) (w : World) (hl : l.length ≤ 1000000) (ha : Ss w a l) (hb : Ss w b l) : Calls Tryd.prog 15 #[a, b] w fun e w' => e = .returned (.bool true) ∧ Below w.heap.size w w' := by
  by_cases h0 : l.length = 0
  · obtain ⟨ad, cap, rfl, _⟩ := ha.form
    obtain ⟨bd, bcap, rfl, _⟩ := hb.form
    rw [h0]
    refine (Tryd.slices_Equal_string_empty ad bd cap 0 bcap w (by omega)).mono ?_
    rintro e w' ⟨rfl, rfl⟩
    exact ⟨rfl, Below.refl _ _⟩
  · obtain ⟨g, off, cap, rfl, hc⟩ := ha.1.open h0
    obtain ⟨g2, off2, cap2, rfl, hc2⟩ := hb.1.open h0
    refine (Tryd.slices_Equal_string g off l.length cap g2 off2 l.length cap2 l l w (Nat.le_refl _) (Nat.le_refl _) (by omega) (by omega) (fun j hj => hc j _ (ss_key l j hj)) (fun j hj => hc2 j _ (ss_key l j hj))).mono ?_
    rintro e w' ⟨rfl, q, rfl⟩
    exact ⟨by simp, ⟨rfl, rfl, rfl, Nat.le_refl _, fun _ _ => rfl⟩⟩
def tx (l : List UInt8) : ByteArray := ⟨l.toArray⟩
def oneS (name t : ByteArray) : Sch := ⟨name, [(⟨#[120]⟩, 1)], 1, [⟨[⟨#[120]⟩], t⟩]⟩
theorem one_ret (W : World) (S : Nat) (t : Array Value) (a0 a1 a2 a3 : Value) (h2 : t.getD 4 undef = .pointer (some ⟨S, 0, none⟩)) (b2 : Bx W S 25 #[a0, a1, a2, a3]) : (results Tryd.f14 t).run Tryd.prog W = .ok (.agg #[a0, a1, a2, a3]) W := by
  have c20 := b2.cell 0 _ rfl
  have c21 := b2.cell 1 _ rfl
  have c22 := b2.cell 2 _ rfl
  have c23 := b2.cell 3 _ rfl
  have g2 : t[4]?.getD undef = .pointer (some ⟨S, 0, none⟩) := by simpa using h2
  clear b2 h2
  simp [results, Tryd.results14, go_sem, g2, c20, c21, c22, c23]
set_option maxRecDepth 20000 in
set_option maxHeartbeats 1000000 in
theorem one_any (name t : ByteArray) (H : Nat) (w : World) (hc : w.cell? ⟨H, 0, none⟩ = some (.string t)) :
    Calls Tryd.prog 14 #[.string name, .slice (some ⟨H, 0, none⟩) 1 1] w fun e w' => ∃ a1 c1 a2 c2, e = .returned (.agg #[.string name, .slice a1 1 c1, .int .i64 1, .slice a2 1 c2]) ∧ Cs w' (.slice a1 1 c1) [(⟨#[120]⟩, 1)] ∧ FsAt w' (.slice a2 1 c2) [⟨[⟨#[120]⟩], t⟩] ∧ Below w.heap.size w w' := by
  have hH := block_of_cell hc
  obtain ⟨ii, hi, hz0', hz1', hz2'⟩ := info_parts infoF
  go_enter Tryd.func14, Tryd.ntmps14
  go_upto_region 3 with fail
  have bR := ((Bx.new w 25 #[.string ⟨#[]⟩, .slice none 0 0, .int .i64 0, .slice none 0 0]).alloc (.cells #[.string ⟨#[120]⟩, .int .i64 1] 53)).alloc (.cells #[.string name, .slice (some ⟨w.heap.size + 1, 0, none⟩) 1 1, .int .i64 1, .slice none 0 0] 25)
  have n1 : (w.alloc (.cells #[.string ⟨#[]⟩, .slice none 0 0, .int .i64 0, .slice none 0 0] 25)).heap.size = w.heap.size + 1 := by simp
  have bC := (Bx.new (w.alloc (.cells #[.string ⟨#[]⟩, .slice none 0 0, .int .i64 0, .slice none 0 0] 25)) 53 #[.string ⟨#[120]⟩, .int .i64 1]).alloc (.cells #[.string name, .slice (some ⟨w.heap.size + 1, 0, none⟩) 1 1, .int .i64 1, .slice none 0 0] 25)
  rw [n1] at bC
  have n2 : ((w.alloc (.cells #[.string ⟨#[]⟩, .slice none 0 0, .int .i64 0, .slice none 0 0] 25)).alloc (.cells #[.string ⟨#[120]⟩, .int .i64 1] 53)).heap.size = w.heap.size + 1 + 1 := by simp
  have bS := Bx.new ((w.alloc (.cells #[.string ⟨#[]⟩, .slice none 0 0, .int .i64 0, .slice none 0 0] 25)).alloc (.cells #[.string ⟨#[120]⟩, .int .i64 1] 53)) 25 #[.string name, .slice (some ⟨w.heap.size + 1, 0, none⟩) 1 1, .int .i64 1, .slice none 0 0]
  rw [n2] at bS
  have hL : Below w.heap.size w (((w.alloc (.cells #[.string ⟨#[]⟩, .slice none 0 0, .int .i64 0, .slice none 0 0] 25)).alloc (.cells #[.string ⟨#[120]⟩, .int .i64 1] 53)).alloc (.cells #[.string name, .slice (some ⟨w.heap.size + 1, 0, none⟩) 1 1, .int .i64 1, .slice none 0 0] 25)) := (((Below.refl _ w).alloc (Nat.le_refl _) _).alloc (by omega) _).alloc (by omega) _
  have n3 : (((w.alloc (.cells #[.string ⟨#[]⟩, .slice none 0 0, .int .i64 0, .slice none 0 0] 25)).alloc (.cells #[.string ⟨#[120]⟩, .int .i64 1] 53)).alloc (.cells #[.string name, .slice (some ⟨w.heap.size + 1, 0, none⟩) 1 1, .int .i64 1, .slice none 0 0] 25)).heap.size = w.heap.size + 1 + 1 + 1 := by simp
  have hc3 := Go.Proofs.YtokbipfkpojflaaDoor.Sl.cell_kept hc hL
  generalize (((w.alloc (.cells #[.string ⟨#[]⟩, .slice none 0 0, .int .i64 0, .slice none 0 0] 25)).alloc (.cells #[.string ⟨#[120]⟩, .int .i64 1] 53)).alloc (.cells #[.string name, .slice (some ⟨w.heap.size + 1, 0, none⟩) 1 1, .int .i64 1, .slice none 0 0] 25)) = W3 at *
  have c53 := bS.cell 3 _ rfl
  have l5 := bS.lt
  have HBR := Lib.hid bR
  have HBC := Lib.hid bC
  have HBS := Lib.hid bS
  clear n1 n2 n3 hc bR bC bS
  refine wp_loop_rounds 2 ?_
  rw [rounds_succ]
  go_upto_region 6 with (at_builtin; go_must (refine wpList_app3 (wX := W3.alloc (.cells #[.string ⟨#[120]⟩] 9)) W3.heap.size (by simp) rfl (.tmp 19) (.tmp 23) 23 rfl 50 Tryd.underlying23 hi hz0' hz1' hz2' rfl (by decide) (.slice none 0 0) 0 [] rfl [.slice (some ⟨W3.heap.size, 0, none⟩) 1 1, .string t] 50 (World.ownsRow_nil _ _ _ _) rfl (by simp) rfl (by intro u hu; simp at hu; rcases hu with rfl | rfl <;> rfl) (by decide) (by decide) ?_); intro g1 cap1 w8 hown8 hgr hG; have hgr0 := (World.grownBy_alloc W3 (.cells #[.string ⟨#[120]⟩] 9) none).trans hgr; have b58 := HBS.out.far hgr0 (by simp); have c8 := b58.cell 3 _ rfl; have f8 := b58.frozen 3; have l8 := b58.lt)
  have hg1 : ¬ g1 = w.heap.size + 1 + 1 := by
    rcases hG with h | h
    · cases h
    · simp at h; omega
  have lR := HBR.out.lt
  have bR9 := (HBR.out.far hgr0 (by simp)).setFar (w.heap.size + 1 + 1) 3 (.slice (some ⟨g1, 0, none⟩) 1 cap1) (by omega)
  have bC9 := (HBC.out.far hgr0 (by simp)).setFar (w.heap.size + 1 + 1) 3 (.slice (some ⟨g1, 0, none⟩) 1 cap1) (by omega)
  have bS9 : Bx (w8.setCell ⟨w.heap.size + 1 + 1, 3, none⟩ (.slice (some ⟨g1, 0, none⟩) 1 cap1)) (w.heap.size + 1 + 1) 25 #[.string name, .slice (some ⟨w.heap.size + 1, 0, none⟩) 1 1, .int .i64 1, .slice (some ⟨g1, 0, none⟩) 1 cap1] := b58.sett 3 _ (by simp) rfl
  have bX9 := ((Bx.new W3 9 #[.string ⟨#[120]⟩]).far hgr (by simp [Value.ownBlock])).setFar (w.heap.size + 1 + 1) 3 (.slice (some ⟨g1, 0, none⟩) 1 cap1) (by omega)
  have ho9 := hown8.kept (gp_set1 w8 (w.heap.size + 1 + 1) 3 (.slice (some ⟨g1, 0, none⟩) 1 cap1)) (.inr (by simpa [Value.ownBlock] using hg1))
  have hL9 : Below w.heap.size w (w8.setCell ⟨w.heap.size + 1 + 1, 3, none⟩ (.slice (some ⟨g1, 0, none⟩) 1 cap1)) := (hL.grown hgr0 hL.size (fun k e => by cases e)).setCell (p := ⟨w.heap.size + 1 + 1, 3, none⟩) (by show w.heap.size ≤ w.heap.size + 1 + 1; omega) _
  clear hown8 hgr hG hgr0 b58 c8 f8 l8 c53 HBR HBC HBS hL hc3
  generalize (w8.setCell ⟨w.heap.size + 1 + 1, 3, none⟩ (.slice (some ⟨g1, 0, none⟩) 1 cap1)) = W9 at *
  have c0 := bR9.cell 0 _ rfl
  have c1 := bR9.cell 1 _ rfl
  have c2 := bR9.cell 2 _ rfl
  have c3 := bR9.cell 3 _ rfl
  have f0 := bR9.frozen 0
  have f1 := bR9.frozen 1
  have f2 := bR9.frozen 2
  have f3 := bR9.frozen 3
  have d0 := bS9.cell 0 _ rfl
  have d1 := bS9.cell 1 _ rfl
  have d2 := bS9.cell 2 _ rfl
  have d3 := bS9.cell 3 _ rfl
  have HR9 := Lib.hid bR9
  clear bR9 bS9
  go_wp2
  rw [rounds_succ]
  go_wp2
  have e2 := HR9.out.set4 (.string name) (.slice (some ⟨w.heap.size + 1, 0, none⟩) 1 1) (.int .i64 1) (.slice (some ⟨g1, 0, none⟩) 1 cap1)
  have bC10 := bC9.far4 (P := w.heap.size) (by omega) (.string name) (.slice (some ⟨w.heap.size + 1, 0, none⟩) 1 1) (.int .i64 1) (.slice (some ⟨g1, 0, none⟩) 1 cap1)
  have bX10 := bX9.far4 (P := w.heap.size) (by omega) (.string name) (.slice (some ⟨w.heap.size + 1, 0, none⟩) 1 1) (.int .i64 1) (.slice (some ⟨g1, 0, none⟩) 1 cap1)
  have hfr := (((((Frm.refl [w.heap.size] W9).grow (gp_set1 _ w.heap.size 0 (.string name)) (fun k e => .inl (by cases e; simp))).grow (gp_set1 _ w.heap.size 1 (.slice (some ⟨w.heap.size + 1, 0, none⟩) 1 1)) (fun k e => .inl (by cases e; simp))).grow (gp_set1 _ w.heap.size 2 (.int .i64 1)) (fun k e => .inl (by cases e; simp))).grow (gp_set1 _ w.heap.size 3 (.slice (some ⟨g1, 0, none⟩) 1 cap1)) (fun k e => .inl (by cases e; simp)))
  have hL10 := hfr.below hL9 (fun k hk => by simp at hk; omega)
  have ho10 := own_blk ho9 (fun g hg hN hlt => hfr.block g hlt (by simp; omega))
  generalize (((W9.setCell ⟨w.heap.size, 0, none⟩ (.string name)).setCell ⟨w.heap.size, 1, none⟩ (.slice (some ⟨w.heap.size + 1, 0, none⟩) 1 1)).setCell ⟨w.heap.size, 2, none⟩ (.int .i64 1)).setCell ⟨w.heap.size, 3, none⟩ (.slice (some ⟨g1, 0, none⟩) 1 cap1) = W10 at *
  refine bodyPost_ret (one_ret _ _ _ _ _ _ _ rfl e2) rfl ?_
  refine ⟨_, _, _, _, rfl, Sl.mk rfl fun j u hu => ?_, ⟨[[.slice (some ⟨W3.heap.size, 0, none⟩) 1 1, .string t]], rfl, ⟨Sl.of_owns ho10, own_cap ho10⟩, fun r hr => by rw [List.mem_singleton.1 hr]; rfl, fun i r x hr hx => ?_⟩, hL10⟩
  · rw [Nat.zero_add]
    exact bC10.cell j u (by simpa [flatC] using hu)
  · cases i with
    | zero =>
      simp at hr hx
      subst hr hx
      refine ⟨_, rfl, Sl.mk rfl fun j u hu => ?_, Cap.mk (Nat.le_refl _)⟩
      rw [Nat.zero_add]
      exact bX10.cell j u (by simpa using hu)
    | succ i => simp at hr
def bA : ByteArray := ⟨#[97]⟩
def bB : ByteArray := ⟨#[98]⟩
def exP : ByteArray := ⟨#[116, 97, 98, 108, 101, 32, 116, 32, 40, 120, 32, 105, 110, 116, 32, 107, 101, 121, 32, 49]⟩
def exT : ByteArray := ⟨#[116, 97, 98, 108, 101, 32, 97, 32, 40, 120, 32, 105, 110, 116, 41, 32, 107, 101, 121, 32, 49, 32, 102, 111, 114, 101, 105, 103, 110, 32, 40, 120, 41, 32, 98]⟩
theorem ex_ord : ordS [oneS bA bB, oneS bB bB] = ([bB, bA], 0) := by kernel_rfl
theorem ex_prs : prsS exP = (sch0, (1, 16), 3) := by kernel_rfl
theorem ex_txt : txtS (oneS bA bB) = (exT, 0) := by kernel_rfl
theorem two_ls {w : World} {H : Nat} {t : TypeId} {s1 s2 : Sch} {a1 b1 a2 b2 : Value} (hb : Bx w H t #[.string s1.name, a1, .int .i64 s1.key, b1, .string s2.name, a2, .int .i64 s2.key, b2]) (h1 : Cs w a1 s1.cols) (h2 : FsAt w b1 s1.frn) (h3 : Cs w a2 s2.cols) (h4 : FsAt w b2 s2.frn) : LsAt w (.slice (some ⟨H, 0, none⟩) 2 2) [s1, s2] := by
  refine ⟨[[.string s1.name, a1, .int .i64 s1.key, b1], [.string s2.name, a2, .int .i64 s2.key, b2]], rfl, ⟨Sl.mk rfl fun j u hu => ?_, Cap.mk (Nat.le_refl _)⟩, fun r hr => ?_, fun i r x hr hx => ?_⟩
  · rw [Nat.zero_add]
    exact hb.cell j u (by simpa using hu)
  · simp at hr
    rcases hr with rfl | rfl <;> rfl
  · match i, hr, hx with
    | 0, hr, hx => simp at hr hx; subst hr hx; exact ⟨_, _, rfl, h1, h2⟩
    | 1, hr, hx => simp at hr hx; subst hr hx; exact ⟨_, _, rfl, h3, h4⟩
    | i + 2, hr, hx => simp at hr
set_option maxRecDepth 20000 in
set_option maxHeartbeats 1000000 in
theorem awake_any (w : World) : Calls Tryd.prog 5 #[] w fun e w' => e = .returned (.bool true) ∧ Below w.heap.size w w' := by
  go_enter Tryd.func5, Tryd.ntmps5
  go_upto_region 2 with (first
    | (go_at_call 14; (with_reducible refine (one_any ⟨#[97]⟩ ⟨#[98]⟩ _ _ ((Bx.new w 9 #[.string ⟨#[98]⟩]).cell 0 _ rfl)).mono ?_); rintro e w1 ⟨a1, x1, a2, x2, rfl, hc1, hf1, hL1⟩; have hB1 : Below w.heap.size w w1 := bstep ((Below.refl _ w).alloc (Nat.le_refl _) _) hL1)
    | (go_at_call 14; (with_reducible refine (one_any ⟨#[98]⟩ ⟨#[98]⟩ _ _ ((Bx.new w1 9 #[.string ⟨#[98]⟩]).cell 0 _ rfl)).mono ?_); rintro e w2 ⟨a3, x3, a4, x4, rfl, hc3, hf3, hL3⟩; have hB2 : Below w.heap.size w w2 := bstep (hB1.alloc hB1.size _) hL3; have hbx := Bx.new w2 25 #[.string ⟨#[97]⟩, .slice a1 1 x1, .int .i64 1, .slice a2 1 x2, .string ⟨#[98]⟩, .slice a3 1 x3, .int .i64 1, .slice a4 1 x4]; have hb12 : Below w1.heap.size w1 w2 := bstep ((Below.refl _ w1).alloc (Nat.le_refl _) _) hL3; have HORD := order_any [oneS bA bB, oneS bB bB] (.slice (some ⟨w2.heap.size, 0, none⟩) 2 2) _ (two_ls (s1 := oneS bA bB) (s2 := oneS bB bB) hbx ((hc1.below hb12).below ((Below.refl _ w2).alloc (Nat.le_refl _) _)) ((hf1.below (fun r x hx => hx.below hb12) hb12).below (fun r x hx => hx.below ((Below.refl _ w2).alloc (Nat.le_refl _) _)) ((Below.refl _ w2).alloc (Nat.le_refl _) _)) (hc3.below ((Below.refl _ w2).alloc (Nat.le_refl _) _)) (hf3.below (fun r x hx => hx.below ((Below.refl _ w2).alloc (Nat.le_refl _) _)) ((Below.refl _ w2).alloc (Nat.le_refl _) _))); rw [ex_ord] at HORD)
    | (go_at_call 13; (with_reducible refine HORD.mono ?_); rintro e w3 ⟨vo, rfl, hso, hL4⟩; have hB3 : Below w.heap.size w w3 := bstep (hB2.alloc hB2.size _) hL4))
  clear hc1 hf1 hc3 hf3 hb12
  have HPR : Calls Tryd.prog 9 #[.string ⟨#[116, 97, 98, 108, 101, 32, 116, 32, 40, 120, 32, 105, 110, 116, 32, 107, 101, 121, 32, 49]⟩] w3 (PrsP w3 sch0 (1, 16) 3) := by
    have h := parse_any exP w3
    rw [ex_prs] at h
    exact h
  go_upto_region 3 with (go_at_call 9; (with_reducible refine HPR.mono ?_); rintro e w4 ⟨sc, sf, rfl, hcs, hfs, hL5⟩; unfold prsV posV sch0; obtain ⟨va, vc, hva⟩ : ∃ a c, sc = .slice a 0 c := hcs.form; obtain ⟨fa, fc, hfa⟩ : ∃ a c, sf = .slice a 0 c := (by obtain ⟨a, c, h, _⟩ := hfs.form; exact ⟨a, c, h⟩); clear hcs hfs; subst hva; subst hfa; have hB4 : Below w.heap.size w w4 := bstep hB3 hL5)
  have l1 := (Below.refl w4.heap.size w4).alloc (Nat.le_refl _) (.cells #[.string ⟨#[]⟩, .slice va 0 vc, .int .i64 0, .slice fa 0 fc] 25)
  have n1 : (w4.alloc (.cells #[.string ⟨#[]⟩, .slice va 0 vc, .int .i64 0, .slice fa 0 fc] 25)).heap.size = w4.heap.size + 1 := by simp
  have b4 := Bx.new (w4.alloc (.cells #[.string ⟨#[]⟩, .slice va 0 vc, .int .i64 0, .slice fa 0 fc] 25)) 33 #[.int .i64 1, .int .i64 16]
  rw [n1] at b4
  have hB5 : Below w.heap.size w ((w4.alloc (.cells #[.string ⟨#[]⟩, .slice va 0 vc, .int .i64 0, .slice fa 0 fc] 25)).alloc (.cells #[.int .i64 1, .int .i64 16] 33)) := (hB4.alloc hB4.size _).alloc (by have := hB4.size; simp; omega) _
  have hs5 := (((hso.below hL5).below l1).below ((Below.refl _ (w4.alloc (.cells #[.string ⟨#[]⟩, .slice va 0 vc, .int .i64 0, .slice fa 0 fc] 25))).alloc (Nat.le_refl _) (.cells #[.int .i64 1, .int .i64 16] 33)))
  generalize ((w4.alloc (.cells #[.string ⟨#[]⟩, .slice va 0 vc, .int .i64 0, .slice fa 0 fc] 25)).alloc (.cells #[.int .i64 1, .int .i64 16] 33)) = W5 at b4 hB5 hs5 ⊢
  generalize w4.heap.size + 1 = P4 at b4 ⊢
  clear l1 n1 hL5 hso hB3 hB4
  go_upto_region 4 with (first
    | (go_at_call 14; (with_reducible refine (one_any ⟨#[97]⟩ ⟨#[98]⟩ _ _ ((Bx.new W5 9 #[.string ⟨#[98]⟩]).cell 0 _ rfl)).mono ?_); rintro e w6 ⟨a5, x5, a6, x6, rfl, hc5, hf5, hL6⟩; have hB6 : Below w.heap.size w w6 := bstep (hB5.alloc hB5.size _) hL6; have hb56 : Below W5.heap.size W5 w6 := bstep ((Below.refl _ W5).alloc (Nat.le_refl _) _) hL6; have HTX : Calls Tryd.prog 7 #[.agg #[.string ⟨#[97]⟩, .slice a5 1 x5, .int .i64 1, .slice a6 1 x6]] w6 fun e w' => e = .returned (.tuple #[.string exT, .int .i64 0]) ∧ Below w6.heap.size w6 w' := (by have h := text_any (oneS bA bB) a5 a6 x5 x6 w6 hc5 hf5; rw [ex_txt] at h; exact h))
    | (go_at_call 7; (with_reducible refine HTX.mono ?_); rintro e w7 ⟨rfl, hL7⟩; have hB7 : Below w.heap.size w w7 := bstep hB6 hL7))
  have b47 := (b4.below hb56).below hL7
  have hs7 := (hs5.below hb56).below hL7
  have p0 := b47.cell 0 _ rfl
  have p1 := b47.cell 1 _ rfl
  have p2 := b47.lt
  have HEQ := eqs_any [bB, bA] vo (.slice (some ⟨w7.heap.size, 0, none⟩) 2 2) (w7.alloc (.cells #[.string ⟨#[98]⟩, .string ⟨#[97]⟩] 9)) (by decide) (hs7.below ((Below.refl _ w7).alloc (Nat.le_refl _) _)) (lit_ss w7 [bB, bA] 9 (by decide))
  have bx7 := Lib.hid (b47.alloc (.cells #[.string ⟨#[98]⟩, .string ⟨#[97]⟩] 9))
  clear b4 hs5 b47 hs7 hc5 hf5 hL6 hb56 HTX hL7 hB6 hB5 HPR
  unfold exT
  go_wp2_with (go_at_call 15; (with_reducible refine HEQ.mono ?_); rintro e w8 ⟨rfl, hL8⟩; have b8 := bx7.out.below hL8; have q0 := b8.cell 0 _ rfl; have q1 := b8.cell 1 _ rfl; have q2 := b8.lt; have hB8 : Below w.heap.size w w8 := bstep (hB7.alloc hB7.size _) hL8)
  go_ret
  exact ⟨rfl, hB8⟩
end Go.Proofs.YtokbipfkpojflaaDoor.Sc
