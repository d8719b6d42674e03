/-
  The walk of Parse (layer 34).
-/
import Derived.Test.YtokbipfkpojflaaDoorScI
set_option linter.unusedSimpArgs false
set_option linter.unusedVariables false
namespace Go.Proofs.YtokbipfkpojflaaDoor.Sc
open Go Go.RowKit Go.ChangeShapes Go.WideShapes Go.Proofs.YtokbipfkpojflaaDoor.Sl Go.Lib
open Go.Proofs.YtokbipfkpojflaaDoor.Lx (Tok tokV cellsT cellsT_len cellsT_app cellsT_one)
open Go.Proofs.YtokbipfkpojflaaDoor.Va (Cl flatC flatC_len flatC_snoc Cs)

set_option maxRecDepth 20000 in
set_option maxHeartbeats 40000000 in
theorem parse_go (s : ByteArray) (w : World) (hs : s.size ≤ 65536) (h0 : (tokS s).2.2 = 0) : Calls Tryd.prog 9 #[.string s] w (PrsP w (prsS s).1 (prsS s).2.1 (prsS s).2.2) := by
  have HT := fun W => tokens_any s W hs
  have HSH := Lib.hid (tokS_short s hs)
  have HR := Lib.hid (show prsS s = _ from by unfold prsS; rw [if_neg (by omega), if_neg (by omega)])
  rw [h0] at HT
  generalize prsS s = R at HR ⊢
  generalize (tokS s).1 = l at HT HSH HR
  generalize (tokS s).2.1 = p at HT
  clear h0
  go_enter Tryd.func9, Tryd.ntmps9
  go_upto_region 8 with (go_at_call 26; (with_reducible refine (HT _).mono ?_); rintro e w1 ⟨v, rfl, ht, hb⟩; unfold tokX posV; obtain ⟨va, vc, rfl⟩ := ht.1.form)
  obtain ⟨TB, hT1, hT2⟩ := parse_tb ht (by have := hb.size; simp at this; omega)
  obtain ⟨HNU, hPI⟩ := PI.start (c6 := #[.int .i64 p.1, .int .i64 p.2]) hb ht hT1 hT2
  clear hT1 hT2 ht hb HT
  have hNs : w1.heap.size + 1 + 1 + 1 + 1 ≤ ((((w1.alloc (.cells #[.int .i64 p.1, .int .i64 p.2] 33)).alloc (.cells #[.slice va l.length vc, .int .i64 0, .int .i64 0, .int .i64 0] 65)).alloc (.cells #[.pointer (some ⟨w1.heap.size + 1, 0, none⟩)] 63)).alloc (.cells #[.string ⟨#[]⟩, .slice none 0 0, .int .i64 0, .slice none 0 0] 25)).heap.size := by simp
  generalize ((((w1.alloc (.cells #[.int .i64 p.1, .int .i64 p.2] 33)).alloc (.cells #[.slice va l.length vc, .int .i64 0, .int .i64 0, .int .i64 0] 65)).alloc (.cells #[.pointer (some ⟨w1.heap.size + 1, 0, none⟩)] 63)).alloc (.cells #[.string ⟨#[]⟩, .slice none 0 0, .int .i64 0, .slice none 0 0] 25)) = W2 at hPI hNs ⊢
  generalize w1.heap.size + 1 + 1 + 1 + 1 = N at HNU hPI hNs
  generalize w1.heap.size + 1 + 1 + 1 = B9 at HNU hPI ⊢
  generalize w1.heap.size + 1 + 1 = B8 at HNU hPI ⊢
  generalize w1.heap.size + 1 = RB at HNU hPI ⊢
  obtain ⟨hq1, hq2, hq3, hq4⟩ := HNU.r
  have hqt := HNU.t
  have c8 := hPI.b8.cell 0 _ rfl
  have HP := Lib.hid hPI
  have HU := Lib.hid HNU
  clear hPI HNU
  have HW1 := word_any RB TB ⟨l, (0, 0), 0⟩ kTable (.slice (some ⟨W2.heap.size, 0, none⟩) 1 1) (W2.alloc (.cells #[.string ⟨#[116, 97, 98, 108, 101]⟩] 9)) (HP.out.rd.alloc _) (by decide) (fun W hg => lit_far (lit_ss W2 kTable 9 (by decide)) hg (by omega))
  go_upto_region 9 with (go_at_call 27; (with_reducible refine HW1.mono ?_); rintro e w3 ⟨rfl, h3, g3⟩)
  have hP3 := Lib.hid ((HP.out.far HU.out (World.grownBy_alloc W2 (.cells #[.string ⟨#[116, 97, 98, 108, 101]⟩] 9) none) (.inl rfl)).rdr HU.out g3 h3)
  have hN3 : N ≤ w3.heap.size := by have := g3.size; simp at this; omega
  clear HW1 h3 g3 c8 HP
  have HP3 : Hid (PI w N TB RB B8 B9 RB ⟨#[]⟩ (.slice none 0 0) 0 (.slice none 0 0) (p1 l) [] [] w3) := hP3
  clear hP3
  have c8 := HP3.out.b8.cell 0 _ rfl
  have HW2 : Calls Tryd.prog 28 #[.pointer (some ⟨RB, 0, none⟩)] w3 fun e w' => e = .returned (.string (p2 l).1) ∧ RdAt w' RB TB (p2 l).2 ∧ w3.grownBy w' (some RB) := pname_any RB TB (p1 l) w3 HP3.out.rd
  go_upto_region 10 with (go_at_call 28; (with_reducible refine HW2.mono ?_); rintro e w4 ⟨rfl, h4, g4⟩; have b94 := ((HP3.out.rdr HU.out g4 h4).b9); have c94 := b94.cell 0 _ rfl; have f94 := b94.frozen 0; have l94 := b94.lt)
  have hP5 := (HP3.out.rdr HU.out g4 h4).set9 HU.out 0 (.string (p2 l).1) (b94.sett 0 _ (by simp) rfl)
  have hN5 : N ≤ (w4.setCell ⟨B9, 0, none⟩ (.string (p2 l).1)).heap.size := by have := g4.size; simp; omega
  clear HW2 h4 g4 c8 b94 c94 f94 l94 HP3 hN3
  generalize w4.setCell ⟨B9, 0, none⟩ (.string (p2 l).1) = W5 at hP5 hN5 ⊢
  have c8 := hP5.b8.cell 0 _ rfl
  have hlen2 : (p2 l).2.toks.length ≤ 65537 := by
    have h1 := (nameR_sfx (p1 l)).length_le
    have h2 := (wordR_sfx ⟨l, (0, 0), 0⟩ kTable).length_le
    have h3 := HSH.out.1
    change (p2 l).2.toks.length ≤ (p1 l).toks.length at h1
    change (p1 l).toks.length ≤ l.length at h2
    omega
  have HL : Calls Tryd.prog 29 #[.pointer (some ⟨RB, 0, none⟩), .func (.func 30) #[] #[.pointer (some ⟨B8, 0, none⟩), .pointer (some ⟨B9, 0, none⟩)]] W5 fun e w' => e = .returned (.tuple #[]) ∧ ColI W5 TB RB B8 B9 (p2 l).1 (p3 l).1 (p3 l).2 w' ∧ W5.heap.size ≤ w'.heap.size :=
    list_any 30 enter_p1 (.pointer (some ⟨B8, 0, none⟩)) (.pointer (some ⟨B9, 0, none⟩)) RB TB colIt (ColI W5 TB RB B8 B9 (p2 l).1) (fun r x W h => h.1) (fun r x W r' W' h hg hr h1 h2 => ColI.step (by omega) ⟨by omega, by omega⟩ r x W r' W' h hg hr h1 h2)
      (fun r x W h he => col_any W5 TB RB B8 B9 ⟨by omega, by omega, by omega, by omega⟩ ⟨by omega, by omega, by omega, by omega⟩ (p2 l).1 r x W he h) colIt_len (p2 l).2 [] W5
      ⟨hP5.rd, hP5.b8, ⟨_, hP5.b9, World.ownsRow_nil _ _ _ _⟩, Frm.refl _ _, ⟨fun _ => by simp; omega, by simp; omega⟩⟩
  have HP5 := Lib.hid hP5
  clear hP5 hlen2
  go_upto_region 11 with (go_at_call 29; (with_reducible refine HL.mono ?_); rintro e w6 ⟨rfl, h6, g6⟩)
  obtain ⟨v6, hP6⟩ := HP5.out.cols HU.out rfl hN5 h6
  have hN6 : N ≤ w6.heap.size := by omega
  clear HL h6 g6 HP5 hN5 c8
  have c8 := hP6.b8.cell 0 _ rfl
  have HP6 := Lib.hid hP6
  have HW3 : Calls Tryd.prog 27 #[.pointer (some ⟨RB, 0, none⟩), .slice (some ⟨w6.heap.size, 0, none⟩) 1 1] (w6.alloc (.cells #[.string ⟨#[107, 101, 121]⟩] 9)) fun e w' => e = .returned (.string (wordR (p3 l).1 kKey).1) ∧ RdAt w' RB TB (p4 l) ∧ (w6.alloc (.cells #[.string ⟨#[107, 101, 121]⟩] 9)).grownBy w' (some RB) :=
    word_any RB TB (p3 l).1 kKey (.slice (some ⟨w6.heap.size, 0, none⟩) 1 1) _ (hP6.rd.alloc _) (by decide) (fun W hg => lit_far (lit_ss w6 kKey 9 (by decide)) hg (by omega))
  clear hP6
  go_upto_region 12 with (go_at_call 27; (with_reducible refine HW3.mono ?_); rintro e w7 ⟨rfl, h7, g7⟩)
  have hP7 := (HP6.out.far HU.out (World.grownBy_alloc w6 (.cells #[.string ⟨#[107, 101, 121]⟩] 9) none) (.inl rfl)).rdr HU.out g7 h7
  have hN7 : N ≤ w7.heap.size := by have := g7.size; simp at this; omega
  clear HW3 h7 g7 HP6 hN6 c8
  have c8 := hP7.b8.cell 0 _ rfl
  have HW4 : Calls Tryd.prog 32 #[.pointer (some ⟨RB, 0, none⟩)] w7 fun e w' => e = .returned (.agg #[.string (p5 l).1.1, .int .i64 (p5 l).1.2.1, .int .i64 (p5 l).1.2.2]) ∧ RdAt w' RB TB (p5 l).2 ∧ w7.grownBy w' (some RB) := next_any RB TB (p4 l) w7 hP7.rd
  have HP7 := Lib.hid hP7
  clear hP7
  go_upto_region 13 with (go_at_call 32; (with_reducible refine HW4.mono ?_); rintro e w8 ⟨rfl, h8, g8⟩)
  have hP8 := (HP7.out.rdr HU.out g8 h8).far HU.out (World.grownBy_alloc w8 (.cells #[.string (p5 l).1.1, .int .i64 (p5 l).1.2.1, .int .i64 (p5 l).1.2.2] 71) none) (.inl rfl)
  have b10 := Bx.new w8 71 #[.string (p5 l).1.1, .int .i64 (p5 l).1.2.1, .int .i64 (p5 l).1.2.2]
  have hN8 : N ≤ (w8.alloc (.cells #[.string (p5 l).1.1, .int .i64 (p5 l).1.2.1, .int .i64 (p5 l).1.2.2] 71)).heap.size := by have := g8.size; simp; omega
  clear HW4 h8 g8 HP7 hN7 c8
  generalize (w8.alloc (.cells #[.string (p5 l).1.1, .int .i64 (p5 l).1.2.1, .int .i64 (p5 l).1.2.2] 71)) = W9 at hP8 b10 hN8 ⊢
  generalize w8.heap.size = B10 at b10 ⊢
  have hsz5 : (p5 l).1.1.size < 4294967281 := by
    rcases nextR_tok (p4 l) with h | h
    · change (p5 l).1 = tok0 at h
      rw [h]; decide
    · change (p5 l).1 ∈ (p4 l).toks at h
      have h1 : (p4 l).toks <:+ l := (wordR_sfx _ _).trans ((lstR_sfx _ colIt_sfx _).trans ((nameR_sfx _).trans (wordR_sfx ⟨l, (0, 0), 0⟩ _)))
      have := HSH.out.2 _ (h1.subset h)
      omega
  have HNB := fun W => Lx.number_any (p5 l).1.1 1 8 (p6 l).1 (p6 l).2 W hsz5 rfl
  have hlen7 : (p7 l).toks.length ≤ 65537 := by
    have h1 : (p4 l).toks <:+ l := (wordR_sfx _ _).trans ((lstR_sfx _ colIt_sfx _).trans ((nameR_sfx _).trans (wordR_sfx ⟨l, (0, 0), 0⟩ _)))
    have h2 := (nextR_sfx (p4 l)).length_le
    have h3 := h1.length_le
    have h4 := HSH.out.1
    have h5 : (p7 l).toks = (nextR (p4 l)).2.toks := by
      unfold p7
      split
      · rfl
      · rw [failR_toks]; rfl
    rw [h5]
    omega
  have c10 := b10.cell 0 _ rfl
  have c11 := b10.cell 1 _ rfl
  have c12 := b10.cell 2 _ rfl
  have c8 := hP8.b8.cell 0 _ rfl
  have c92 := hP8.b9.cell 2 _ rfl
  have f92 := hP8.b9.frozen 2
  have l92 := hP8.b9.lt
  have HP8 := Lib.hid hP8
  have HB10 := Lib.hid b10
  clear hP8 b10
  by_cases hf : (p6 l).2 = 0
  · have h7 : (p7 l) = (p5 l).2 := by unfold p7; rw [if_pos hf]
    rw [hf] at HNB
    go_upto_region 17 with (go_at_call 33; (with_reducible refine (HNB _).mono ?_); rintro e w9 ⟨rfl, rfl⟩)
    have hPT := HP8.out.set9 HU.out 2 (.int .i64 (p6 l).1) (HP8.out.b9.sett 2 _ (by simp) rfl)
    rw [← h7] at hPT
    have hNT : N ≤ (W9.setCell ⟨B9, 2, none⟩ (.int .i64 (p6 l).1)).heap.size := by simp; omega
    clear HP8 c10 c11 c12 c8 c92 f92 l92 HNB h7 hf HB10
    generalize W9.setCell ⟨B9, 2, none⟩ (.int .i64 (p6 l).1) = WT at hPT hNT ⊢
    have HPT := Lib.hid hPT
    clear hPT
    go_loopw [61] (fun _ wq => ∃ (K : Nat) (r : Rd) (fr : List Fr) (vf : Value), Hid (PI w N TB RB B8 B9 K (p2 l).1 v6 (p6 l).1 vf r (p3 l).2 fr wq) ∧ Hid (Nums w.heap.size N TB RB B8 B9 K) ∧ N ≤ wq.heap.size ∧ Hid (frR (r.toks.length + 1) (r, fr) = p8 l) ∧ Bnd fr.length r) (fun _ wq => rdM wq RB)
    case atStart => exact ⟨RB, p7 l, [], _, HPT, HU, hNT, Lib.hid rfl, ⟨fun _ => by simp; omega, by simp; omega⟩⟩
    case round =>
      obtain ⟨K, r, fr, vf, HP, HK, hN, HF, hB⟩ := hrel
      have hm := Lib.hid HP.out.rd.m
      have c8 := HP.out.b8.cell 0 _ rfl
      obtain ⟨ra, rc, hbx, hts, _, _⟩ := HP.out.rd
      have r0 := hbx.cell 0 _ rfl
      have r1 := hbx.cell 1 _ rfl
      have r2 := hbx.cell 2 _ rfl
      have r3 := hbx.cell 3 _ rfl
      clear hbx hts
      by_cases he : r.e = 0
      · by_cases ht : r.toks = []
        · have HE := Lib.hid (frR_end (r, fr) (fun h => h.2 ht))
          rw [he] at r3
          rw [ht] at r0
          have HE2 := Lib.hid (HE.out.symm.trans HF.out)
          have HS := Lib.hid (show prsL l = ⟨(p2 l).1, (p3 l).2, (p6 l).1, fr⟩ by unfold prsL; rw [← HE2.out])
          have HR1 := Lib.hid (show R = (if vldS ⟨(p2 l).1, (p3 l).2, (p6 l).1, fr⟩ = false then (sch0, (0, 0), 1) else (⟨(p2 l).1, (p3 l).2, (p6 l).1, fr⟩, (0, 0), 0)) by rw [HR.out, if_neg (by rw [← HE2.out]; simpa using he), HS.out])
          obtain ⟨a1, x1, hv6⟩ := (Sl.of_owns HP.out.own).form
          obtain ⟨a2, x2, hvf, _⟩ := HP.out.fi.fs.form
          have hCs : Cs wr (.slice a1 (p3 l).2.length x1) (p3 l).2 := hv6 ▸ Sl.of_owns HP.out.own
          have hFs : FsAt wr (.slice a2 fr.length x2) fr := hvf ▸ HP.out.fi.fs
          have HVD := fun W (hb : Below wr.heap.size wr W) => valid_any ⟨(p2 l).1, (p3 l).2, (p6 l).1, fr⟩ a1 a2 x1 x2 W (hCs.below hb) (hFs.below (fun r x hx => hx.below hb) hb)
          have b9 := HP.out.b9
          rw [hv6, hvf] at b9
          have c90 := b9.cell 0 _ rfl
          have c91 := b9.cell 1 _ rfl
          have c92 := b9.cell 2 _ rfl
          have c93 := b9.cell 3 _ rfl
          dsimp only at HVD
          generalize hln1 : (p3 l).2.length = ln1 at *
          generalize hln2 : fr.length = ln2 at *
          have HV6 := Lib.hid hv6
          have HVF := Lib.hid hvf
          have HLN1 := Lib.hid hln1
          have HLN2 := Lib.hid hln2
          clear b9 hCs hFs hv6 hvf hln1 hln2
          by_cases hvd : vldS ⟨(p2 l).1, (p3 l).2, (p6 l).1, fr⟩ = false
          · have HR2 := Lib.hid (show R = (sch0, (0, 0), 1) by rw [HR1.out, if_pos hvd])
            rw [hvd] at HVD
            clear hvd
            go_upto_region 26 with (go_at_call 8; (with_reducible refine (HVD _ (Below.refl _ _)).mono ?_); rintro e w20 ⟨rfl, hb20⟩)
            have HP20 := HP.out.keep HK.out (Frm.ofBelow hb20) (HP.out.rd.below hb20)
            have c20 := HP20.b2.cell 0 _ rfl
            have c21 := HP20.b2.cell 1 _ rfl
            have c22 := HP20.b2.cell 2 _ rfl
            have c23 := HP20.b2.cell 3 _ rfl
            have f20 := HP20.b2.frozen 0
            have f21 := HP20.b2.frozen 1
            have f22 := HP20.b2.frozen 2
            have f23 := HP20.b2.frozen 3
            have c30 := HP20.b3.cell 0 _ rfl
            have c31 := HP20.b3.cell 1 _ rfl
            have f30 := HP20.b3.frozen 0
            have f31 := HP20.b3.frozen 1
            have hl3 := HP20.b3.lt
            have hl2 := HP20.b2.lt
            go_wp2
            have e2 := (HP20.b2.set4 (.string ⟨#[]⟩) (.slice none 0 0) (.int .i64 0) (.slice none 0 0)).far2 (P := w.heap.size + 1) (by omega) (.int .i64 0) (.int .i64 0)
            have e3 := (HP20.b3.far4 (P := w.heap.size) (by omega) (.string ⟨#[]⟩) (.slice none 0 0) (.int .i64 0) (.slice none 0 0)).set2 (.int .i64 0) (.int .i64 0)
            have hL8 := HP20.hL
            have hL9 : Below w.heap.size w ((((((w20.setCell ⟨w.heap.size, 0, none⟩ (.string ⟨#[]⟩)).setCell ⟨w.heap.size, 1, none⟩ (.slice none 0 0)).setCell ⟨w.heap.size, 2, none⟩ (.int .i64 0)).setCell ⟨w.heap.size, 3, none⟩ (.slice none 0 0)).setCell ⟨w.heap.size + 1, 0, none⟩ (.int .i64 0)).setCell ⟨w.heap.size + 1, 1, none⟩ (.int .i64 0)) := by go_grown
            generalize (((((w20.setCell ⟨w.heap.size, 0, none⟩ (.string ⟨#[]⟩)).setCell ⟨w.heap.size, 1, none⟩ (.slice none 0 0)).setCell ⟨w.heap.size, 2, none⟩ (.int .i64 0)).setCell ⟨w.heap.size, 3, none⟩ (.slice none 0 0)).setCell ⟨w.heap.size + 1, 0, none⟩ (.int .i64 0)).setCell ⟨w.heap.size + 1, 1, none⟩ (.int .i64 0) = W29 at e2 e3 hL9 ⊢
            refine bodyPost_ret (prs_ret _ _ _ _ _ _ _ (0, 0) 1 [] [] rfl rfl rfl e2 e3) rfl ?_
            rw [HR2.out]
            exact ⟨_, _, rfl, Sl.mk0 .., FsAt.nil .., hL9⟩
          · have HR2 := Lib.hid (show R = (⟨(p2 l).1, (p3 l).2, (p6 l).1, fr⟩, (0, 0), 0) by rw [HR1.out, if_neg hvd])
            have hvt : vldS ⟨(p2 l).1, (p3 l).2, (p6 l).1, fr⟩ = true := by simpa using hvd
            rw [hvt] at HVD
            clear hvd hvt
            go_upto_region 27 with (go_at_call 8; (with_reducible refine (HVD _ (Below.refl _ _)).mono ?_); rintro e w20 ⟨rfl, hb20⟩)
            have HP20 := HP.out.keep HK.out (Frm.ofBelow hb20) (HP.out.rd.below hb20)
            have c20 := HP20.b2.cell 0 _ rfl
            have c21 := HP20.b2.cell 1 _ rfl
            have c22 := HP20.b2.cell 2 _ rfl
            have c23 := HP20.b2.cell 3 _ rfl
            have f20 := HP20.b2.frozen 0
            have f21 := HP20.b2.frozen 1
            have f22 := HP20.b2.frozen 2
            have f23 := HP20.b2.frozen 3
            have c30 := HP20.b3.cell 0 _ rfl
            have c31 := HP20.b3.cell 1 _ rfl
            have f30 := HP20.b3.frozen 0
            have f31 := HP20.b3.frozen 1
            have hl3 := HP20.b3.lt
            have hl2 := HP20.b2.lt
            have d9 := HP20.b9
            rw [HV6.out, HVF.out] at d9
            have d90 := d9.cell 0 _ rfl
            have d91 := d9.cell 1 _ rfl
            have d92 := d9.cell 2 _ rfl
            have d93 := d9.cell 3 _ rfl
            clear d9
            go_wp2
            have e2 := (HP20.b2.set4 (.string (p2 l).1) (.slice a1 ln1 x1) (.int .i64 (p6 l).1) (.slice a2 ln2 x2)).far2 (P := w.heap.size + 1) (by omega) (.int .i64 0) (.int .i64 0)
            have e3 := (HP20.b3.far4 (P := w.heap.size) (by omega) (.string (p2 l).1) (.slice a1 ln1 x1) (.int .i64 (p6 l).1) (.slice a2 ln2 x2)).set2 (.int .i64 0) (.int .i64 0)
            have hfr := (((((((Frm.refl [w.heap.size, w.heap.size + 1] w20).grow (gp_set1 _ w.heap.size 0 (.string (p2 l).1)) (fun k e => .inl (by cases e; simp))).grow (gp_set1 _ w.heap.size 1 (.slice a1 ln1 x1)) (fun k e => .inl (by cases e; simp))).grow (gp_set1 _ w.heap.size 2 (.int .i64 (p6 l).1)) (fun k e => .inl (by cases e; simp))).grow (gp_set1 _ w.heap.size 3 (.slice a2 ln2 x2)) (fun k e => .inl (by cases e; simp))).grow (gp_set1 _ (w.heap.size + 1) 0 (.int .i64 0)) (fun k e => .inl (by cases e; simp))).grow (gp_set1 _ (w.heap.size + 1) 1 (.int .i64 0)) (fun k e => .inl (by cases e; simp)))
            have hL9 := hfr.below HP20.hL (fun k hk => by simp at hk; omega)
            have ho9 := own_blk HP20.own (fun g hg hN hlt => hfr.block g hlt (by simp; omega))
            have hf9 := HP20.fi.keep (fun g hN hlt h1 _ => hfr.block g hlt (by simp; omega))
            clear c20 c21 c22 c23 c30 c31 f20 f21 f22 f23 f30 f31 hl2 hl3 d90 d91 d92 d93 hfr HP20 hb20
            generalize (((((w20.setCell ⟨w.heap.size, 0, none⟩ (.string (p2 l).1)).setCell ⟨w.heap.size, 1, none⟩ (.slice a1 ln1 x1)).setCell ⟨w.heap.size, 2, none⟩ (.int .i64 (p6 l).1)).setCell ⟨w.heap.size, 3, none⟩ (.slice a2 ln2 x2)).setCell ⟨w.heap.size + 1, 0, none⟩ (.int .i64 0)).setCell ⟨w.heap.size + 1, 1, none⟩ (.int .i64 0) = W29 at e2 e3 hL9 ho9 hf9 ⊢
            refine bodyPost_ret (prs_ret _ _ _ _ _ _ _ (0, 0) 0 fr (p3 l).2 rfl rfl rfl e2 e3) rfl ?_
            rw [HR2.out]
            have hs9 := Sl.of_owns ho9
            rw [HV6.out] at hs9
            have hg9 := hf9.fs
            rw [HVF.out] at hg9
            refine ⟨.slice a1 ln1 x1, .slice a2 ln2 x2, rfl, ?_, ?_, hL9⟩
            · show Sl W29 (.slice a1 ln1 x1) (p3 l).2.length 2 (flatC (p3 l).2)
              exact hs9
            · exact hg9
        · have hlen : 0 < r.toks.length := List.length_pos_iff.2 ht
          rw [he] at r3
          have HW := word_any RB TB r kForeign (.slice (some ⟨wr.heap.size, 0, none⟩) 1 1) (wr.alloc (.cells #[.string ⟨#[102, 111, 114, 101, 105, 103, 110]⟩] 9)) (HP.out.rd.alloc _) (by decide) (fun W hg => lit_far (lit_ss wr kForeign 9 (by decide)) hg (by omega))
          have hk0 : (0 : Int) < (r.toks.length : Int) := by omega
          have HT := Lib.hid ht
          have HE1 := Lib.hid he
          clear ht he hlen
          go_upto_region 19 with (go_at_call 27; (with_reducible refine HW.mono ?_); rintro e w11 ⟨rfl, h11, g11⟩)
          have P11 := ((HP.out.far HK.out (World.grownBy_alloc wr (.cells #[.string ⟨#[102, 111, 114, 101, 105, 103, 110]⟩] 9) none) (.inl rfl)).rdr HK.out g11 h11).re (Nat.le_refl w11.heap.size)
          have hN11 : N ≤ w11.heap.size := by have := g11.size; simp at this; omega
          have HK2 := Lib.hid (show Nums w.heap.size N TB RB B8 B9 w11.heap.size from ⟨HK.out.r, HK.out.t, .inr hN11⟩)
          have hvl := P11.fi.lt
          have P12 := P11.far HK2.out (World.grownBy_alloc w11 (.cells #[.slice none 0 0, .string ⟨#[]⟩] 50) none) (.inl rfl)
          have b13 := Bx.new w11 50 #[.slice none 0 0, .string ⟨#[]⟩]
          have hN12 : w11.heap.size < (w11.alloc (.cells #[.slice none 0 0, .string ⟨#[]⟩] 50)).heap.size := by simp
          clear HW h11 g11 P11 c8 r0 r1 r2 r3 hk0
          go_upto_region 20 with fail
          generalize w11.alloc (.cells #[.slice none 0 0, .string ⟨#[]⟩] 50) = W12 at P12 b13 hN12 ⊢
          generalize w11.heap.size = K2 at *
          have c8 := P12.b8.cell 0 _ rfl
          have hq5 : (frQ r) = lstR frnIt ((wordR r kForeign).2, []) := rfl
          have HL : Calls Tryd.prog 29 #[.pointer (some ⟨RB, 0, none⟩), .func (.func 35) #[] #[.pointer (some ⟨K2, 0, none⟩), .pointer (some ⟨B8, 0, none⟩)]] W12 fun e w' => e = .returned (.tuple #[]) ∧ FrnI W12 TB RB B8 K2 (frQ r).1 (frQ r).2 w' ∧ W12.heap.size ≤ w'.heap.size :=
            list_any 35 enter_p2 (.pointer (some ⟨K2, 0, none⟩)) (.pointer (some ⟨B8, 0, none⟩)) RB TB frnIt (FrnI W12 TB RB B8 K2) (fun r x W h => h.1) (fun r x W r' W' h hg hr h1 h2 => FrnI.step (by omega) ⟨by omega, by omega⟩ r x W r' W' h hg hr h1 h2)
              (fun r x W h he => frn_any W12 TB RB B8 K2 ⟨by omega, by omega, by omega, by omega⟩ ⟨by omega, by omega, by omega, by omega⟩ r x W he h) frnIt_len (wordR r kForeign).2 [] W12
              ⟨P12.rd, P12.b8, ⟨_, b13, World.ownsRow_nil _ _ _ _⟩, Frm.refl _ _, by
                have h1 := wordR_len r kForeign
                exact ⟨fun _ => by have := hB.2; have := hB.1 HE1.out; simp; omega, by have := hB.2; simp; omega⟩⟩
          have HP12 := Lib.hid P12
          clear P12 b13 hq5
          go_upto_region 21 with (go_at_call 29; (with_reducible refine HL.mono ?_); rintro e w13 ⟨rfl, h13, g13⟩)
          obtain ⟨r13, b813, ⟨v13, b13, own13⟩, f13, _⟩ := h13
          have P13 := HP12.out.keep HK2.out f13 r13
          clear HL HP12 r13 b813 f13 c8
          have c8 := P13.b8.cell 0 _ rfl
          have HNM := pname_any RB TB (frQ r).1 w13 P13.rd
          have hv1 : v13.ownBlock ≠ some RB := fun e => by have := (own13.lt _ e).1; omega
          have hv2 : v13.ownBlock ≠ some K2 := fun e => by have := (own13.lt _ e).1; omega
          have hv3 : v13.ownBlock = none ∨ v13.ownBlock ≠ vf.ownBlock := by
            by_cases e : v13.ownBlock = none
            · exact .inl e
            · refine .inr fun e2 => ?_
              obtain ⟨g, hg⟩ := Option.ne_none_iff_exists'.1 e
              have := (own13.lt g hg).1
              have := (hvl g (by rw [← e2]; exact hg)).2
              omega
          have hKR : ¬ K2 = RB := by omega
          have HO13 := Lib.hid own13
          have HB13 := Lib.hid b13
          have HP13 := Lib.hid P13
          have HV := Lib.hid (And.intro hv1 (And.intro hv2 hv3))
          clear own13 b13 P13 hv1 hv2 hv3 hvl
          go_upto_region 22 with (go_at_call 28; (with_reducible refine HNM.mono ?_); rintro e w14 ⟨rfl, h14, g14⟩; have b14 := HB13.out.far g14 (by simpa using hKR); have c14 := b14.cell 1 _ rfl; have f14 := b14.frozen 1; have l14 := b14.lt)
          have P14 := HP13.out.rdr HK2.out g14 h14
          have own14 := HO13.out.kept g14 (.inr HV.out.1)
          have P15 := P14.far HK2.out (gp_set1 w14 K2 1 (.string (nameR (frQ r).1).1)) (.inr ⟨rfl, hN11⟩)
          have b15 : Bx (w14.setCell ⟨K2, 1, none⟩ (.string (nameR (frQ r).1).1)) K2 50 #[v13, .string (nameR (frQ r).1).1] := b14.sett 1 _ (by simp) rfl
          have own15 := own14.kept (gp_set1 w14 K2 1 (.string (nameR (frQ r).1).1)) (.inr HV.out.2.1)
          have hN15 : N ≤ (w14.setCell ⟨K2, 1, none⟩ (.string (nameR (frQ r).1).1)).heap.size := by have := g14.size; simp; omega
          clear HNM h14 g14 P14 own14 b14 c14 f14 l14 HP13 HB13 HO13 c8
          generalize w14.setCell ⟨K2, 1, none⟩ (.string (nameR (frQ r).1).1) = W15 at P15 b15 own15 hN15 ⊢
          obtain ⟨ls, l1, l2, l3, _, l5⟩ := P15.fi
          have hll : ls.length = fr.length := by rw [← l1, List.length_map]
          have c15 := b15.cell 0 _ rfl
          have d15 := b15.cell 1 _ rfl
          have m15 := b15.lt
          have c95 := P15.b9.cell 3 _ rfl
          have m95 := P15.b9.lt
          have hv13 := own_one own15
          have hvB : some B9 ≠ vf.ownBlock := fun e => by have := (l2.lt _ e.symm).1; omega
          obtain ⟨ii, hi, hz0', hz1', hz2'⟩ := info_parts infoF
          have hbd := hB.1 HE1.out
          have HP15 := Lib.hid P15
          have HLS := Lib.hid (And.intro l1 (And.intro l2 (And.intro l3 l5)))
          have HO15 := Lib.hid (own_le own15 (show N ≤ W12.heap.size by omega))
          have HVB := Lib.hid hvB
          clear P15 l1 l2 l3 l5 own15 b15 hvB
          go_wp2_with (at_builtin; go_must (refine wpList_app3 (wX := W15) N (by omega) rfl (.tmp 84) (.tmp 86) 23 rfl 50 Tryd.underlying23 hi hz0' hz1' hz2' rfl (by decide) vf ls.length (cellsF ls) rfl [v13, .string (nameR (frQ r).1).1] 50 HLS.out.2.1 rfl (by simp) rfl (by intro u hu; simp at hu; rcases hu with rfl | rfl; exact hv13; rfl) (by unfold maxLen; omega) (by omega) ?_); intro g1 cap1 w16 hown16 hgr hG; have b16 := HP15.out.b9.far hgr HVB.out; have n1 := b16.cell 3 _ rfl; have n2 := b16.frozen 3; have n3 := b16.lt)
          go_roundw
          case rel =>
            have P17 := HP15.out.app HK2.out m15 hN11 (f := ⟨(frQ r).2, (nameR (frQ r).1).1⟩) HO15.out HV.out.2.1 HV.out.2.2 ls HLS.out.1 HLS.out.2.2.1 HLS.out.2.2.2 hown16 hgr hG
            rw [hll] at P17
            exact ⟨K2, (frS (r, fr)).1, (frS (r, fr)).2, _, Lib.hid P17, HK2, by have := hgr.size; simp; omega, Lib.hid (by rw [← HF.out, frR_go (r, fr) ⟨HE1.out, HT.out⟩]), Bnd.frS (s := (r, fr)) hB HE1.out⟩
          case measure =>
            have P17 := HP15.out.app HK2.out m15 hN11 (f := ⟨(frQ r).2, (nameR (frQ r).1).1⟩) HO15.out HV.out.2.1 HV.out.2.2 ls HLS.out.1 HLS.out.2.2.1 HLS.out.2.2.2 hown16 hgr hG
            rw [hll] at P17
            rw [P17.rd.m, hm.out, if_pos HE1.out]
            split
            · rename_i h5
              have := (frS_dec (r, fr) h5).2
              have h6 : (frS (r, fr)).1 = (nameR (frQ r).1).2 := rfl
              rw [h6] at this
              dsimp only at this
              omega
            · omega
      · have he2 : (r.e == 0) = false := by simpa using he
        have he3 : (r.e != 0) = true := by simpa using he
        have HE := Lib.hid ((frR_end (r, fr) (fun h => he h.1)).symm.trans HF.out)
        have HR2 := Lib.hid (show R = (sch0, r.p, r.e) by rw [HR.out, if_pos (by rw [← HE.out]; exact he), ← HE.out])
        have c20 := HP.out.b2.cell 0 _ rfl
        have c21 := HP.out.b2.cell 1 _ rfl
        have c22 := HP.out.b2.cell 2 _ rfl
        have c23 := HP.out.b2.cell 3 _ rfl
        have f20 := HP.out.b2.frozen 0
        have f21 := HP.out.b2.frozen 1
        have f22 := HP.out.b2.frozen 2
        have f23 := HP.out.b2.frozen 3
        have c30 := HP.out.b3.cell 0 _ rfl
        have c31 := HP.out.b3.cell 1 _ rfl
        have f30 := HP.out.b3.frozen 0
        have f31 := HP.out.b3.frozen 1
        have hl3 := HP.out.b3.lt
        have hl2 := HP.out.b2.lt
        go_upto_region 24 with fail
        go_region
        have e2 := (HP.out.b2.set4 (.string ⟨#[]⟩) (.slice none 0 0) (.int .i64 0) (.slice none 0 0)).far2 (P := w.heap.size + 1) (by omega) (.int .i64 r.p.1) (.int .i64 r.p.2)
        have e3 := (HP.out.b3.far4 (P := w.heap.size) (by omega) (.string ⟨#[]⟩) (.slice none 0 0) (.int .i64 0) (.slice none 0 0)).set2 (.int .i64 r.p.1) (.int .i64 r.p.2)
        have hL8 := HP.out.hL
        have hL9 : Below w.heap.size w ((((((wr.setCell ⟨w.heap.size, 0, none⟩ (.string ⟨#[]⟩)).setCell ⟨w.heap.size, 1, none⟩ (.slice none 0 0)).setCell ⟨w.heap.size, 2, none⟩ (.int .i64 0)).setCell ⟨w.heap.size, 3, none⟩ (.slice none 0 0)).setCell ⟨w.heap.size + 1, 0, none⟩ (.int .i64 r.p.1)).setCell ⟨w.heap.size + 1, 1, none⟩ (.int .i64 r.p.2)) := by go_grown
        generalize (((((wr.setCell ⟨w.heap.size, 0, none⟩ (.string ⟨#[]⟩)).setCell ⟨w.heap.size, 1, none⟩ (.slice none 0 0)).setCell ⟨w.heap.size, 2, none⟩ (.int .i64 0)).setCell ⟨w.heap.size, 3, none⟩ (.slice none 0 0)).setCell ⟨w.heap.size + 1, 0, none⟩ (.int .i64 r.p.1)).setCell ⟨w.heap.size + 1, 1, none⟩ (.int .i64 r.p.2) = W29 at e2 e3 hL9 ⊢
        clear c20 c21 c22 c23 c30 c31 f20 f21 f22 f23 f30 f31 hl2 hl3
        go_wp2
        refine bodyPost_ret (prs_ret _ _ _ _ _ _ _ r.p r.e [] [] rfl rfl rfl e2 e3) rfl ?_
        rw [HR2.out]
        exact ⟨_, _, rfl, Sl.mk0 .., FsAt.nil .., Va.bdrew hL9⟩
  · have h7 : (p7 l) = failR (p5 l).2 (p5 l).1 (p6 l).2 := by unfold p7; rw [if_neg hf]
    have hf2 : ((p6 l).2 != 0) = true := by simpa using hf
    have HFL := fail_any RB TB (p5 l).2 (p5 l).1 (p6 l).2 W9 HP8.out.rd
    rw [← h7] at HFL
    go_upto_region 17 with (first | (go_at_call 33; (with_reducible refine (HNB _).mono ?_); rintro e w9 ⟨rfl, rfl⟩) | (go_at_call 34; (with_reducible refine HFL.mono ?_); rintro e w10 ⟨rfl, h10, g10⟩; have b90 := (HP8.out.rdr HU.out g10 h10).b9; have c90 := b90.cell 2 _ rfl; have f90 := b90.frozen 2; have l90 := b90.lt))
    have hPT := (HP8.out.rdr HU.out g10 h10).set9 HU.out 2 (.int .i64 (p6 l).1) (b90.sett 2 _ (by simp) rfl)
    have hNT : N ≤ (w10.setCell ⟨B9, 2, none⟩ (.int .i64 (p6 l).1)).heap.size := by have := g10.size; simp; omega
    clear HP8 c10 c11 c12 c8 c92 f92 l92 HNB h7 hf HB10 h10 g10 b90 c90 f90 l90 HFL
    generalize w10.setCell ⟨B9, 2, none⟩ (.int .i64 (p6 l).1) = WT at hPT hNT ⊢
    have HPT := Lib.hid hPT
    clear hPT
    go_loopw [61] (fun _ wq => ∃ (K : Nat) (r : Rd) (fr : List Fr) (vf : Value), Hid (PI w N TB RB B8 B9 K (p2 l).1 v6 (p6 l).1 vf r (p3 l).2 fr wq) ∧ Hid (Nums w.heap.size N TB RB B8 B9 K) ∧ N ≤ wq.heap.size ∧ Hid (frR (r.toks.length + 1) (r, fr) = p8 l) ∧ Bnd fr.length r) (fun _ wq => rdM wq RB)
    case atStart => exact ⟨RB, p7 l, [], _, HPT, HU, hNT, Lib.hid rfl, ⟨fun _ => by simp; omega, by simp; omega⟩⟩
    case round =>
      obtain ⟨K, r, fr, vf, HP, HK, hN, HF, hB⟩ := hrel
      have hm := Lib.hid HP.out.rd.m
      have c8 := HP.out.b8.cell 0 _ rfl
      obtain ⟨ra, rc, hbx, hts, _, _⟩ := HP.out.rd
      have r0 := hbx.cell 0 _ rfl
      have r1 := hbx.cell 1 _ rfl
      have r2 := hbx.cell 2 _ rfl
      have r3 := hbx.cell 3 _ rfl
      clear hbx hts
      by_cases he : r.e = 0
      · by_cases ht : r.toks = []
        · have HE := Lib.hid (frR_end (r, fr) (fun h => h.2 ht))
          rw [he] at r3
          rw [ht] at r0
          have HE2 := Lib.hid (HE.out.symm.trans HF.out)
          have HS := Lib.hid (show prsL l = ⟨(p2 l).1, (p3 l).2, (p6 l).1, fr⟩ by unfold prsL; rw [← HE2.out])
          have HR1 := Lib.hid (show R = (if vldS ⟨(p2 l).1, (p3 l).2, (p6 l).1, fr⟩ = false then (sch0, (0, 0), 1) else (⟨(p2 l).1, (p3 l).2, (p6 l).1, fr⟩, (0, 0), 0)) by rw [HR.out, if_neg (by rw [← HE2.out]; simpa using he), HS.out])
          obtain ⟨a1, x1, hv6⟩ := (Sl.of_owns HP.out.own).form
          obtain ⟨a2, x2, hvf, _⟩ := HP.out.fi.fs.form
          have hCs : Cs wr (.slice a1 (p3 l).2.length x1) (p3 l).2 := hv6 ▸ Sl.of_owns HP.out.own
          have hFs : FsAt wr (.slice a2 fr.length x2) fr := hvf ▸ HP.out.fi.fs
          have HVD := fun W (hb : Below wr.heap.size wr W) => valid_any ⟨(p2 l).1, (p3 l).2, (p6 l).1, fr⟩ a1 a2 x1 x2 W (hCs.below hb) (hFs.below (fun r x hx => hx.below hb) hb)
          have b9 := HP.out.b9
          rw [hv6, hvf] at b9
          have c90 := b9.cell 0 _ rfl
          have c91 := b9.cell 1 _ rfl
          have c92 := b9.cell 2 _ rfl
          have c93 := b9.cell 3 _ rfl
          dsimp only at HVD
          generalize hln1 : (p3 l).2.length = ln1 at *
          generalize hln2 : fr.length = ln2 at *
          have HV6 := Lib.hid hv6
          have HVF := Lib.hid hvf
          have HLN1 := Lib.hid hln1
          have HLN2 := Lib.hid hln2
          clear b9 hCs hFs hv6 hvf hln1 hln2
          by_cases hvd : vldS ⟨(p2 l).1, (p3 l).2, (p6 l).1, fr⟩ = false
          · have HR2 := Lib.hid (show R = (sch0, (0, 0), 1) by rw [HR1.out, if_pos hvd])
            rw [hvd] at HVD
            clear hvd
            go_upto_region 26 with (go_at_call 8; (with_reducible refine (HVD _ (Below.refl _ _)).mono ?_); rintro e w20 ⟨rfl, hb20⟩)
            have HP20 := HP.out.keep HK.out (Frm.ofBelow hb20) (HP.out.rd.below hb20)
            have c20 := HP20.b2.cell 0 _ rfl
            have c21 := HP20.b2.cell 1 _ rfl
            have c22 := HP20.b2.cell 2 _ rfl
            have c23 := HP20.b2.cell 3 _ rfl
            have f20 := HP20.b2.frozen 0
            have f21 := HP20.b2.frozen 1
            have f22 := HP20.b2.frozen 2
            have f23 := HP20.b2.frozen 3
            have c30 := HP20.b3.cell 0 _ rfl
            have c31 := HP20.b3.cell 1 _ rfl
            have f30 := HP20.b3.frozen 0
            have f31 := HP20.b3.frozen 1
            have hl3 := HP20.b3.lt
            have hl2 := HP20.b2.lt
            go_wp2
            have e2 := (HP20.b2.set4 (.string ⟨#[]⟩) (.slice none 0 0) (.int .i64 0) (.slice none 0 0)).far2 (P := w.heap.size + 1) (by omega) (.int .i64 0) (.int .i64 0)
            have e3 := (HP20.b3.far4 (P := w.heap.size) (by omega) (.string ⟨#[]⟩) (.slice none 0 0) (.int .i64 0) (.slice none 0 0)).set2 (.int .i64 0) (.int .i64 0)
            have hL8 := HP20.hL
            have hL9 : Below w.heap.size w ((((((w20.setCell ⟨w.heap.size, 0, none⟩ (.string ⟨#[]⟩)).setCell ⟨w.heap.size, 1, none⟩ (.slice none 0 0)).setCell ⟨w.heap.size, 2, none⟩ (.int .i64 0)).setCell ⟨w.heap.size, 3, none⟩ (.slice none 0 0)).setCell ⟨w.heap.size + 1, 0, none⟩ (.int .i64 0)).setCell ⟨w.heap.size + 1, 1, none⟩ (.int .i64 0)) := by go_grown
            generalize (((((w20.setCell ⟨w.heap.size, 0, none⟩ (.string ⟨#[]⟩)).setCell ⟨w.heap.size, 1, none⟩ (.slice none 0 0)).setCell ⟨w.heap.size, 2, none⟩ (.int .i64 0)).setCell ⟨w.heap.size, 3, none⟩ (.slice none 0 0)).setCell ⟨w.heap.size + 1, 0, none⟩ (.int .i64 0)).setCell ⟨w.heap.size + 1, 1, none⟩ (.int .i64 0) = W29 at e2 e3 hL9 ⊢
            refine bodyPost_ret (prs_ret _ _ _ _ _ _ _ (0, 0) 1 [] [] rfl rfl rfl e2 e3) rfl ?_
            rw [HR2.out]
            exact ⟨_, _, rfl, Sl.mk0 .., FsAt.nil .., hL9⟩
          · have HR2 := Lib.hid (show R = (⟨(p2 l).1, (p3 l).2, (p6 l).1, fr⟩, (0, 0), 0) by rw [HR1.out, if_neg hvd])
            have hvt : vldS ⟨(p2 l).1, (p3 l).2, (p6 l).1, fr⟩ = true := by simpa using hvd
            rw [hvt] at HVD
            clear hvd hvt
            go_upto_region 27 with (go_at_call 8; (with_reducible refine (HVD _ (Below.refl _ _)).mono ?_); rintro e w20 ⟨rfl, hb20⟩)
            have HP20 := HP.out.keep HK.out (Frm.ofBelow hb20) (HP.out.rd.below hb20)
            have c20 := HP20.b2.cell 0 _ rfl
            have c21 := HP20.b2.cell 1 _ rfl
            have c22 := HP20.b2.cell 2 _ rfl
            have c23 := HP20.b2.cell 3 _ rfl
            have f20 := HP20.b2.frozen 0
            have f21 := HP20.b2.frozen 1
            have f22 := HP20.b2.frozen 2
            have f23 := HP20.b2.frozen 3
            have c30 := HP20.b3.cell 0 _ rfl
            have c31 := HP20.b3.cell 1 _ rfl
            have f30 := HP20.b3.frozen 0
            have f31 := HP20.b3.frozen 1
            have hl3 := HP20.b3.lt
            have hl2 := HP20.b2.lt
            have d9 := HP20.b9
            rw [HV6.out, HVF.out] at d9
            have d90 := d9.cell 0 _ rfl
            have d91 := d9.cell 1 _ rfl
            have d92 := d9.cell 2 _ rfl
            have d93 := d9.cell 3 _ rfl
            clear d9
            go_wp2
            have e2 := (HP20.b2.set4 (.string (p2 l).1) (.slice a1 ln1 x1) (.int .i64 (p6 l).1) (.slice a2 ln2 x2)).far2 (P := w.heap.size + 1) (by omega) (.int .i64 0) (.int .i64 0)
            have e3 := (HP20.b3.far4 (P := w.heap.size) (by omega) (.string (p2 l).1) (.slice a1 ln1 x1) (.int .i64 (p6 l).1) (.slice a2 ln2 x2)).set2 (.int .i64 0) (.int .i64 0)
            have hfr := (((((((Frm.refl [w.heap.size, w.heap.size + 1] w20).grow (gp_set1 _ w.heap.size 0 (.string (p2 l).1)) (fun k e => .inl (by cases e; simp))).grow (gp_set1 _ w.heap.size 1 (.slice a1 ln1 x1)) (fun k e => .inl (by cases e; simp))).grow (gp_set1 _ w.heap.size 2 (.int .i64 (p6 l).1)) (fun k e => .inl (by cases e; simp))).grow (gp_set1 _ w.heap.size 3 (.slice a2 ln2 x2)) (fun k e => .inl (by cases e; simp))).grow (gp_set1 _ (w.heap.size + 1) 0 (.int .i64 0)) (fun k e => .inl (by cases e; simp))).grow (gp_set1 _ (w.heap.size + 1) 1 (.int .i64 0)) (fun k e => .inl (by cases e; simp)))
            have hL9 := hfr.below HP20.hL (fun k hk => by simp at hk; omega)
            have ho9 := own_blk HP20.own (fun g hg hN hlt => hfr.block g hlt (by simp; omega))
            have hf9 := HP20.fi.keep (fun g hN hlt h1 _ => hfr.block g hlt (by simp; omega))
            clear c20 c21 c22 c23 c30 c31 f20 f21 f22 f23 f30 f31 hl2 hl3 d90 d91 d92 d93 hfr HP20 hb20
            generalize (((((w20.setCell ⟨w.heap.size, 0, none⟩ (.string (p2 l).1)).setCell ⟨w.heap.size, 1, none⟩ (.slice a1 ln1 x1)).setCell ⟨w.heap.size, 2, none⟩ (.int .i64 (p6 l).1)).setCell ⟨w.heap.size, 3, none⟩ (.slice a2 ln2 x2)).setCell ⟨w.heap.size + 1, 0, none⟩ (.int .i64 0)).setCell ⟨w.heap.size + 1, 1, none⟩ (.int .i64 0) = W29 at e2 e3 hL9 ho9 hf9 ⊢
            refine bodyPost_ret (prs_ret _ _ _ _ _ _ _ (0, 0) 0 fr (p3 l).2 rfl rfl rfl e2 e3) rfl ?_
            rw [HR2.out]
            have hs9 := Sl.of_owns ho9
            rw [HV6.out] at hs9
            have hg9 := hf9.fs
            rw [HVF.out] at hg9
            refine ⟨.slice a1 ln1 x1, .slice a2 ln2 x2, rfl, ?_, ?_, hL9⟩
            · show Sl W29 (.slice a1 ln1 x1) (p3 l).2.length 2 (flatC (p3 l).2)
              exact hs9
            · exact hg9
        · have hlen : 0 < r.toks.length := List.length_pos_iff.2 ht
          rw [he] at r3
          have HW := word_any RB TB r kForeign (.slice (some ⟨wr.heap.size, 0, none⟩) 1 1) (wr.alloc (.cells #[.string ⟨#[102, 111, 114, 101, 105, 103, 110]⟩] 9)) (HP.out.rd.alloc _) (by decide) (fun W hg => lit_far (lit_ss wr kForeign 9 (by decide)) hg (by omega))
          have hk0 : (0 : Int) < (r.toks.length : Int) := by omega
          have HT := Lib.hid ht
          have HE1 := Lib.hid he
          clear ht he hlen
          go_upto_region 19 with (go_at_call 27; (with_reducible refine HW.mono ?_); rintro e w11 ⟨rfl, h11, g11⟩)
          have P11 := ((HP.out.far HK.out (World.grownBy_alloc wr (.cells #[.string ⟨#[102, 111, 114, 101, 105, 103, 110]⟩] 9) none) (.inl rfl)).rdr HK.out g11 h11).re (Nat.le_refl w11.heap.size)
          have hN11 : N ≤ w11.heap.size := by have := g11.size; simp at this; omega
          have HK2 := Lib.hid (show Nums w.heap.size N TB RB B8 B9 w11.heap.size from ⟨HK.out.r, HK.out.t, .inr hN11⟩)
          have hvl := P11.fi.lt
          have P12 := P11.far HK2.out (World.grownBy_alloc w11 (.cells #[.slice none 0 0, .string ⟨#[]⟩] 50) none) (.inl rfl)
          have b13 := Bx.new w11 50 #[.slice none 0 0, .string ⟨#[]⟩]
          have hN12 : w11.heap.size < (w11.alloc (.cells #[.slice none 0 0, .string ⟨#[]⟩] 50)).heap.size := by simp
          clear HW h11 g11 P11 c8 r0 r1 r2 r3 hk0
          go_upto_region 20 with fail
          generalize w11.alloc (.cells #[.slice none 0 0, .string ⟨#[]⟩] 50) = W12 at P12 b13 hN12 ⊢
          generalize w11.heap.size = K2 at *
          have c8 := P12.b8.cell 0 _ rfl
          have hq5 : (frQ r) = lstR frnIt ((wordR r kForeign).2, []) := rfl
          have HL : Calls Tryd.prog 29 #[.pointer (some ⟨RB, 0, none⟩), .func (.func 35) #[] #[.pointer (some ⟨K2, 0, none⟩), .pointer (some ⟨B8, 0, none⟩)]] W12 fun e w' => e = .returned (.tuple #[]) ∧ FrnI W12 TB RB B8 K2 (frQ r).1 (frQ r).2 w' ∧ W12.heap.size ≤ w'.heap.size :=
            list_any 35 enter_p2 (.pointer (some ⟨K2, 0, none⟩)) (.pointer (some ⟨B8, 0, none⟩)) RB TB frnIt (FrnI W12 TB RB B8 K2) (fun r x W h => h.1) (fun r x W r' W' h hg hr h1 h2 => FrnI.step (by omega) ⟨by omega, by omega⟩ r x W r' W' h hg hr h1 h2)
              (fun r x W h he => frn_any W12 TB RB B8 K2 ⟨by omega, by omega, by omega, by omega⟩ ⟨by omega, by omega, by omega, by omega⟩ r x W he h) frnIt_len (wordR r kForeign).2 [] W12
              ⟨P12.rd, P12.b8, ⟨_, b13, World.ownsRow_nil _ _ _ _⟩, Frm.refl _ _, by
                have h1 := wordR_len r kForeign
                exact ⟨fun _ => by have := hB.2; have := hB.1 HE1.out; simp; omega, by have := hB.2; simp; omega⟩⟩
          have HP12 := Lib.hid P12
          clear P12 b13 hq5
          go_upto_region 21 with (go_at_call 29; (with_reducible refine HL.mono ?_); rintro e w13 ⟨rfl, h13, g13⟩)
          obtain ⟨r13, b813, ⟨v13, b13, own13⟩, f13, _⟩ := h13
          have P13 := HP12.out.keep HK2.out f13 r13
          clear HL HP12 r13 b813 f13 c8
          have c8 := P13.b8.cell 0 _ rfl
          have HNM := pname_any RB TB (frQ r).1 w13 P13.rd
          have hv1 : v13.ownBlock ≠ some RB := fun e => by have := (own13.lt _ e).1; omega
          have hv2 : v13.ownBlock ≠ some K2 := fun e => by have := (own13.lt _ e).1; omega
          have hv3 : v13.ownBlock = none ∨ v13.ownBlock ≠ vf.ownBlock := by
            by_cases e : v13.ownBlock = none
            · exact .inl e
            · refine .inr fun e2 => ?_
              obtain ⟨g, hg⟩ := Option.ne_none_iff_exists'.1 e
              have := (own13.lt g hg).1
              have := (hvl g (by rw [← e2]; exact hg)).2
              omega
          have hKR : ¬ K2 = RB := by omega
          have HO13 := Lib.hid own13
          have HB13 := Lib.hid b13
          have HP13 := Lib.hid P13
          have HV := Lib.hid (And.intro hv1 (And.intro hv2 hv3))
          clear own13 b13 P13 hv1 hv2 hv3 hvl
          go_upto_region 22 with (go_at_call 28; (with_reducible refine HNM.mono ?_); rintro e w14 ⟨rfl, h14, g14⟩; have b14 := HB13.out.far g14 (by simpa using hKR); have c14 := b14.cell 1 _ rfl; have f14 := b14.frozen 1; have l14 := b14.lt)
          have P14 := HP13.out.rdr HK2.out g14 h14
          have own14 := HO13.out.kept g14 (.inr HV.out.1)
          have P15 := P14.far HK2.out (gp_set1 w14 K2 1 (.string (nameR (frQ r).1).1)) (.inr ⟨rfl, hN11⟩)
          have b15 : Bx (w14.setCell ⟨K2, 1, none⟩ (.string (nameR (frQ r).1).1)) K2 50 #[v13, .string (nameR (frQ r).1).1] := b14.sett 1 _ (by simp) rfl
          have own15 := own14.kept (gp_set1 w14 K2 1 (.string (nameR (frQ r).1).1)) (.inr HV.out.2.1)
          have hN15 : N ≤ (w14.setCell ⟨K2, 1, none⟩ (.string (nameR (frQ r).1).1)).heap.size := by have := g14.size; simp; omega
          clear HNM h14 g14 P14 own14 b14 c14 f14 l14 HP13 HB13 HO13 c8
          generalize w14.setCell ⟨K2, 1, none⟩ (.string (nameR (frQ r).1).1) = W15 at P15 b15 own15 hN15 ⊢
          obtain ⟨ls, l1, l2, l3, _, l5⟩ := P15.fi
          have hll : ls.length = fr.length := by rw [← l1, List.length_map]
          have c15 := b15.cell 0 _ rfl
          have d15 := b15.cell 1 _ rfl
          have m15 := b15.lt
          have c95 := P15.b9.cell 3 _ rfl
          have m95 := P15.b9.lt
          have hv13 := own_one own15
          have hvB : some B9 ≠ vf.ownBlock := fun e => by have := (l2.lt _ e.symm).1; omega
          obtain ⟨ii, hi, hz0', hz1', hz2'⟩ := info_parts infoF
          have hbd := hB.1 HE1.out
          have HP15 := Lib.hid P15
          have HLS := Lib.hid (And.intro l1 (And.intro l2 (And.intro l3 l5)))
          have HO15 := Lib.hid (own_le own15 (show N ≤ W12.heap.size by omega))
          have HVB := Lib.hid hvB
          clear P15 l1 l2 l3 l5 own15 b15 hvB
          go_wp2_with (at_builtin; go_must (refine wpList_app3 (wX := W15) N (by omega) rfl (.tmp 84) (.tmp 86) 23 rfl 50 Tryd.underlying23 hi hz0' hz1' hz2' rfl (by decide) vf ls.length (cellsF ls) rfl [v13, .string (nameR (frQ r).1).1] 50 HLS.out.2.1 rfl (by simp) rfl (by intro u hu; simp at hu; rcases hu with rfl | rfl; exact hv13; rfl) (by unfold maxLen; omega) (by omega) ?_); intro g1 cap1 w16 hown16 hgr hG; have b16 := HP15.out.b9.far hgr HVB.out; have n1 := b16.cell 3 _ rfl; have n2 := b16.frozen 3; have n3 := b16.lt)
          go_roundw
          case rel =>
            have P17 := HP15.out.app HK2.out m15 hN11 (f := ⟨(frQ r).2, (nameR (frQ r).1).1⟩) HO15.out HV.out.2.1 HV.out.2.2 ls HLS.out.1 HLS.out.2.2.1 HLS.out.2.2.2 hown16 hgr hG
            rw [hll] at P17
            exact ⟨K2, (frS (r, fr)).1, (frS (r, fr)).2, _, Lib.hid P17, HK2, by have := hgr.size; simp; omega, Lib.hid (by rw [← HF.out, frR_go (r, fr) ⟨HE1.out, HT.out⟩]), Bnd.frS (s := (r, fr)) hB HE1.out⟩
          case measure =>
            have P17 := HP15.out.app HK2.out m15 hN11 (f := ⟨(frQ r).2, (nameR (frQ r).1).1⟩) HO15.out HV.out.2.1 HV.out.2.2 ls HLS.out.1 HLS.out.2.2.1 HLS.out.2.2.2 hown16 hgr hG
            rw [hll] at P17
            rw [P17.rd.m, hm.out, if_pos HE1.out]
            split
            · rename_i h5
              have := (frS_dec (r, fr) h5).2
              have h6 : (frS (r, fr)).1 = (nameR (frQ r).1).2 := rfl
              rw [h6] at this
              dsimp only at this
              omega
            · omega
      · have he2 : (r.e == 0) = false := by simpa using he
        have he3 : (r.e != 0) = true := by simpa using he
        have HE := Lib.hid ((frR_end (r, fr) (fun h => he h.1)).symm.trans HF.out)
        have HR2 := Lib.hid (show R = (sch0, r.p, r.e) by rw [HR.out, if_pos (by rw [← HE.out]; exact he), ← HE.out])
        have c20 := HP.out.b2.cell 0 _ rfl
        have c21 := HP.out.b2.cell 1 _ rfl
        have c22 := HP.out.b2.cell 2 _ rfl
        have c23 := HP.out.b2.cell 3 _ rfl
        have f20 := HP.out.b2.frozen 0
        have f21 := HP.out.b2.frozen 1
        have f22 := HP.out.b2.frozen 2
        have f23 := HP.out.b2.frozen 3
        have c30 := HP.out.b3.cell 0 _ rfl
        have c31 := HP.out.b3.cell 1 _ rfl
        have f30 := HP.out.b3.frozen 0
        have f31 := HP.out.b3.frozen 1
        have hl3 := HP.out.b3.lt
        have hl2 := HP.out.b2.lt
        go_upto_region 24 with fail
        go_region
        have e2 := (HP.out.b2.set4 (.string ⟨#[]⟩) (.slice none 0 0) (.int .i64 0) (.slice none 0 0)).far2 (P := w.heap.size + 1) (by omega) (.int .i64 r.p.1) (.int .i64 r.p.2)
        have e3 := (HP.out.b3.far4 (P := w.heap.size) (by omega) (.string ⟨#[]⟩) (.slice none 0 0) (.int .i64 0) (.slice none 0 0)).set2 (.int .i64 r.p.1) (.int .i64 r.p.2)
        have hL8 := HP.out.hL
        have hL9 : Below w.heap.size w ((((((wr.setCell ⟨w.heap.size, 0, none⟩ (.string ⟨#[]⟩)).setCell ⟨w.heap.size, 1, none⟩ (.slice none 0 0)).setCell ⟨w.heap.size, 2, none⟩ (.int .i64 0)).setCell ⟨w.heap.size, 3, none⟩ (.slice none 0 0)).setCell ⟨w.heap.size + 1, 0, none⟩ (.int .i64 r.p.1)).setCell ⟨w.heap.size + 1, 1, none⟩ (.int .i64 r.p.2)) := by go_grown
        generalize (((((wr.setCell ⟨w.heap.size, 0, none⟩ (.string ⟨#[]⟩)).setCell ⟨w.heap.size, 1, none⟩ (.slice none 0 0)).setCell ⟨w.heap.size, 2, none⟩ (.int .i64 0)).setCell ⟨w.heap.size, 3, none⟩ (.slice none 0 0)).setCell ⟨w.heap.size + 1, 0, none⟩ (.int .i64 r.p.1)).setCell ⟨w.heap.size + 1, 1, none⟩ (.int .i64 r.p.2) = W29 at e2 e3 hL9 ⊢
        clear c20 c21 c22 c23 c30 c31 f20 f21 f22 f23 f30 f31 hl2 hl3
        go_wp2
        refine bodyPost_ret (prs_ret _ _ _ _ _ _ _ r.p r.e [] [] rfl rfl rfl e2 e3) rfl ?_
        rw [HR2.out]
        exact ⟨_, _, rfl, Sl.mk0 .., FsAt.nil .., Va.bdrew hL9⟩
theorem parse_any (s : ByteArray) (w : World) : Calls Tryd.prog 9 #[.string s] w (PrsP w (prsS s).1 (prsS s).2.1 (prsS s).2.2) := by
  by_cases hs : 65536 < s.size
  · have e : prsS s = (sch0, (0, 0), 5) := by unfold prsS; rw [if_pos hs]
    rw [e]
    exact parse_big s w hs
  · by_cases h0 : (tokS s).2.2 = 0
    · exact parse_go s w (by omega) h0
    · have e : prsS s = (sch0, (tokS s).2.1, (tokS s).2.2) := by unfold prsS; rw [if_neg hs, if_pos h0]
      rw [e]
      exact parse_tok s w (by omega) h0
end Go.Proofs.YtokbipfkpojflaaDoor.Sc
