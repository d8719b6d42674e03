/-
  The walks of the reference's reader: next, fail, word, name, more (layer 34). The walks of the reference's reader: name, more (layer 34). The walks of the reference's reader: name, more (layer 34). The reference's Parse: the plain law (its lists are those of Parse, where no error was found) (layer 34). The reference's Parse: what stands in memory (layer 34). (Written by merge.py: Sb3 Sb4 Sb5 Sb6 Sb7.)
-/
import Derived.Test.YtokbipfkpojflaaSb2
import Derived.Test.YtokbipfkpojflaaScQ
import Derived.Test.YtokbipfkpojflaaSw
set_option linter.unusedSimpArgs false
set_option linter.unusedVariables false
namespace Go.Proofs.Ytokbipfkpojflaa.Sc
open Go Go.RowKit Go.ChangeShapes Go.WideShapes Go.Proofs.Ytokbipfkpojflaa.Sl Go.Lib
open Go.Proofs.Ytokbipfkpojflaa.Lx (Tok tokV cellsT cellsT_len cellsT_app cellsT_one)

theorem rnextQ (L : List Tok) (a : Option Addr) (n c i : Nat) (r : Rd) (w : World) (hn : n = L.length) (h6 : n ≤ 1000000) (ht : Ts w (.slice a n c) L) (hq : RQ L i r) : Calls Try.prog 72 #[rdV a n c i r.p r.e] w fun x w' => ∃ i', x = .returned (.tuple #[.string (nextR r).1.1, rdV a n c i' (nextR r).2.p (nextR r).2.e]) ∧ RQ L i' (nextR r).2 ∧ ((nextR r).2.e = 0 → LstT L i' (nextR r).1) ∧ Below w.heap.size w w' := by
  obtain ⟨toks, p, e⟩ := r
  obtain ⟨h1, h2⟩ := hq
  dsimp only at h2
  subst h2
  by_cases he : e = 0
  · subst he
    by_cases hi : i = n
    · subst hi
      have e1 : nextR ⟨L.drop i, p, 0⟩ = (tok0, ⟨[], p, 4⟩) := by
        unfold nextR
        rw [if_pos rfl]
        dsimp only
        rw [List.drop_of_length_le (by omega)]
      rw [e1]
      refine (rnext_end a i c p w).mono ?_
      rintro x w' ⟨rfl, hb⟩
      exact ⟨i, rfl, ⟨h1, (List.drop_of_length_le (by omega)).symm⟩, fun h => by simp at h, hb⟩
    · have hlt : i < L.length := by omega
      obtain ⟨t, htk⟩ : ∃ t, L[i]? = some t := ⟨_, List.getElem?_eq_getElem hlt⟩
      have e1 : nextR ⟨L.drop i, p, 0⟩ = (t, ⟨L.drop (i + 1), p, 0⟩) := by
        unfold nextR
        rw [if_pos rfl]
        dsimp only
        rw [List.drop_eq_getElem_cons hlt, (List.getElem?_eq_some_iff.1 htk).2]
      rw [e1]
      obtain ⟨g, off, cp, e2, _⟩ := (hn ▸ ht : Ts w (.slice a L.length c) L).1.open (by omega)
      simp only [Value.slice.injEq] at e2
      obtain ⟨rfl, _, rfl⟩ := e2
      refine (rnext_ok g off n c i p t.1 w (by omega) h6 (ts_at ht hn htk).1).mono ?_
      rintro x w' ⟨rfl, hb⟩
      exact ⟨i + 1, rfl, ⟨by omega, rfl⟩, fun _ => ⟨by omega, by simpa using htk⟩, hb⟩
  · have e1 : nextR ⟨L.drop i, p, e⟩ = (tok0, ⟨L.drop i, p, e⟩) := by unfold nextR; rw [if_neg he]
    rw [e1]
    refine (rnext_err a n c i p e w he).mono ?_
    rintro x w' ⟨rfl, hb⟩
    exact ⟨i, rfl, ⟨h1, rfl⟩, fun h => absurd h he, hb⟩
theorem rfailQ (L : List Tok) (a : Option Addr) (n c i : Nat) (r : Rd) (t : Tok) (x : Int) (w : World) (hn : n = L.length) (h6 : n ≤ 1000000) (ht : Ts w (.slice a n c) L) (hq : RQ L i r) (hl : r.e = 0 → LstT L i t) : Calls Try.prog 74 #[rdV a n c i r.p r.e, .int .i64 x] w fun y w' => y = .returned (rdV a n c i (failR r t x).p (failR r t x).e) ∧ RQ L i (failR r t x) ∧ Below w.heap.size w w' := by
  have hq2 : RQ L i (failR r t x) := ⟨hq.1, by rw [failR_toks]; exact hq.2⟩
  obtain ⟨toks, p, e⟩ := r
  by_cases he : e = 0
  · subst he
    obtain ⟨h1, h2⟩ := hl rfl
    have hi := hq.1
    obtain ⟨g, off, cp, e2, _⟩ := (hn ▸ ht : Ts w (.slice a L.length c) L).1.open (by omega)
    simp only [Value.slice.injEq] at e2
    obtain ⟨rfl, _, rfl⟩ := e2
    obtain ⟨_, k1, k2⟩ := ts_at ht hn h2
    refine (rfail_ok g off n c i p t.2 x w h1 (by omega) h6 k1 k2).mono ?_
    rintro y w' ⟨rfl, hb⟩
    exact ⟨rfl, hq2, hb⟩
  · have e1 : failR ⟨toks, p, e⟩ t x = ⟨toks, p, e⟩ := by unfold failR; rw [if_neg he]
    rw [e1] at hq2 ⊢
    refine (rfail_err a n c i p e x w he).mono ?_
    rintro y w' ⟨rfl, hb⟩
    exact ⟨rfl, hq2, hb⟩
theorem Bx.far5 {w : World} {B P : Nat} {t : TypeId} {cs : Array Value} (h : Bx w B t cs) (hne : B ≠ P) (x0 x1 x2 x3 x4 : Value) : Bx (((((w.setCell ⟨P, 0, none⟩ x0).setCell ⟨P, 1, none⟩ x1).setCell ⟨P, 2, none⟩ x2).setCell ⟨P, 3, none⟩ x3).setCell ⟨P, 4, none⟩ x4) B t cs :=
  ((((h.setFar P 0 x0 hne).setFar P 1 x1 hne).setFar P 2 x2 hne).setFar P 3 x3 hne).setFar P 4 x4 hne
theorem ret_word (W : World) (S : Nat) (t : Array Value) (a0 a1 a2 a3 a4 : Value) (h3 : t.getD 4 undef = .pointer (some ⟨S, 0, none⟩)) (b2 : Bx W S 108 #[a0, a1, a2, a3, a4]) : (results Try.f70 t).run Try.prog W = .ok (.agg #[a0, a1, a2, a3, a4]) W := by
  have c20 := b2.cell 0 _ rfl
  have c21 := b2.cell 1 _ rfl
  have c22 := b2.cell 2 _ rfl
  have c23 := b2.cell 3 _ rfl
  have c24 := b2.cell 4 _ rfl
  have g3 : t[4]?.getD undef = .pointer (some ⟨S, 0, none⟩) := by simpa using h3
  clear b2 h3
  simp [results, Try.results70, go_sem, g3, c20, c21, c22, c23, c24]
set_option maxRecDepth 20000 in
set_option maxHeartbeats 4000000 in
theorem rwordQ (L : List Tok) (a : Option Addr) (n c i : Nat) (r : Rd) (s : ByteArray) (w : World) (hn : n = L.length) (h6 : n ≤ 1000000) (ht : Ts w (.slice a n c) L) (hq : RQ L i r) : Calls Try.prog 70 #[rdV a n c i r.p r.e, .string s] w fun y w' => ∃ i', y = .returned (rdV a n c i' (wordR r [s]).2.p (wordR r [s]).2.e) ∧ RQ L i' (wordR r [s]).2 ∧ Below w.heap.size w w' := by
  have HN := fun W (h : Below w.heap.size w W) => rnextQ L a n c i r W hn h6 (ht.below h) hq
  have HF := fun W i' t (h : Below w.heap.size w W) (hq' : RQ L i' (nextR r).2) (hl : (nextR r).2.e = 0 → LstT L i' t) => rfailQ L a n c i' (nextR r).2 t 3 W hn h6 (ht.below h) hq' hl
  have hW : (wordR r [s]).2 = if (nextR r).1.1 = s then (nextR r).2 else failR (nextR r).2 (nextR r).1 3 := by
    unfold wordR
    dsimp only
    by_cases h : (nextR r).1.1 = s
    · rw [if_pos h, if_pos (by rw [Lib.containsS_iff]; simp [h])]
    · rw [if_neg h, if_neg (by rw [Lib.containsS_iff]; simp [h])]
  have HW := Lib.hid hW
  clear hW
  generalize (wordR r [s]).2 = R at HW ⊢
  obtain ⟨t, ht1⟩ : ∃ t, t = (nextR r).1 := ⟨_, rfl⟩
  obtain ⟨r1, hr1⟩ : ∃ r1, r1 = (nextR r).2 := ⟨_, rfl⟩
  rw [← ht1, ← hr1] at HW HN
  rw [← hr1] at HF
  replace HF := fun W i' h hq' hl => HF W i' t h hq' hl
  obtain ⟨p, hp⟩ : ∃ p, p = r.p := ⟨_, rfl⟩
  obtain ⟨e, he⟩ : ∃ e, e = r.e := ⟨_, rfl⟩
  rw [← hp, ← he] at HN ⊢
  obtain ⟨tx, tp⟩ := t
  obtain ⟨tk1, pa, ea⟩ := r1
  clear ht1 hr1 hp he hq ht hn
  have HFH := Lib.hid HF
  clear HF
  dsimp only at HN
  unfold rdV at HN ⊢
  go_enter Try.func70, Try.ntmps70
  go_upto_region 1 with fail
  obtain ⟨W0, hW⟩ : ∃ W0, (w.alloc (.cells #[.slice a n c, .int .i64 i, .int .i64 p.1, .int .i64 p.2, .int .i64 e] 108)).alloc (.cells #[.slice none 0 0, .int .i64 0, .int .i64 0, .int .i64 0, .int .i64 0] 108) = W0 := ⟨_, rfl⟩
  obtain ⟨b1, b2, hL⟩ := two5 hW
  rw [hW]
  clear hW
  generalize hBB : w.heap.size = B at b1 b2 ⊢
  have HBB := Lib.hid hBB
  have hlt := b1.lt
  have hlt2 := b2.lt
  have HB1 := Lib.hid b1
  have p0 := b1.cell 0 _ rfl
  have p1 := b1.cell 1 _ rfl
  have p2 := b1.cell 2 _ rfl
  have p3 := b1.cell 3 _ rfl
  have p4 := b1.cell 4 _ rfl
  have q0 := b2.cell 0 _ rfl
  have q1 := b2.cell 1 _ rfl
  have q2 := b2.cell 2 _ rfl
  have q3 := b2.cell 3 _ rfl
  have q4 := b2.cell 4 _ rfl
  have f0 := b2.frozen 0
  have f1 := b2.frozen 1
  have f2 := b2.frozen 2
  have f3 := b2.frozen 3
  have f4 := b2.frozen 4
  have HB2 := Lib.hid b2
  have HL := Lib.hid hL
  clear b1 b2 hBB
  go_upto_region 2 with (go_at_call 72; (with_reducible refine (HN _ hL).mono ?_); rintro x w1 ⟨i', rfl, hq1, hl1, hb1⟩; have HQ1 := Lib.hid hq1; have HL1 := Lib.hid hl1; clear hq1 hl1; have c10 := (HB1.out.below hb1).cell 0 _ rfl; have c11 := (HB1.out.below hb1).cell 1 _ rfl; have c12 := (HB1.out.below hb1).cell 2 _ rfl; have c13 := (HB1.out.below hb1).cell 3 _ rfl; have c14 := (HB1.out.below hb1).cell 4 _ rfl; have f10 := (HB1.out.below hb1).frozen 0; have f11 := (HB1.out.below hb1).frozen 1; have f12 := (HB1.out.below hb1).frozen 2; have f13 := (HB1.out.below hb1).frozen 3; have f14 := (HB1.out.below hb1).frozen 4)
  have hlt1 := (HB1.out.below hb1).lt
  have b15 := (HB1.out.below hb1).set5 (.slice a n c) (.int .i64 i') (.int .i64 pa.1) (.int .i64 pa.2) (.int .i64 ea)
  have b25 := (HB2.out.below hb1).far5 (P := B) (by omega) (.slice a n c) (.int .i64 i') (.int .i64 pa.1) (.int .i64 pa.2) (.int .i64 ea)
  have hL5 := below5 (P := B) (bstep hL hb1) (by have := HBB.out; omega) (.slice a n c) (.int .i64 i') (.int .i64 pa.1) (.int .i64 pa.2) (.int .i64 ea)
  clear c10 c11 c12 c13 c14 f10 f11 f12 f13 f14 p0 p1 p2 p3 p4 q0 q1 q2 q3 q4 f0 f1 f2 f3 f4 HL HB1 HB2 hb1 hL HN hlt hlt2 hlt1
  generalize ((((w1.setCell ⟨B, 0, none⟩ (.slice a n c)).setCell ⟨B, 1, none⟩ (.int .i64 i')).setCell ⟨B, 2, none⟩ (.int .i64 pa.1)).setCell ⟨B, 3, none⟩ (.int .i64 pa.2)).setCell ⟨B, 4, none⟩ (.int .i64 ea) = W5 at *
  have b1 := b15
  have b2 := b25
  have hL := hL5
  have hlt := b1.lt
  have hlt2 := b2.lt
  have HB1 := Lib.hid b1
  have p0 := b1.cell 0 _ rfl
  have p1 := b1.cell 1 _ rfl
  have p2 := b1.cell 2 _ rfl
  have p3 := b1.cell 3 _ rfl
  have p4 := b1.cell 4 _ rfl
  have q0 := b2.cell 0 _ rfl
  have q1 := b2.cell 1 _ rfl
  have q2 := b2.cell 2 _ rfl
  have q3 := b2.cell 3 _ rfl
  have q4 := b2.cell 4 _ rfl
  have f0 := b2.frozen 0
  have f1 := b2.frozen 1
  have f2 := b2.frozen 2
  have f3 := b2.frozen 3
  have f4 := b2.frozen 4
  have HB2 := Lib.hid b2
  have HL := Lib.hid hL
  clear b1 b2 b15 b25 hL5
  by_cases hs : tx = s
  · have hbb : (tx.toList == s.toList) = true := (Lib.bytes_beq_iff tx s).2 hs
    have HR := Lib.hid (show R = ⟨tk1, pa, ea⟩ by rw [HW.out, if_pos hs])
    clear hs
    go_wp2
    refine bodyPost_ret (ret_word _ _ _ _ _ _ _ _ rfl (HB2.out.set5 _ _ _ _ _)) rfl ?_
    exact ⟨i', by rw [HR.out], by rw [HR.out]; exact HQ1.out, below5 HL.out (by have := HBB.out; omega) _ _ _ _ _⟩
  · have hbb : (tx.toList == s.toList) = false := (Lib.bytes_beq_false_iff tx s).2 hs
    have HR := Lib.hid (show R = failR ⟨tk1, pa, ea⟩ (tx, tp) 3 by rw [HW.out, if_neg hs])
    have HF2 := fun W h => HFH.out W i' h HQ1.out HL1.out
    have hqf : ∀ i'' : Nat, i'' = i' → True := fun _ _ => trivial
    clear hs hqf
    generalize failR ⟨tk1, pa, ea⟩ (tx, tp) 3 = r2 at HR HF2
    obtain ⟨tk2, pb, eb⟩ := r2
    dsimp only at HF2
    unfold rdV at HF2
    go_upto_region 4 with (go_at_call 74; (with_reducible refine (HF2 _ hL).mono ?_); rintro x w2 ⟨rfl, hq2, hb2⟩; have HQ2 := Lib.hid hq2; clear hq2; have c10 := (HB1.out.below hb2).cell 0 _ rfl; have c11 := (HB1.out.below hb2).cell 1 _ rfl; have c12 := (HB1.out.below hb2).cell 2 _ rfl; have c13 := (HB1.out.below hb2).cell 3 _ rfl; have c14 := (HB1.out.below hb2).cell 4 _ rfl; have f10 := (HB1.out.below hb2).frozen 0; have f11 := (HB1.out.below hb2).frozen 1; have f12 := (HB1.out.below hb2).frozen 2; have f13 := (HB1.out.below hb2).frozen 3; have f14 := (HB1.out.below hb2).frozen 4)
    have hlt1 := (HB1.out.below hb2).lt
    have b15 := (HB1.out.below hb2).set5 (.slice a n c) (.int .i64 i') (.int .i64 pb.1) (.int .i64 pb.2) (.int .i64 eb)
    have b25 := (HB2.out.below hb2).far5 (P := B) (by omega) (.slice a n c) (.int .i64 i') (.int .i64 pb.1) (.int .i64 pb.2) (.int .i64 eb)
    have hL5 := below5 (P := B) (bstep hL hb2) (by have := HBB.out; omega) (.slice a n c) (.int .i64 i') (.int .i64 pb.1) (.int .i64 pb.2) (.int .i64 eb)
    clear c10 c11 c12 c13 c14 f10 f11 f12 f13 f14 p0 p1 p2 p3 p4 q0 q1 q2 q3 q4 f0 f1 f2 f3 f4 HL HB1 HB2 hb2 hL hlt hlt2 hlt1
    generalize ((((w2.setCell ⟨B, 0, none⟩ (.slice a n c)).setCell ⟨B, 1, none⟩ (.int .i64 i')).setCell ⟨B, 2, none⟩ (.int .i64 pb.1)).setCell ⟨B, 3, none⟩ (.int .i64 pb.2)).setCell ⟨B, 4, none⟩ (.int .i64 eb) = W6 at *
    have b1 := b15
    have b2 := b25
    have hL := hL5
    have hltx := b1.lt
    have hltx2 := b2.lt
    have p0 := b1.cell 0 _ rfl
    have p1 := b1.cell 1 _ rfl
    have p2 := b1.cell 2 _ rfl
    have p3 := b1.cell 3 _ rfl
    have p4 := b1.cell 4 _ rfl
    have q0 := b2.cell 0 _ rfl
    have q1 := b2.cell 1 _ rfl
    have q2 := b2.cell 2 _ rfl
    have q3 := b2.cell 3 _ rfl
    have q4 := b2.cell 4 _ rfl
    have f0 := b2.frozen 0
    have f1 := b2.frozen 1
    have f2 := b2.frozen 2
    have f3 := b2.frozen 3
    have f4 := b2.frozen 4
    have HB2 := Lib.hid b2
    have HL := Lib.hid hL
    clear b1 b2 b15 b25 hL hL5
    go_wp2
    refine bodyPost_ret (ret_word _ _ _ _ _ _ _ _ rfl (HB2.out.set5 _ _ _ _ _)) rfl ?_
    exact ⟨i', by rw [HR.out], by rw [HR.out]; exact HQ2.out, below5 HL.out (by have := HBB.out; omega) _ _ _ _ _⟩
end Go.Proofs.Ytokbipfkpojflaa.Sc

namespace Go.Proofs.Ytokbipfkpojflaa.Sc
open Go Go.RowKit Go.ChangeShapes Go.WideShapes Go.Proofs.Ytokbipfkpojflaa.Sl Go.Lib
open Go.Proofs.Ytokbipfkpojflaa.Lx (Tok tokV cellsT cellsT_len cellsT_app cellsT_one)

theorem ret_name (W : World) (S : Nat) (t : Array Value) (a0 a1 a2 a3 a4 x : Value) (h2 : t.getD 2 undef = x) (h3 : t.getD 3 undef = .pointer (some ⟨S, 0, none⟩)) (b2 : Bx W S 108 #[a0, a1, a2, a3, a4]) : (results Try.f71 t).run Try.prog W = .ok (.tuple #[x, .agg #[a0, a1, a2, a3, a4]]) W := by
  have c20 := b2.cell 0 _ rfl
  have c21 := b2.cell 1 _ rfl
  have c22 := b2.cell 2 _ rfl
  have c23 := b2.cell 3 _ rfl
  have c24 := b2.cell 4 _ rfl
  have g2 : t[2]?.getD undef = x := by simpa using h2
  have g3 : t[3]?.getD undef = .pointer (some ⟨S, 0, none⟩) := by simpa using h3
  clear b2 h2 h3
  simp [results, Try.results71, go_sem, g2, g3, c20, c21, c22, c23, c24]
set_option maxRecDepth 20000 in
set_option maxHeartbeats 4000000 in
theorem rnameQ (L : List Tok) (a : Option Addr) (n c i : Nat) (r : Rd) (w : World) (hn : n = L.length) (h6 : n ≤ 1000000) (ht : Ts w (.slice a n c) L) (hq : RQ L i r) : Calls Try.prog 71 #[rdV a n c i r.p r.e] w fun y w' => ∃ i', y = .returned (.tuple #[.string (nameR r).1, rdV a n c i' (nameR r).2.p (nameR r).2.e]) ∧ RQ L i' (nameR r).2 ∧ Below w.heap.size w w' := by
  have HN := fun W (h : Below w.heap.size w W) => rnextQ L a n c i r W hn h6 (ht.below h) hq
  have HF := fun W i' t (h : Below w.heap.size w W) (hq' : RQ L i' (nextR r).2) (hl : (nextR r).2.e = 0 → LstT L i' t) => rfailQ L a n c i' (nextR r).2 t 3 W hn h6 (ht.below h) hq' hl
  have hW : (nameR r).2 = if nmB (nextR r).1.1 = true then (nextR r).2 else failR (nextR r).2 (nextR r).1 3 := rfl
  have HW := Lib.hid hW
  clear hW
  have hW1 : (nameR r).1 = (nextR r).1.1 := rfl
  rw [hW1]
  clear hW1
  generalize (nameR r).2 = R at HW ⊢
  obtain ⟨t, ht1⟩ : ∃ t, t = (nextR r).1 := ⟨_, rfl⟩
  obtain ⟨r1, hr1⟩ : ∃ r1, r1 = (nextR r).2 := ⟨_, rfl⟩
  rw [← ht1, ← hr1] at HW HN
  rw [← ht1]
  rw [← hr1] at HF
  replace HF := fun W i' h hq' hl => HF W i' t h hq' hl
  obtain ⟨p, hp⟩ : ∃ p, p = r.p := ⟨_, rfl⟩
  obtain ⟨e, he⟩ : ∃ e, e = r.e := ⟨_, rfl⟩
  rw [← hp, ← he] at HN ⊢
  obtain ⟨tx, tp⟩ := t
  obtain ⟨tk1, pa, ea⟩ := r1
  clear ht1 hr1 hp he hq ht hn
  have HFH := Lib.hid HF
  clear HF
  dsimp only at HN ⊢
  unfold rdV at HN ⊢
  go_enter Try.func71, Try.ntmps71
  go_upto_region 1 with fail
  obtain ⟨W0, hW⟩ : ∃ W0, (w.alloc (.cells #[.slice a n c, .int .i64 i, .int .i64 p.1, .int .i64 p.2, .int .i64 e] 108)).alloc (.cells #[.slice none 0 0, .int .i64 0, .int .i64 0, .int .i64 0, .int .i64 0] 108) = W0 := ⟨_, rfl⟩
  obtain ⟨b1, b2, hL⟩ := two5 hW
  rw [hW]
  clear hW
  generalize hBB : w.heap.size = B at b1 b2 ⊢
  have HBB := Lib.hid hBB
  have hlt := b1.lt
  have hlt2 := b2.lt
  have HB1 := Lib.hid b1
  have p0 := b1.cell 0 _ rfl
  have p1 := b1.cell 1 _ rfl
  have p2 := b1.cell 2 _ rfl
  have p3 := b1.cell 3 _ rfl
  have p4 := b1.cell 4 _ rfl
  have q0 := b2.cell 0 _ rfl
  have q1 := b2.cell 1 _ rfl
  have q2 := b2.cell 2 _ rfl
  have q3 := b2.cell 3 _ rfl
  have q4 := b2.cell 4 _ rfl
  have f0 := b2.frozen 0
  have f1 := b2.frozen 1
  have f2 := b2.frozen 2
  have f3 := b2.frozen 3
  have f4 := b2.frozen 4
  have HB2 := Lib.hid b2
  have HL := Lib.hid hL
  clear b1 b2 hBB
  go_upto_region 2 with (go_at_call 72; (with_reducible refine (HN _ hL).mono ?_); rintro x w1 ⟨i', rfl, hq1, hl1, hb1⟩; have HQ1 := Lib.hid hq1; have HL1 := Lib.hid hl1; clear hq1 hl1; have c10 := (HB1.out.below hb1).cell 0 _ rfl; have c11 := (HB1.out.below hb1).cell 1 _ rfl; have c12 := (HB1.out.below hb1).cell 2 _ rfl; have c13 := (HB1.out.below hb1).cell 3 _ rfl; have c14 := (HB1.out.below hb1).cell 4 _ rfl; have f10 := (HB1.out.below hb1).frozen 0; have f11 := (HB1.out.below hb1).frozen 1; have f12 := (HB1.out.below hb1).frozen 2; have f13 := (HB1.out.below hb1).frozen 3; have f14 := (HB1.out.below hb1).frozen 4)
  have hlt1 := (HB1.out.below hb1).lt
  have b15 := (HB1.out.below hb1).set5 (.slice a n c) (.int .i64 i') (.int .i64 pa.1) (.int .i64 pa.2) (.int .i64 ea)
  have b25 := (HB2.out.below hb1).far5 (P := B) (by omega) (.slice a n c) (.int .i64 i') (.int .i64 pa.1) (.int .i64 pa.2) (.int .i64 ea)
  have hL5 := below5 (P := B) (bstep hL hb1) (by have := HBB.out; omega) (.slice a n c) (.int .i64 i') (.int .i64 pa.1) (.int .i64 pa.2) (.int .i64 ea)
  clear c10 c11 c12 c13 c14 f10 f11 f12 f13 f14 p0 p1 p2 p3 p4 q0 q1 q2 q3 q4 f0 f1 f2 f3 f4 HL HB1 HB2 hb1 hL HN hlt hlt2 hlt1
  generalize ((((w1.setCell ⟨B, 0, none⟩ (.slice a n c)).setCell ⟨B, 1, none⟩ (.int .i64 i')).setCell ⟨B, 2, none⟩ (.int .i64 pa.1)).setCell ⟨B, 3, none⟩ (.int .i64 pa.2)).setCell ⟨B, 4, none⟩ (.int .i64 ea) = W5 at *
  have b1 := b15
  have b2 := b25
  have hL := hL5
  have hlt := b1.lt
  have hlt2 := b2.lt
  have HB1 := Lib.hid b1
  have p0 := b1.cell 0 _ rfl
  have p1 := b1.cell 1 _ rfl
  have p2 := b1.cell 2 _ rfl
  have p3 := b1.cell 3 _ rfl
  have p4 := b1.cell 4 _ rfl
  have q0 := b2.cell 0 _ rfl
  have q1 := b2.cell 1 _ rfl
  have q2 := b2.cell 2 _ rfl
  have q3 := b2.cell 3 _ rfl
  have q4 := b2.cell 4 _ rfl
  have f0 := b2.frozen 0
  have f1 := b2.frozen 1
  have f2 := b2.frozen 2
  have f3 := b2.frozen 3
  have f4 := b2.frozen 4
  have HB2 := Lib.hid b2
  have HL := Lib.hid hL
  clear b1 b2 b15 b25 hL5
  have HNM := fun W => rname_is tx W
  by_cases hs : nmB tx = true
  · rw [hs] at HNM
    have HR := Lib.hid (show R = ⟨tk1, pa, ea⟩ by rw [HW.out, if_pos hs])
    clear hs
    go_wp2_with (go_at_call 47; (with_reducible refine (HNM _).mono ?_); rintro x wn ⟨rfl, rfl⟩)
    go_region
    go_wp2
    refine bodyPost_ret (ret_name _ _ _ _ _ _ _ _ _ rfl rfl (HB2.out.set5 _ _ _ _ _)) rfl ?_
    exact ⟨i', by rw [HR.out]; rfl, by rw [HR.out]; exact HQ1.out, (below5 HL.out (by have := HBB.out; omega) _ _ _ _ _).drew⟩
  · have hs2 : nmB tx = false := by simpa using hs
    rw [hs2] at HNM
    have HR := Lib.hid (show R = failR ⟨tk1, pa, ea⟩ (tx, tp) 3 by rw [HW.out, if_neg (by rw [hs2]; simp)])
    have HF2 := fun W h => HFH.out W i' h HQ1.out HL1.out
    have hqf : ∀ i'' : Nat, i'' = i' → True := fun _ _ => trivial
    clear hs hs2 hqf
    generalize failR ⟨tk1, pa, ea⟩ (tx, tp) 3 = r2 at HR HF2
    obtain ⟨tk2, pb, eb⟩ := r2
    dsimp only at HF2
    unfold rdV at HF2
    go_upto_region 4 with (first | (go_at_call 47; (with_reducible refine (HNM _).mono ?_); rintro x wn ⟨rfl, rfl⟩) | (go_at_call 74; (with_reducible refine (HF2 _ hL).mono ?_); rintro x w2 ⟨rfl, hq2, hb2⟩; have HQ2 := Lib.hid hq2; clear hq2; have c10 := (HB1.out.below hb2).cell 0 _ rfl; have c11 := (HB1.out.below hb2).cell 1 _ rfl; have c12 := (HB1.out.below hb2).cell 2 _ rfl; have c13 := (HB1.out.below hb2).cell 3 _ rfl; have c14 := (HB1.out.below hb2).cell 4 _ rfl; have f10 := (HB1.out.below hb2).frozen 0; have f11 := (HB1.out.below hb2).frozen 1; have f12 := (HB1.out.below hb2).frozen 2; have f13 := (HB1.out.below hb2).frozen 3; have f14 := (HB1.out.below hb2).frozen 4))
    have hlt1 := (HB1.out.below hb2).lt
    have b15 := (HB1.out.below hb2).set5 (.slice a n c) (.int .i64 i') (.int .i64 pb.1) (.int .i64 pb.2) (.int .i64 eb)
    have b25 := (HB2.out.below hb2).far5 (P := B) (by omega) (.slice a n c) (.int .i64 i') (.int .i64 pb.1) (.int .i64 pb.2) (.int .i64 eb)
    have hL5 := below5 (P := B) (bstep hL hb2) (by have := HBB.out; omega) (.slice a n c) (.int .i64 i') (.int .i64 pb.1) (.int .i64 pb.2) (.int .i64 eb)
    clear c10 c11 c12 c13 c14 f10 f11 f12 f13 f14 p0 p1 p2 p3 p4 q0 q1 q2 q3 q4 f0 f1 f2 f3 f4 HL HB1 HB2 hb2 hL hlt hlt2 hlt1
    generalize ((((w2.setCell ⟨B, 0, none⟩ (.slice a n c)).setCell ⟨B, 1, none⟩ (.int .i64 i')).setCell ⟨B, 2, none⟩ (.int .i64 pb.1)).setCell ⟨B, 3, none⟩ (.int .i64 pb.2)).setCell ⟨B, 4, none⟩ (.int .i64 eb) = W6 at *
    have b1 := b15
    have b2 := b25
    have hL := hL5
    have hltx := b1.lt
    have hltx2 := b2.lt
    have p0 := b1.cell 0 _ rfl
    have p1 := b1.cell 1 _ rfl
    have p2 := b1.cell 2 _ rfl
    have p3 := b1.cell 3 _ rfl
    have p4 := b1.cell 4 _ rfl
    have q0 := b2.cell 0 _ rfl
    have q1 := b2.cell 1 _ rfl
    have q2 := b2.cell 2 _ rfl
    have q3 := b2.cell 3 _ rfl
    have q4 := b2.cell 4 _ rfl
    have f0 := b2.frozen 0
    have f1 := b2.frozen 1
    have f2 := b2.frozen 2
    have f3 := b2.frozen 3
    have f4 := b2.frozen 4
    have HB2 := Lib.hid b2
    have HL := Lib.hid hL
    clear b1 b2 b15 b25 hL hL5
    go_region
    go_wp2
    refine bodyPost_ret (ret_name _ _ _ _ _ _ _ _ _ rfl rfl (HB2.out.set5 _ _ _ _ _)) rfl ?_
    exact ⟨i', by rw [HR.out]; rfl, by rw [HR.out]; exact HQ2.out, (below5 HL.out (by have := HBB.out; omega) _ _ _ _ _).drew⟩
end Go.Proofs.Ytokbipfkpojflaa.Sc

namespace Go.Proofs.Ytokbipfkpojflaa.Sc
open Go Go.RowKit Go.ChangeShapes Go.WideShapes Go.Proofs.Ytokbipfkpojflaa.Sl Go.Lib
open Go.Proofs.Ytokbipfkpojflaa.Lx (Tok tokV cellsT cellsT_len cellsT_app cellsT_one)

theorem lit_44 : (⟨#[44]⟩ : ByteArray).toList = [44] := by first | decide | rfl | simp [go_sem]
theorem eq_lit_44 {t : ByteArray} (h : t = ⟨#[44]⟩) : t.toList = [44] := by rw [h]; exact lit_44
theorem ne_lit_44 {t : ByteArray} (h : ¬ t = ⟨#[44]⟩) : ¬ t.toList = [44] := fun e => by
  have := (Lib.bytes_beq_false_iff t ⟨#[44]⟩).2 h
  rw [e, lit_44] at this
  simp at this
theorem lit_41 : (⟨#[41]⟩ : ByteArray).toList = [41] := by first | decide | rfl | simp [go_sem]
theorem eq_lit_41 {t : ByteArray} (h : t = ⟨#[41]⟩) : t.toList = [41] := by rw [h]; exact lit_41
theorem ne_lit_41 {t : ByteArray} (h : ¬ t = ⟨#[41]⟩) : ¬ t.toList = [41] := fun e => by
  have := (Lib.bytes_beq_false_iff t ⟨#[41]⟩).2 h
  rw [e, lit_41] at this
  simp at this
theorem ret_more (W : World) (S : Nat) (t : Array Value) (a0 a1 a2 a3 a4 x : Value) (h2 : t.getD 2 undef = x) (h3 : t.getD 3 undef = .pointer (some ⟨S, 0, none⟩)) (b2 : Bx W S 108 #[a0, a1, a2, a3, a4]) : (results Try.f75 t).run Try.prog W = .ok (.tuple #[x, .agg #[a0, a1, a2, a3, a4]]) W := by
  have c20 := b2.cell 0 _ rfl
  have c21 := b2.cell 1 _ rfl
  have c22 := b2.cell 2 _ rfl
  have c23 := b2.cell 3 _ rfl
  have c24 := b2.cell 4 _ rfl
  have g2 : t[2]?.getD undef = x := by simpa using h2
  have g3 : t[3]?.getD undef = .pointer (some ⟨S, 0, none⟩) := by simpa using h3
  clear b2 h2 h3
  simp [results, Try.results75, go_sem, g2, g3, c20, c21, c22, c23, c24]
set_option maxRecDepth 20000 in
set_option maxHeartbeats 4000000 in
theorem rmoreQ (L : List Tok) (a : Option Addr) (n c i : Nat) (r : Rd) (w : World) (hn : n = L.length) (h6 : n ≤ 1000000) (ht : Ts w (.slice a n c) L) (hq : RQ L i r) : Calls Try.prog 75 #[rdV a n c i r.p r.e] w fun y w' => ∃ i', y = .returned (.tuple #[.bool (decide ((wordR r kMore).1 = ⟨#[44]⟩)), rdV a n c i' (wordR r kMore).2.p (wordR r kMore).2.e]) ∧ RQ L i' (wordR r kMore).2 ∧ Below w.heap.size w w' := by
  have HN := fun W (h : Below w.heap.size w W) => rnextQ L a n c i r W hn h6 (ht.below h) hq
  have HF := fun W i' t (h : Below w.heap.size w W) (hq' : RQ L i' (nextR r).2) (hl : (nextR r).2.e = 0 → LstT L i' t) => rfailQ L a n c i' (nextR r).2 t 3 W hn h6 (ht.below h) hq' hl
  have hW : (wordR r kMore).2 = if (nextR r).1.1 = ⟨#[44]⟩ ∨ (nextR r).1.1 = ⟨#[41]⟩ then (nextR r).2 else failR (nextR r).2 (nextR r).1 3 := by
    unfold wordR kMore
    dsimp only
    by_cases h : (nextR r).1.1 = ⟨#[44]⟩ ∨ (nextR r).1.1 = ⟨#[41]⟩
    · rw [if_pos h, if_pos (by rw [Lib.containsS_iff]; simpa using h)]
    · rw [if_neg h, if_neg (by rw [Lib.containsS_iff]; simpa using h)]
  have HW := Lib.hid hW
  clear hW
  have hW1 : (wordR r kMore).1 = (nextR r).1.1 := rfl
  rw [hW1]
  clear hW1
  generalize (wordR r kMore).2 = R at HW ⊢
  obtain ⟨t, ht1⟩ : ∃ t, t = (nextR r).1 := ⟨_, rfl⟩
  obtain ⟨r1, hr1⟩ : ∃ r1, r1 = (nextR r).2 := ⟨_, rfl⟩
  rw [← ht1, ← hr1] at HW HN
  rw [← ht1]
  rw [← hr1] at HF
  replace HF := fun W i' h hq' hl => HF W i' t h hq' hl
  obtain ⟨p, hp⟩ : ∃ p, p = r.p := ⟨_, rfl⟩
  obtain ⟨e, he⟩ : ∃ e, e = r.e := ⟨_, rfl⟩
  rw [← hp, ← he] at HN ⊢
  obtain ⟨tx, tp⟩ := t
  obtain ⟨tk1, pa, ea⟩ := r1
  clear ht1 hr1 hp he hq ht hn
  have HFH := Lib.hid HF
  clear HF
  dsimp only at HN ⊢
  unfold rdV at HN ⊢
  go_enter Try.func75, Try.ntmps75
  go_upto_region 1 with fail
  obtain ⟨W0, hW⟩ : ∃ W0, (w.alloc (.cells #[.slice a n c, .int .i64 i, .int .i64 p.1, .int .i64 p.2, .int .i64 e] 108)).alloc (.cells #[.slice none 0 0, .int .i64 0, .int .i64 0, .int .i64 0, .int .i64 0] 108) = W0 := ⟨_, rfl⟩
  obtain ⟨b1, b2, hL⟩ := two5 hW
  rw [hW]
  clear hW
  generalize hBB : w.heap.size = B at b1 b2 ⊢
  have HBB := Lib.hid hBB
  have hlt := b1.lt
  have hlt2 := b2.lt
  have HB1 := Lib.hid b1
  have p0 := b1.cell 0 _ rfl
  have p1 := b1.cell 1 _ rfl
  have p2 := b1.cell 2 _ rfl
  have p3 := b1.cell 3 _ rfl
  have p4 := b1.cell 4 _ rfl
  have q0 := b2.cell 0 _ rfl
  have q1 := b2.cell 1 _ rfl
  have q2 := b2.cell 2 _ rfl
  have q3 := b2.cell 3 _ rfl
  have q4 := b2.cell 4 _ rfl
  have f0 := b2.frozen 0
  have f1 := b2.frozen 1
  have f2 := b2.frozen 2
  have f3 := b2.frozen 3
  have f4 := b2.frozen 4
  have HB2 := Lib.hid b2
  have HL := Lib.hid hL
  clear b1 b2 hBB
  go_upto_region 2 with (go_at_call 72; (with_reducible refine (HN _ hL).mono ?_); rintro x w1 ⟨i', rfl, hq1, hl1, hb1⟩; have HQ1 := Lib.hid hq1; have HL1 := Lib.hid hl1; clear hq1 hl1; have c10 := (HB1.out.below hb1).cell 0 _ rfl; have c11 := (HB1.out.below hb1).cell 1 _ rfl; have c12 := (HB1.out.below hb1).cell 2 _ rfl; have c13 := (HB1.out.below hb1).cell 3 _ rfl; have c14 := (HB1.out.below hb1).cell 4 _ rfl; have f10 := (HB1.out.below hb1).frozen 0; have f11 := (HB1.out.below hb1).frozen 1; have f12 := (HB1.out.below hb1).frozen 2; have f13 := (HB1.out.below hb1).frozen 3; have f14 := (HB1.out.below hb1).frozen 4)
  have hlt1 := (HB1.out.below hb1).lt
  have b15 := (HB1.out.below hb1).set5 (.slice a n c) (.int .i64 i') (.int .i64 pa.1) (.int .i64 pa.2) (.int .i64 ea)
  have b25 := (HB2.out.below hb1).far5 (P := B) (by omega) (.slice a n c) (.int .i64 i') (.int .i64 pa.1) (.int .i64 pa.2) (.int .i64 ea)
  have hL5 := below5 (P := B) (bstep hL hb1) (by have := HBB.out; omega) (.slice a n c) (.int .i64 i') (.int .i64 pa.1) (.int .i64 pa.2) (.int .i64 ea)
  clear c10 c11 c12 c13 c14 f10 f11 f12 f13 f14 p0 p1 p2 p3 p4 q0 q1 q2 q3 q4 f0 f1 f2 f3 f4 HL HB1 HB2 hb1 hL HN hlt hlt2 hlt1
  generalize ((((w1.setCell ⟨B, 0, none⟩ (.slice a n c)).setCell ⟨B, 1, none⟩ (.int .i64 i')).setCell ⟨B, 2, none⟩ (.int .i64 pa.1)).setCell ⟨B, 3, none⟩ (.int .i64 pa.2)).setCell ⟨B, 4, none⟩ (.int .i64 ea) = W5 at *
  have b1 := b15
  have b2 := b25
  have hL := hL5
  have hlt := b1.lt
  have hlt2 := b2.lt
  have HB1 := Lib.hid b1
  have p0 := b1.cell 0 _ rfl
  have p1 := b1.cell 1 _ rfl
  have p2 := b1.cell 2 _ rfl
  have p3 := b1.cell 3 _ rfl
  have p4 := b1.cell 4 _ rfl
  have q0 := b2.cell 0 _ rfl
  have q1 := b2.cell 1 _ rfl
  have q2 := b2.cell 2 _ rfl
  have q3 := b2.cell 3 _ rfl
  have q4 := b2.cell 4 _ rfl
  have f0 := b2.frozen 0
  have f1 := b2.frozen 1
  have f2 := b2.frozen 2
  have f3 := b2.frozen 3
  have f4 := b2.frozen 4
  have HB2 := Lib.hid b2
  have HL := Lib.hid hL
  clear b1 b2 b15 b25 hL5
  by_cases hs : tx = ⟨#[44]⟩
  · have hbb : tx.toList = [44] := eq_lit_44 hs
    have HR := Lib.hid (show R = ⟨tk1, pa, ea⟩ by rw [HW.out, if_pos (.inl hs)])
    have HD := Lib.hid (decide_eq_true hs)
    clear hs
    go_wp2
    go_region
    go_wp2
    refine bodyPost_ret (ret_more _ _ _ _ _ _ _ _ _ rfl rfl (HB2.out.set5 _ _ _ _ _)) rfl ?_
    exact ⟨i', by rw [HR.out, HD.out]; rfl, by rw [HR.out]; exact HQ1.out, (below5 HL.out (by have := HBB.out; omega) _ _ _ _ _).drew⟩
  by_cases hs3 : tx = ⟨#[41]⟩
  · have hbb : ¬ tx.toList = [44] := ne_lit_44 hs
    have hbb2 : tx.toList = [41] := eq_lit_41 hs3
    have HR := Lib.hid (show R = ⟨tk1, pa, ea⟩ by rw [HW.out, if_pos (.inr hs3)])
    have HD := Lib.hid (decide_eq_false hs)
    clear hs3
    clear hs
    go_wp2
    go_region
    go_wp2
    refine bodyPost_ret (ret_more _ _ _ _ _ _ _ _ _ rfl rfl (HB2.out.set5 _ _ _ _ _)) rfl ?_
    exact ⟨i', by rw [HR.out, HD.out]; rfl, by rw [HR.out]; exact HQ1.out, (below5 HL.out (by have := HBB.out; omega) _ _ _ _ _).drew⟩
  · have hbb : (tx.toList == [44]) = false := by simpa using ne_lit_44 hs
    have hbb2 : (tx.toList == [41]) = false := by simpa using ne_lit_41 hs3
    have HD := Lib.hid (decide_eq_false hs)
    have HR := Lib.hid (show R = failR ⟨tk1, pa, ea⟩ (tx, tp) 3 by rw [HW.out, if_neg (by rintro (h | h); exact hs h; exact hs3 h)])
    have HF2 := fun W h => HFH.out W i' h HQ1.out HL1.out
    have hqf : ∀ i'' : Nat, i'' = i' → True := fun _ _ => trivial
    clear hs hs3 hqf
    generalize failR ⟨tk1, pa, ea⟩ (tx, tp) 3 = r2 at HR HF2
    obtain ⟨tk2, pb, eb⟩ := r2
    dsimp only at HF2
    unfold rdV at HF2
    go_upto_region 4 with (go_at_call 74; (with_reducible refine (HF2 _ hL).mono ?_); rintro x w2 ⟨rfl, hq2, hb2⟩; have HQ2 := Lib.hid hq2; clear hq2; have c10 := (HB1.out.below hb2).cell 0 _ rfl; have c11 := (HB1.out.below hb2).cell 1 _ rfl; have c12 := (HB1.out.below hb2).cell 2 _ rfl; have c13 := (HB1.out.below hb2).cell 3 _ rfl; have c14 := (HB1.out.below hb2).cell 4 _ rfl; have f10 := (HB1.out.below hb2).frozen 0; have f11 := (HB1.out.below hb2).frozen 1; have f12 := (HB1.out.below hb2).frozen 2; have f13 := (HB1.out.below hb2).frozen 3; have f14 := (HB1.out.below hb2).frozen 4)
    have hlt1 := (HB1.out.below hb2).lt
    have b15 := (HB1.out.below hb2).set5 (.slice a n c) (.int .i64 i') (.int .i64 pb.1) (.int .i64 pb.2) (.int .i64 eb)
    have b25 := (HB2.out.below hb2).far5 (P := B) (by omega) (.slice a n c) (.int .i64 i') (.int .i64 pb.1) (.int .i64 pb.2) (.int .i64 eb)
    have hL5 := below5 (P := B) (bstep hL hb2) (by have := HBB.out; omega) (.slice a n c) (.int .i64 i') (.int .i64 pb.1) (.int .i64 pb.2) (.int .i64 eb)
    clear c10 c11 c12 c13 c14 f10 f11 f12 f13 f14 p0 p1 p2 p3 p4 q0 q1 q2 q3 q4 f0 f1 f2 f3 f4 HL HB1 HB2 hb2 hL hlt hlt2 hlt1
    generalize ((((w2.setCell ⟨B, 0, none⟩ (.slice a n c)).setCell ⟨B, 1, none⟩ (.int .i64 i')).setCell ⟨B, 2, none⟩ (.int .i64 pb.1)).setCell ⟨B, 3, none⟩ (.int .i64 pb.2)).setCell ⟨B, 4, none⟩ (.int .i64 eb) = W6 at *
    have b1 := b15
    have b2 := b25
    have hL := hL5
    have hltx := b1.lt
    have hltx2 := b2.lt
    have p0 := b1.cell 0 _ rfl
    have p1 := b1.cell 1 _ rfl
    have p2 := b1.cell 2 _ rfl
    have p3 := b1.cell 3 _ rfl
    have p4 := b1.cell 4 _ rfl
    have q0 := b2.cell 0 _ rfl
    have q1 := b2.cell 1 _ rfl
    have q2 := b2.cell 2 _ rfl
    have q3 := b2.cell 3 _ rfl
    have q4 := b2.cell 4 _ rfl
    have f0 := b2.frozen 0
    have f1 := b2.frozen 1
    have f2 := b2.frozen 2
    have f3 := b2.frozen 3
    have f4 := b2.frozen 4
    have HB2 := Lib.hid b2
    have HL := Lib.hid hL
    clear b1 b2 b15 b25 hL hL5
    go_wp2
    go_region
    go_wp2
    refine bodyPost_ret (ret_more _ _ _ _ _ _ _ _ _ rfl rfl (HB2.out.set5 _ _ _ _ _)) rfl ?_
    exact ⟨i', by rw [HR.out, HD.out]; rfl, by rw [HR.out]; exact HQ2.out, (below5 HL.out (by have := HBB.out; omega) _ _ _ _ _).drew⟩
end Go.Proofs.Ytokbipfkpojflaa.Sc

namespace Go.Proofs.Ytokbipfkpojflaa.Sc
open Go Go.RowKit Go.Proofs.Ytokbipfkpojflaa.Sl Go.Lib
open Go.Proofs.Ytokbipfkpojflaa.Lx (Tok tokV cellsT)
open Go.Proofs.Ytokbipfkpojflaa.Va (Cl flatC)

def kComma : ByteArray := ⟨#[44]⟩
/-- A list as the reference reads it: an item first, then a comma or something else. -/
def rlR {X : Type} (item : Rd × X → Rd × X) : Nat → Rd × X → Rd × X
  | 0, s => s
  | n + 1, s => if (itemR item s).1 = kComma then rlR item n (itemR item s).2 else (itemR item s).2
theorem nextR_bad (r : Rd) (h : ¬ r.e = 0) : nextR r = (tok0, r) := by unfold nextR; rw [if_neg h]
theorem failR_bad (r : Rd) (t : Tok) (x : Int) (h : ¬ r.e = 0) : failR r t x = r := by unfold failR; rw [if_neg h]
theorem wordR_bad (r : Rd) (l : List ByteArray) (h : ¬ r.e = 0) : wordR r l = (⟨#[]⟩, r) := by
  unfold wordR
  rw [nextR_bad r h]
  dsimp only
  rw [failR_bad r _ _ h]
  split <;> rfl
theorem nameR_bad (r : Rd) (h : ¬ r.e = 0) : nameR r = (⟨#[]⟩, r) := by
  unfold nameR
  rw [nextR_bad r h]
  dsimp only
  rw [failR_bad r _ _ h]
  split <;> rfl
theorem nextR_txt (r : Rd) (h : (nextR r).1.1 ≠ ⟨#[]⟩) : (nextR r).2.e = 0 := by
  unfold nextR at h ⊢
  by_cases he : r.e = 0
  · rw [if_pos he] at h ⊢
    cases ht : r.toks with
    | nil => rw [ht] at h; exact absurd rfl h
    | cons t l => rfl
  · rw [if_neg he] at h
    exact absurd rfl h
theorem wordR_txt (r : Rd) (l : List ByteArray) (h : (wordR r l).1 ≠ ⟨#[]⟩) (hc : Lib.containsS l (wordR r l).1 = true) : (wordR r l).2.e = 0 := by
  unfold wordR at h hc ⊢
  dsimp only at h hc ⊢
  rw [if_pos hc]
  exact nextR_txt r h
theorem wordR_no (r : Rd) (l : List ByteArray) (hc : ¬ Lib.containsS l (wordR r l).1 = true) : ¬ (wordR r l).2.e = 0 := by
  unfold wordR at hc ⊢
  dsimp only at hc ⊢
  rw [if_neg hc]
  exact fun h => failR_e0 _ _ h
theorem more_has (t : ByteArray) : Lib.containsS kMore t = true ↔ (t = kComma ∨ t = ⟨#[41]⟩) := by
  rw [Lib.containsS_iff]
  simp [kMore, kComma]
theorem rl_eq {X : Type} (item : Rd × X → Rd × X) (hlen : ∀ s, (item s).1.toks.length ≤ s.1.toks.length) : ∀ (n : Nat) (s : Rd × X), s.1.toks.length < n → s.1.e = 0 → rlR item n s = listR item n s
  | 0, s, h, _ => absurd h (Nat.not_lt_zero _)
  | n + 1, s, h, he => by
    unfold rlR listR
    rw [if_pos he]
    by_cases hc : (itemR item s).1 = kComma
    · have hne : ¬ (itemR item s).1 = ⟨#[41]⟩ := by rw [hc]; decide
      rw [if_pos hc, if_neg hne]
      have he2 : (itemR item s).2.1.e = 0 := wordR_txt _ _ (by show (itemR item s).1 ≠ _; rw [hc]; decide) (by show Lib.containsS kMore (itemR item s).1 = true; rw [hc]; decide)
      have hd : (itemR item s).2.1.toks.length < s.1.toks.length := Nat.lt_of_lt_of_le (wordR_dec _ _ he2) (hlen s)
      exact rl_eq item hlen n _ (by omega) he2
    · rw [if_neg hc]
      by_cases hq : (itemR item s).1 = ⟨#[41]⟩
      · rw [if_pos hq]
      · rw [if_neg hq]
        have he2 : ¬ (itemR item s).2.1.e = 0 := wordR_no _ _ (fun h => by
          rcases (more_has _).1 h with h1 | h1
          · exact hc h1
          · exact hq h1)
        cases n with
        | zero => rfl
        | succ n => unfold listR; rw [if_neg he2]
theorem rl_rel {X : Type} (item : Rd × X → Rd × X) (hlen : ∀ s, (item s).1.toks.length ≤ s.1.toks.length) (hid : ∀ s, ¬ s.1.e = 0 → (item s).1 = s.1) (s : Rd × X) :
    (rlR item (s.1.toks.length + 1) s).1 = (listR item (s.1.toks.length + 1) s).1 ∧ ((listR item (s.1.toks.length + 1) s).1.e = 0 → rlR item (s.1.toks.length + 1) s = listR item (s.1.toks.length + 1) s) := by
  by_cases he : s.1.e = 0
  · have := rl_eq item hlen (s.1.toks.length + 1) s (by omega) he
    exact ⟨by rw [this], fun _ => this⟩
  · have e1 : listR item (s.1.toks.length + 1) s = s := by unfold listR; rw [if_neg he]
    have hw : wordR (item s).1 kMore = (⟨#[]⟩, s.1) := by rw [hid s he]; exact wordR_bad _ _ he
    have e2 : (rlR item (s.1.toks.length + 1) s).1 = s.1 := by
      unfold rlR
      rw [if_neg (by show ¬ (wordR (item s).1 kMore).1 = _; rw [hw]; show ¬ (⟨#[]⟩ : ByteArray) = kComma; decide)]
      show (wordR (item s).1 kMore).2 = s.1
      rw [hw]
    rw [e1]
    exact ⟨e2, fun h => absurd h he⟩
theorem colIt_id (s : Rd × List Cl) (h : ¬ s.1.e = 0) : (colIt s).1 = s.1 := by
  unfold colIt
  rw [nameR_bad _ h]
  dsimp only
  rw [wordR_bad _ _ h]
theorem frnIt_id (s : Rd × List ByteArray) (h : ¬ s.1.e = 0) : (frnIt s).1 = s.1 := by
  unfold frnIt
  rw [nameR_bad _ h]
def q3 (l : List Tok) : Rd × List Cl := rlR colIt ((wordR (p2 l).2 kOpen).2.toks.length + 1) ((wordR (p2 l).2 kOpen).2, [])
theorem q3_rel (l : List Tok) : (q3 l).1 = (p3 l).1 ∧ ((p3 l).1.e = 0 → q3 l = p3 l) := rl_rel colIt colIt_len colIt_id ((wordR (p2 l).2 kOpen).2, [])
def rfrQ (r : Rd) : Rd × List ByteArray := rlR frnIt ((wordR (wordR r kForeign).2 kOpen).2.toks.length + 1) ((wordR (wordR r kForeign).2 kOpen).2, [])
theorem rfrQ_rel (r : Rd) : (rfrQ r).1 = (frQ r).1 ∧ ((frQ r).1.e = 0 → rfrQ r = frQ r) := rl_rel frnIt frnIt_len frnIt_id ((wordR (wordR r kForeign).2 kOpen).2, [])
def rfrS (s : Rd × List Fr) : Rd × List Fr := ((nameR (rfrQ s.1).1).2, s.2 ++ [⟨(rfrQ s.1).2, (nameR (rfrQ s.1).1).1⟩])
theorem rfrS_rel (s : Rd × List Fr) : (rfrS s).1 = (frS s).1 ∧ ((frS s).1.e = 0 → rfrS s = frS s) := by
  obtain ⟨h1, h2⟩ := rfrQ_rel s.1
  refine ⟨by unfold rfrS frS; dsimp only; rw [h1], fun h => ?_⟩
  have h3 := h2 (nameR_e0 _ h).1
  unfold rfrS frS
  rw [h3]
def rfrR : Nat → Rd × List Fr → Rd × List Fr
  | 0, s => s
  | n + 1, s => if s.1.e = 0 ∧ s.1.toks ≠ [] then rfrR n (rfrS s) else s
theorem rfr_bad (n : Nat) (s : Rd × List Fr) (h : ¬ s.1.e = 0) : rfrR n s = s := by
  cases n with
  | zero => rfl
  | succ n => rw [rfrR, if_neg (fun h2 => h h2.1)]
theorem fr_bad (n : Nat) (s : Rd × List Fr) (h : ¬ s.1.e = 0) : frR n s = s := by
  cases n with
  | zero => rfl
  | succ n => rw [frR, if_neg (fun h2 => h h2.1)]
theorem rfr_rel : ∀ (n : Nat) (s : Rd × List Fr), (rfrR n s).1 = (frR n s).1 ∧ ((frR n s).1.e = 0 → rfrR n s = frR n s)
  | 0, s => ⟨rfl, fun _ => rfl⟩
  | n + 1, s => by
    unfold rfrR frR
    by_cases he : s.1.e = 0 ∧ s.1.toks ≠ []
    · rw [if_pos he, if_pos he]
      obtain ⟨h1, h2⟩ := rfrS_rel s
      by_cases h3 : (frS s).1.e = 0
      · rw [h2 h3]
        exact rfr_rel n _
      · rw [fr_bad n _ h3, rfr_bad n _ (by rw [h1]; exact h3)]
        exact ⟨h1, fun h => absurd h h3⟩
    · rw [if_neg he, if_neg he]
      exact ⟨rfl, fun _ => rfl⟩
theorem rfrS_sfx (s : Rd × List Fr) : (rfrS s).1.toks <:+ s.1.toks := by rw [(rfrS_rel s).1]; exact frS_sfx s
theorem rfrS_dec (s : Rd × List Fr) (h : (rfrS s).1.e = 0) : s.1.e = 0 ∧ (rfrS s).1.toks.length < s.1.toks.length := by
  rw [(rfrS_rel s).1] at h ⊢
  exact frS_dec s h
theorem rfrR_stable : ∀ (n m : Nat) (s : Rd × List Fr), s.1.toks.length < n → s.1.toks.length < m → rfrR n s = rfrR m s
  | 0, m, s, h, _ => absurd h (Nat.not_lt_zero _)
  | n + 1, 0, s, _, h => absurd h (Nat.not_lt_zero _)
  | n + 1, m + 1, s, h1, h2 => by
    unfold rfrR
    by_cases he : s.1.e = 0 ∧ s.1.toks ≠ []
    · rw [if_pos he, if_pos he]
      by_cases he2 : (rfrS s).1.e = 0
      · have := (rfrS_dec s he2).2
        exact rfrR_stable n m _ (by omega) (by omega)
      · rw [rfr_bad _ _ he2, rfr_bad _ _ he2]
    · rw [if_neg he, if_neg he]
theorem rfrR_go (s : Rd × List Fr) (he : s.1.e = 0 ∧ s.1.toks ≠ []) : rfrR (s.1.toks.length + 1) s = rfrR ((rfrS s).1.toks.length + 1) (rfrS s) := by
  rw [rfrR, if_pos he]
  by_cases he2 : (rfrS s).1.e = 0
  · have := (rfrS_dec s he2).2
    exact rfrR_stable _ _ _ (by omega) (by omega)
  · rw [rfr_bad _ _ he2, rfr_bad _ _ he2]
theorem rfrR_end (s : Rd × List Fr) (he : ¬ (s.1.e = 0 ∧ s.1.toks ≠ [])) : rfrR (s.1.toks.length + 1) s = s := by rw [rfrR, if_neg he]
def q8 (l : List Tok) : Rd × List Fr := rfrR ((p7 l).toks.length + 1) (p7 l, [])
theorem q8_rel (l : List Tok) : (q8 l).1 = (p8 l).1 ∧ ((p8 l).1.e = 0 → q8 l = p8 l) := rfr_rel _ _
theorem p8_e0 (l : List Tok) (h : (p8 l).1.e = 0) : (p3 l).1.e = 0 := by
  have h7 : (p7 l).e = 0 := by
    by_cases h7 : (p7 l).e = 0
    · exact h7
    · unfold p8 at h
      rw [fr_bad _ _ h7] at h
      exact absurd h h7
  have h5 : (p5 l).2.e = 0 := by
    unfold p7 at h7
    by_cases h6 : (p6 l).2 = 0
    · rw [if_pos h6] at h7; exact h7
    · rw [if_neg h6] at h7
      unfold failR at h7
      by_cases hq : (p5 l).2.e = 0
      · exact hq
      · rw [if_neg hq] at h7; exact h7
  have h4 := (nextR_e0 (p4 l) h5).1
  exact wordR_e0 _ _ h4
/-- The reference's schema is Parse's, where there is no error. -/
theorem qprs (l : List Tok) (h : (q8 l).1.e = 0) : (⟨(p2 l).1, (q3 l).2, (p6 l).1, (q8 l).2⟩ : Sch) = prsL l := by
  rw [(q8_rel l).1] at h
  unfold prsL
  rw [(q8_rel l).2 h, (q3_rel l).2 (p8_e0 l h)]
/-- One round of a list. -/
theorem rl_go {X : Type} (item : Rd × X → Rd × X) (hlen : ∀ s, (item s).1.toks.length ≤ s.1.toks.length) (s : Rd × X) (h : (itemR item s).1 = kComma) : rlR item (s.1.toks.length + 1) s = rlR item ((itemR item s).2.1.toks.length + 1) (itemR item s).2 ∧ (itemR item s).2.1.e = 0 ∧ (itemR item s).2.1.toks.length < s.1.toks.length := by
  have he2 : (itemR item s).2.1.e = 0 := wordR_txt _ _ (by show (itemR item s).1 ≠ _; rw [h]; decide) (by show Lib.containsS kMore (itemR item s).1 = true; rw [h]; decide)
  have hd : (itemR item s).2.1.toks.length < s.1.toks.length := Nat.lt_of_lt_of_le (wordR_dec _ _ he2) (hlen s)
  refine ⟨?_, he2, hd⟩
  conv => lhs; unfold rlR
  rw [if_pos h]
  have key : ∀ (n m : Nat) (t : Rd × X), t.1.toks.length < n → t.1.toks.length < m → rlR item n t = rlR item m t := by
    intro n
    induction n with
    | zero => intro m t h _; exact absurd h (Nat.not_lt_zero _)
    | succ n ih =>
      intro m t h1 h2
      cases m with
      | zero => exact absurd h2 (Nat.not_lt_zero _)
      | succ m =>
        unfold rlR
        by_cases hc : (itemR item t).1 = kComma
        · rw [if_pos hc, if_pos hc]
          have he3 : (itemR item t).2.1.e = 0 := wordR_txt _ _ (by show (itemR item t).1 ≠ _; rw [hc]; decide) (by show Lib.containsS kMore (itemR item t).1 = true; rw [hc]; decide)
          have hd3 : (itemR item t).2.1.toks.length < t.1.toks.length := Nat.lt_of_lt_of_le (wordR_dec _ _ he3) (hlen t)
          exact ih m _ (by omega) (by omega)
        · rw [if_neg hc, if_neg hc]
  exact key _ _ _ (by omega) (by omega)
theorem rl_end {X : Type} (item : Rd × X → Rd × X) (s : Rd × X) (h : ¬ (itemR item s).1 = kComma) : rlR item (s.1.toks.length + 1) s = (itemR item s).2 := by
  unfold rlR
  rw [if_neg h]
end Go.Proofs.Ytokbipfkpojflaa.Sc

namespace Go.Proofs.Ytokbipfkpojflaa.Sc
open Go Go.RowKit Go.ChangeShapes Go.WideShapes Go.Proofs.Ytokbipfkpojflaa.Sl Go.Lib
open Go.Proofs.Ytokbipfkpojflaa.Lx (Tok tokV cellsT cellsT_len cellsT_app cellsT_one)
open Go.Proofs.Ytokbipfkpojflaa.Va (Cl flatC flatC_len flatC_snoc Cs)

theorem rkinds_w (w : World) : Calls Try.prog 52 #[] w fun e w' => e = .returned (.slice (some ⟨w.heap.size, 0, none⟩) 4 4) ∧ w' = w.alloc (.cells (kwL.map Value.string).toArray 9) := by
  go_enter Try.func52, Try.ntmps52
  go_wp2
  go_ret
  exact ⟨rfl, rfl⟩
theorem gp_set5 (w : World) (P : Nat) (x0 x1 x2 x3 x4 : Value) : w.grownBy (((((w.setCell ⟨P, 0, none⟩ x0).setCell ⟨P, 1, none⟩ x1).setCell ⟨P, 2, none⟩ x2).setCell ⟨P, 3, none⟩ x3).setCell ⟨P, 4, none⟩ x4) (some P) :=
  gp_set (gp_set (gp_set (gp_set (gp_set1 w P 0 x0) 1 x1) 2 x2) 3 x3) 4 x4
/-- The reader's cells. -/
def rdA (a : Option Addr) (n c i : Nat) (p : Nat × Nat) (e : Int) : Array Value := #[.slice a n c, .int .i64 i, .int .i64 p.1, .int .i64 p.2, .int .i64 e]
/-- A row that was made behind Ws, and nothing else that stood in Ws turned but the blocks RB and PB. -/
structure LI (T : TypeId) (Ws : World) (RB PB : Nat) (rd : Array Value) (pc : Array Value) (e : TypeId) (size : Nat) (v : Value) (n : Nat) (xs : List Value) (W : World) : Prop where
  rd : Bx W RB 108 rd
  pb : Bx W PB T pc
  own : W.ownsRow Ws.heap.size e size v n xs
  f : Frm [RB, PB] Ws W
  n : RB < Ws.heap.size ∧ PB < Ws.heap.size ∧ RB ≠ PB
variable {T : TypeId} {Ws W W' : World} {RB PB : Nat} {rd pc : Array Value} {e : TypeId} {size : Nat} {v : Value} {n : Nat} {xs : List Value}
theorem LI.below (h : LI T Ws RB PB rd pc e size v n xs W) (hb : Below W.heap.size W W') : LI T Ws RB PB rd pc e size v n xs W' :=
  ⟨h.rd.below hb, h.pb.below hb, own_blk h.own fun g _ _ hlt => hb.block g hlt, h.f.trans (Frm.ofBelow hb), h.n⟩
theorem LI.lt (h : LI T Ws RB PB rd pc e size v n xs W) : Ws.heap.size ≤ W.heap.size := h.f.size
theorem LI.set_rd (h : LI T Ws RB PB rd pc e size v n xs W) {a0 a1 a2 a3 a4 : Value} (hr : rd = #[a0, a1, a2, a3, a4]) (x0 x1 x2 x3 x4 : Value) :
    LI T Ws RB PB #[x0, x1, x2, x3, x4] pc e size v n xs (((((W.setCell ⟨RB, 0, none⟩ x0).setCell ⟨RB, 1, none⟩ x1).setCell ⟨RB, 2, none⟩ x2).setCell ⟨RB, 3, none⟩ x3).setCell ⟨RB, 4, none⟩ x4) := by
  subst hr
  have hg := gp_set5 W RB x0 x1 x2 x3 x4
  obtain ⟨n1, n2, n3⟩ := h.n
  exact ⟨h.rd.set5 _ _ _ _ _, h.pb.far5 (Ne.symm n3) _ _ _ _ _, h.own.kept hg (.inr fun e => by have := (h.own.lt _ e).1; omega), h.f.grow hg (fun k hk => by cases hk; exact .inl (by simp)), h.n⟩
theorem LI.set_pb (h : LI T Ws RB PB rd pc e size v n xs W) (j : Nat) (u : Value) {pc' : Array Value} (hj : j < pc.size) (hp : pc.set j u hj = pc') :
    LI T Ws RB PB rd pc' e size v n xs (W.setCell ⟨PB, j, none⟩ u) := by
  have hg := gp_set1 W PB j u
  obtain ⟨n1, n2, n3⟩ := h.n
  exact ⟨h.rd.setFar _ _ _ n3, h.pb.sett j u hj hp, h.own.kept hg (.inr fun e => by have := (h.own.lt _ e).1; omega), h.f.grow hg (fun k hk => by cases hk; exact .inl (by simp)), h.n⟩
/-- The row has grown. -/
theorem LI.app (h : LI T Ws RB PB rd pc e size v n xs W) {v' : Value} {n' : Nat} {xs' : List Value} (ho : W'.ownsRow Ws.heap.size e size v' n' xs') (hg : W.grownBy W' v.ownBlock) :
    LI T Ws RB PB rd pc e size v' n' xs' W' := by
  obtain ⟨n1, n2, n3⟩ := h.n
  have hne : ∀ b, b < Ws.heap.size → some b ≠ v.ownBlock := fun b hb e => by have := (h.own.lt _ e.symm).1; omega
  exact ⟨h.rd.far hg (hne _ n1), h.pb.far hg (hne _ n2), ho, h.f.grow hg (fun k hk => .inr (h.own.lt _ hk).1), h.n⟩
/-- A cell of a block that is neither. -/
theorem LI.set_x (h : LI T Ws RB PB rd pc e size v n xs W) (B j : Nat) (u : Value) (hB : Ws.heap.size ≤ B) (hv : v.ownBlock ≠ some B) : LI T Ws RB PB rd pc e size v n xs (W.setCell ⟨B, j, none⟩ u) := by
  have hg := gp_set1 W B j u
  obtain ⟨n1, n2, n3⟩ := h.n
  exact ⟨h.rd.setFar _ _ _ (by omega), h.pb.setFar _ _ _ (by omega), h.own.kept hg (.inr hv), h.f.grow hg (fun k hk => by cases hk; exact .inr hB), h.n⟩
/-- What stands in memory between the lists. -/
structure QI (w w1 : World) (N RB OB K : Nat) (rd : Array Value) (nm : ByteArray) (v : Value) (k : Int) (vf : Value) (cl : List Cl) (fr : List Fr) (W : World) : Prop where
  b : Below w1.heap.size w1 W
  rd : Bx W RB 108 rd
  ou : Bx W OB 28 #[.string nm, v, .int .i64 k, vf]
  own : W.ownsRow N 78 2 v cl.length (flatC cl)
  vK : v.ownBlock ≠ some K
  fi : FInv N K K W vf fr
  ap : v.ownBlock = none ∨ v.ownBlock ≠ vf.ownBlock
  n : w1.heap.size ≤ RB ∧ RB < OB ∧ OB < N ∧ N ≤ W.heap.size ∧ (K = RB ∨ N ≤ K)
variable {w w1 : World} {N OB K : Nat} {nm : ByteArray} {k : Int} {vf : Value} {cl : List Cl} {fr : List Fr}
theorem QI.keep (h : QI w w1 N RB OB K rd nm v k vf cl fr W) (hf : Frm [RB, K] W W') {rd' : Array Value} (hr : Bx W' RB 108 rd') : QI w w1 N RB OB K rd' nm v k vf cl fr W' := by
  obtain ⟨n1, n2, n3, n4, n5⟩ := h.n
  have nin : ∀ g, g ≠ RB → g ≠ K → g ∉ [RB, K] := fun g h1 h2 => by simp [h1, h2]
  have hs := hf.size
  refine ⟨⟨hf.os.trans h.b.os, hf.tape.trans h.b.tape, hf.output.trans h.b.output, Nat.le_trans h.b.size hf.size, fun j hj => (hf.block j (by have := h.b.size; omega) (nin j (by omega) (by omega))).trans (h.b.block j hj)⟩, hr, h.ou.frm hf (nin _ (by omega) (by omega)), ?_, h.vK, ?_, h.ap, by omega⟩
  · exact own_blk h.own fun g hg hN hlt => hf.block g hlt (nin _ (by omega) (fun e => h.vK (by rw [hg, e])))
  · exact h.fi.keep fun g hN hlt h1 _ => hf.block g hlt (nin _ (by omega) h1)
theorem QI.below (h : QI w w1 N RB OB K rd nm v k vf cl fr W) (hb : Below W.heap.size W W') : QI w w1 N RB OB K rd nm v k vf cl fr W' := h.keep (Frm.ofBelow hb) (h.rd.below hb)
theorem QI.set_rd (h : QI w w1 N RB OB K rd nm v k vf cl fr W) {a0 a1 a2 a3 a4 : Value} (hr : rd = #[a0, a1, a2, a3, a4]) (x0 x1 x2 x3 x4 : Value) :
    QI w w1 N RB OB K #[x0, x1, x2, x3, x4] nm v k vf cl fr (((((W.setCell ⟨RB, 0, none⟩ x0).setCell ⟨RB, 1, none⟩ x1).setCell ⟨RB, 2, none⟩ x2).setCell ⟨RB, 3, none⟩ x3).setCell ⟨RB, 4, none⟩ x4) := by
  subst hr
  exact h.keep ((Frm.refl _ W).grow (gp_set5 W RB x0 x1 x2 x3 x4) (fun k hk => by cases hk; exact .inl (by simp))) (h.rd.set5 _ _ _ _ _)
theorem QI.set_ou (h : QI w w1 N RB OB K rd nm v k vf cl fr W) (j : Nat) (u : Value) {nm' : ByteArray} {k' : Int} (h9 : Bx (W.setCell ⟨OB, j, none⟩ u) OB 28 #[.string nm', v, .int .i64 k', vf]) : QI w w1 N RB OB K rd nm' v k' vf cl fr (W.setCell ⟨OB, j, none⟩ u) := by
  obtain ⟨n1, n2, n3, n4, n5⟩ := h.n
  have hg := gp_set1 W OB j u
  have hs := hg.size
  refine ⟨h.b.setCell (p := ⟨OB, j, none⟩) (by show w1.heap.size ≤ OB; omega) u, h.rd.setFar _ _ _ (by omega), h9, h.own.kept hg (.inr fun e => by have := (h.own.lt _ e).1; omega), h.vK, ?_, h.ap, by omega⟩
  exact h.fi.keep fun g hN hlt h1 _ => hg.block g hlt (by simp; omega)
theorem QI.re (h : QI w w1 N RB OB K rd nm v k vf cl fr W) {K' : Nat} (hK : W.heap.size ≤ K') : QI w w1 N RB OB K' rd nm v k vf cl fr W := by
  obtain ⟨n1, n2, n3, n4, n5⟩ := h.n
  exact ⟨h.b, h.rd, h.ou, h.own, fun e => by have := (h.own.lt _ e).2; omega, h.fi.re hK, h.ap, ⟨n1, n2, n3, n4, .inr (by omega)⟩⟩
theorem QI.setK (h : QI w w1 N RB OB K rd nm v k vf cl fr W) (hK : N ≤ K) (j : Nat) (u : Value) : QI w w1 N RB OB K rd nm v k vf cl fr (W.setCell ⟨K, j, none⟩ u) := by
  obtain ⟨n1, n2, n3, n4, n5⟩ := h.n
  exact h.keep ((Frm.refl _ W).grow (gp_set1 W K j u) (fun b hb => by cases hb; exact .inl (by simp))) (h.rd.setFar _ _ _ (by omega))
/-- The columns have been read. -/
theorem QI.cols (h : QI w w1 N RB OB K rd nm (.slice none 0 0) k (.slice none 0 0) [] [] W) (hK : K = RB) {rd' : Array Value} {v' : Value} {cl' : List Cl}
    (hl : LI 28 W RB OB rd' #[.string nm, v', .int .i64 k, .slice none 0 0] 78 2 v' cl'.length (flatC cl') W') : QI w w1 N RB OB K rd' nm v' k (.slice none 0 0) cl' [] W' := by
  obtain ⟨n1, n2, n3, n4, n5⟩ := h.n
  have hs := hl.f.size
  have nin : ∀ g, g ≠ RB → g ≠ OB → g ∉ [RB, OB] := fun g h1 h2 => by simp [h1, h2]
  refine ⟨⟨hl.f.os.trans h.b.os, hl.f.tape.trans h.b.tape, hl.f.output.trans h.b.output, Nat.le_trans h.b.size hs, fun j hj => (hl.f.block j (by have := h.b.size; omega) (nin j (by omega) (by omega))).trans (h.b.block j hj)⟩, hl.rd, hl.pb, own_le hl.own n4, fun e => by have := (hl.own.lt _ e).1; omega, FInv.nil _ _ _ _, ?_, by omega⟩
  by_cases e : v'.ownBlock = none
  · exact .inl e
  · exact .inr (by simpa [Value.ownBlock] using e)
/-- One foreign key more. -/
theorem QI.app {W8 : World} {v13 : Value} {f : Fr} {g cap : Nat} (h : QI w w1 N RB OB K rd nm v k vf cl fr W) (hK : K < W.heap.size) (hKN : N ≤ K)
    (ho : W.ownsRow N 9 1 v13 f.cols.length (f.cols.map .string)) (h1 : v13.ownBlock ≠ some K) (h2 : v13.ownBlock = none ∨ v13.ownBlock ≠ vf.ownBlock)
    (ls : List (Value × Fr)) (l1 : ls.map (·.2) = fr) (l3 : vf.ownBlock ≠ some K) (l5 : ∀ x ∈ ls, W.ownsRow N 9 1 x.1 x.2.cols.length (x.2.cols.map .string) ∧ x.1.ownBlock ≠ some K ∧ x.1.ownBlock ≠ some K ∧ (x.1.ownBlock = none ∨ x.1.ownBlock ≠ vf.ownBlock))
    (ho8 : W8.ownsRow N 55 2 (.slice (some ⟨g, 0, none⟩) (ls.length + 1) cap) (ls.length + 1) (cellsF ls ++ [v13, .string f.tab])) (hg : W.grownBy W8 vf.ownBlock) (hG : vf.ownBlock = some g ∨ W.heap.size ≤ g) :
    QI w w1 N RB OB K rd nm v k (.slice (some ⟨g, 0, none⟩) (ls.length + 1) cap) cl (fr ++ [f]) (W8.setCell ⟨OB, 3, none⟩ (.slice (some ⟨g, 0, none⟩) (ls.length + 1) cap)) := by
  obtain ⟨n1, n2, n3, n4, n5⟩ := h.n
  have hlt := h.fi.lt
  have hne : ∀ b, b < N → some b ≠ vf.ownBlock := fun b hb e => by have := (hlt b e.symm).1; omega
  have hNg : N ≤ g := by
    rcases hG with e | e
    · exact (hlt g e).1
    · omega
  have hs9 := gp_set1 W8 OB 3 (.slice (some ⟨g, 0, none⟩) (ls.length + 1) cap)
  have hW : Below w1.heap.size w1 W8 := h.b.grown hg (by have := h.b.size; omega) (fun j hj => by have := (hlt j hj).1; omega)
  have hf8 := FInv.app (f := f) l3 l3 l5 ho h1 h1 h2 hK hK ho8 hg hG
  rw [l1] at hf8
  have hsz := hg.size
  have hsz2 := hs9.size
  refine ⟨hW.setCell (p := ⟨OB, 3, none⟩) (by show w1.heap.size ≤ OB; omega) _, (h.rd.far hg (hne _ (by omega))).setFar _ _ _ (by omega), (h.ou.far hg (hne _ (by omega))).sett 3 _ (by simp) rfl, (h.own.kept hg (h.ap.imp id id)).kept hs9 (.inr fun e => by have := (h.own.lt _ e).1; omega), h.vK, ?_, ?_, by omega⟩
  · exact hf8.keep fun j hN hlt h1 _ => hs9.block j hlt (by simp; omega)
  · rcases h.ap with e | e
    · exact .inl e
    · refine .inr fun e2 => ?_
      rcases hG with e3 | e3
      · exact e (by rw [e2, e3]; rfl)
      · have := (h.own.lt g e2).2; omega
theorem rprs_ret (W : World) (S : Nat) (t : Array Value) (nm : ByteArray) (sc sf : Value) (k : Int) (p : Nat × Nat) (n : Int) (h2 : t.getD 2 undef = .pointer (some ⟨S, 0, none⟩)) (h3 : t.getD 3 undef = .pointer (some ⟨S + 1, 0, none⟩)) (h4 : t.getD 4 undef = .int .i64 n)
    (b2 : Bx W S 28 #[.string nm, sc, .int .i64 k, sf]) (b3 : Bx W (S + 1) 45 #[.int .i64 p.1, .int .i64 p.2]) :
    (results Try.f22 t).run Try.prog W = .ok (prsV sc sf ⟨nm, [], k, []⟩ p n) W := by
  have c20 := b2.cell 0 _ rfl
  have c21 := b2.cell 1 _ rfl
  have c22 := b2.cell 2 _ rfl
  have c23 := b2.cell 3 _ rfl
  have c30 := b3.cell 0 _ rfl
  have c31 := b3.cell 1 _ rfl
  have g2 : t[2]?.getD undef = .pointer (some ⟨S, 0, none⟩) := by simpa using h2
  have g3 : t[3]?.getD undef = .pointer (some ⟨S + 1, 0, none⟩) := by simpa using h3
  have g4 : t[4]?.getD undef = .int .i64 n := by simpa using h4
  clear b2 b3 h2 h3 h4
  simp [results, Try.results22, go_sem, g2, g3, g4, c20, c21, c22, c23, c30, c31, prsV, posV]
end Go.Proofs.Ytokbipfkpojflaa.Sc
