/-
  The walk of Parse: what it refuses; what its walk keeps (layer 34).
-/
import Derived.Test.YtokbipfkpojflaaDoorScQ
set_option linter.unusedSimpArgs false
set_option linter.unusedVariables false
namespace Go.Proofs.YtokbipfkpojflaaDoor.Sc
open Go Go.RowKit Go.ChangeShapes Go.WideShapes Go.Proofs.YtokbipfkpojflaaDoor.Sl Go.Lib
open Go.Proofs.YtokbipfkpojflaaDoor.Lx (Tok tokV cellsT cellsT_len cellsT_app cellsT_one)
open Go.Proofs.YtokbipfkpojflaaDoor.Va (Cl flatC flatC_len flatC_snoc Cs)

def prsV (sc sf : Value) (s : Sch) (p : Nat × Nat) (e : Int) : Value := .tuple #[.agg #[.string s.name, sc, .int .i64 s.key, sf], posV p, .int .i64 e]
def PrsP (w : World) (s : Sch) (p : Nat × Nat) (x : Int) (e : Ending) (w' : World) : Prop := ∃ sc sf, e = .returned (prsV sc sf s p x) ∧ Cs w' sc s.cols ∧ FsAt w' sf s.frn ∧ Below w.heap.size w w'
theorem FsAt.nil (w : World) (a : Option Addr) (c : Nat) : FsAt w (.slice a 0 c) [] := ⟨[], rfl, ⟨Sl.mk0 .., Cap.mk (Nat.zero_le _)⟩, fun r hr => by simp at hr, fun i r x hr => by simp at hr⟩
theorem ColI.step {W1 : World} {TB RB B8 B9 : Nat} {name : ByteArray} (hd : RB < W1.heap.size) (hd2 : ¬ B8 = RB ∧ ¬ B9 = RB) (r : Rd) (x : List Cl) (W : World) (r' : Rd) (W' : World) (h : ColI W1 TB RB B8 B9 name r x W) (hg : W.grownBy W' (some RB)) (hr : RdAt W' RB TB r') (h1 : r'.toks.length ≤ r.toks.length) (h2 : r'.e = 0 → r.e = 0) : ColI W1 TB RB B8 B9 name r' x W' := by
  obtain ⟨_, h8, ⟨v, h9, hown⟩, hf, hz⟩ := h
  refine ⟨hr, h8.far hg (by simpa using hd2.1), ⟨v, h9.far hg (by simpa using hd2.2), hown.kept hg (.inr fun e => ?_)⟩, hf.grow hg (fun k e => .inl (by cases e; simp)), hz.step h1 h2⟩
  have := (hown.lt _ e).1
  omega
theorem FrnI.step {W1 : World} {TB RB B8 B9 : Nat} (hd : RB < W1.heap.size) (hd2 : ¬ B8 = RB ∧ ¬ B9 = RB) (r : Rd) (x : List ByteArray) (W : World) (r' : Rd) (W' : World) (h : FrnI W1 TB RB B8 B9 r x W) (hg : W.grownBy W' (some RB)) (hr : RdAt W' RB TB r') (h1 : r'.toks.length ≤ r.toks.length) (h2 : r'.e = 0 → r.e = 0) : FrnI W1 TB RB B8 B9 r' x W' := by
  obtain ⟨_, h8, ⟨v, h9, hown⟩, hf, hz⟩ := h
  refine ⟨hr, h8.far hg (by simpa using hd2.1), ⟨v, h9.far hg (by simpa using hd2.2), hown.kept hg (.inr fun e => ?_)⟩, hf.grow hg (fun k e => .inl (by cases e; simp)), hz.step h1 h2⟩
  have := (hown.lt _ e).1
  omega
theorem enter_p1 (args : Array Value) (w : World) : (callFunc 30 args).run Tryd.prog w = .ok (.enter 30 args) w := by simp [go_sem, Tryd.func30]
theorem enter_p2 (args : Array Value) (w : World) : (callFunc 35 args).run Tryd.prog w = .ok (.enter 35 args) w := by simp [go_sem, Tryd.func35]
theorem prs_ret (W : World) (S : Nat) (t : Array Value) (nm : ByteArray) (sc sf : Value) (k : Int) (p : Nat × Nat) (n : Int) (fr : List Fr) (cl : List Cl) (h2 : t.getD 2 undef = .pointer (some ⟨S, 0, none⟩)) (h3 : t.getD 3 undef = .pointer (some ⟨S + 1, 0, none⟩)) (h4 : t.getD 4 undef = .int .i64 n)
    (b2 : Bx W S 25 #[.string nm, sc, .int .i64 k, sf]) (b3 : Bx W (S + 1) 33 #[.int .i64 p.1, .int .i64 p.2]) : (results Tryd.f9 t).run Tryd.prog W = .ok (prsV sc sf ⟨nm, cl, k, fr⟩ p n) W := by
  have c20 := b2.cell 0 _ rfl
  have c21 := b2.cell 1 _ rfl
  have c22 := b2.cell 2 _ rfl
  have c23 := b2.cell 3 _ rfl
  have c30 := b3.cell 0 _ rfl
  have c31 := b3.cell 1 _ rfl
  have g2 : t[2]?.getD undef = .pointer (some ⟨S, 0, none⟩) := by simpa using h2
  have g3 : t[3]?.getD undef = .pointer (some ⟨S + 1, 0, none⟩) := by simpa using h3
  have g4 : t[4]?.getD undef = .int .i64 n := by simpa using h4
  clear b2 b3 h2 h3 h4
  simp [results, Tryd.results9, go_sem, prsV, posV, g2, g3, g4, c20, c21, c22, c23, c30, c31]
theorem Bx.set4 {w : World} {B : Nat} {t : TypeId} {a0 a1 a2 a3 : Value} (h : Bx w B t #[a0, a1, a2, a3]) (x0 x1 x2 x3 : Value) : Bx ((((w.setCell ⟨B, 0, none⟩ x0).setCell ⟨B, 1, none⟩ x1).setCell ⟨B, 2, none⟩ x2).setCell ⟨B, 3, none⟩ x3) B t #[x0, x1, x2, x3] :=
  (((h.sett 0 x0 (by simp) rfl).sett 1 x1 (by simp) rfl).sett 2 x2 (by simp) rfl).sett 3 x3 (by simp) rfl
theorem Bx.far4 {w : World} {B P : Nat} {t : TypeId} {cs : Array Value} (h : Bx w B t cs) (hne : B ≠ P) (x0 x1 x2 x3 : Value) : Bx ((((w.setCell ⟨P, 0, none⟩ x0).setCell ⟨P, 1, none⟩ x1).setCell ⟨P, 2, none⟩ x2).setCell ⟨P, 3, none⟩ x3) B t cs :=
  (((h.setFar P 0 x0 hne).setFar P 1 x1 hne).setFar P 2 x2 hne).setFar P 3 x3 hne
theorem Bx.set2 {w : World} {B : Nat} {t : TypeId} {a0 a1 : Value} (h : Bx w B t #[a0, a1]) (x0 x1 : Value) : Bx ((w.setCell ⟨B, 0, none⟩ x0).setCell ⟨B, 1, none⟩ x1) B t #[x0, x1] := (h.sett 0 x0 (by simp) rfl).sett 1 x1 (by simp) rfl
theorem Bx.far2 {w : World} {B P : Nat} {t : TypeId} {cs : Array Value} (h : Bx w B t cs) (hne : B ≠ P) (x0 x1 : Value) : Bx ((w.setCell ⟨P, 0, none⟩ x0).setCell ⟨P, 1, none⟩ x1) B t cs := (h.setFar P 0 x0 hne).setFar P 1 x1 hne
set_option maxRecDepth 20000 in
theorem parse_big (s : ByteArray) (w : World) (hs : 65536 < s.size) : Calls Tryd.prog 9 #[.string s] w (PrsP w sch0 (0, 0) 5) := by
  go_enter Tryd.func9, Tryd.ntmps9
  go_wp2
  refine bodyPost_ret (v := prsV (.slice none 0 0) (.slice none 0 0) sch0 (0, 0) 5) (by simp [results, Tryd.results9, go_sem, prsV, posV, sch0]; try rfl) rfl ?_
  exact ⟨_, _, rfl, Sl.mk0 .., FsAt.nil .., by go_grown⟩
set_option maxRecDepth 20000 in
set_option maxHeartbeats 4000000 in
theorem parse_tok (s : ByteArray) (w : World) (hs : s.size ≤ 65536) (h0 : ¬ (tokS s).2.2 = 0) : Calls Tryd.prog 9 #[.string s] w (PrsP w sch0 (tokS s).2.1 (tokS s).2.2) := by
  have HT := fun W => tokens_any s W hs
  generalize tokS s = q at *
  obtain ⟨l, p, n⟩ := q
  dsimp only at h0 HT ⊢
  have hn : (n != 0) = true := by simpa using h0
  go_enter Tryd.func9, Tryd.ntmps9
  go_upto_region 5 with (go_at_call 26; (with_reducible refine (HT _).mono ?_); rintro e w1 ⟨v, rfl, ht, hb⟩; unfold tokX posV; obtain ⟨va, vc, rfl⟩ := ht.1.form)
  have b2 : Bx w1 w.heap.size 25 #[.string ⟨#[]⟩, .slice none 0 0, .int .i64 0, .slice none 0 0] := ((Bx.new w _ _).alloc _).below hb
  have b3 : Bx w1 (w.heap.size + 1) 33 #[.int .i64 0, .int .i64 0] := by
    have h := (Bx.new (w.alloc (.cells #[.string ⟨#[]⟩, .slice none 0 0, .int .i64 0, .slice none 0 0] 25)) 33 #[.int .i64 0, .int .i64 0]).below hb
    rw [show (w.alloc (.cells #[.string ⟨#[]⟩, .slice none 0 0, .int .i64 0, .slice none 0 0] 25)).heap.size = w.heap.size + 1 by simp] at h
    exact h
  have hL : Below w.heap.size w w1 := bstep (((Below.refl _ w).alloc (Nat.le_refl _) _).alloc (by simp) _) hb
  have c20 := b2.cell 0 _ rfl
  have c21 := b2.cell 1 _ rfl
  have c22 := b2.cell 2 _ rfl
  have c23 := b2.cell 3 _ rfl
  have f20 := b2.frozen 0
  have f21 := b2.frozen 1
  have f22 := b2.frozen 2
  have f23 := b2.frozen 3
  have c30 := b3.cell 0 _ rfl
  have c31 := b3.cell 1 _ rfl
  have f30 := b3.frozen 0
  have f31 := b3.frozen 1
  have hl3 := b3.lt
  have hl2 := b2.lt
  have b2' := Lib.hid b2
  have b3' := Lib.hid b3
  clear hb ht b2 b3
  go_region
  have e2 := ((b2'.out.set4 (.string ⟨#[]⟩) (.slice none 0 0) (.int .i64 0) (.slice none 0 0)).far2 (P := w.heap.size + 1) (by omega) (.int .i64 p.1) (.int .i64 p.2)).alloc (.cells #[.int .i64 p.1, .int .i64 p.2] 33)
  have e3 := ((b3'.out.far4 (P := w.heap.size) (by omega) (.string ⟨#[]⟩) (.slice none 0 0) (.int .i64 0) (.slice none 0 0)).set2 (.int .i64 p.1) (.int .i64 p.2)).alloc (.cells #[.int .i64 p.1, .int .i64 p.2] 33)
  have hL9 : Below w.heap.size w (((((((w1.setCell ⟨w.heap.size, 0, none⟩ (.string ⟨#[]⟩)).setCell ⟨w.heap.size, 1, none⟩ (.slice none 0 0)).setCell ⟨w.heap.size, 2, none⟩ (.int .i64 0)).setCell ⟨w.heap.size, 3, none⟩ (.slice none 0 0)).setCell ⟨w.heap.size + 1, 0, none⟩ (.int .i64 p.1)).setCell ⟨w.heap.size + 1, 1, none⟩ (.int .i64 p.2)).alloc (.cells #[.int .i64 p.1, .int .i64 p.2] 33)).drew := by go_grown
  generalize ((((((w1.setCell ⟨w.heap.size, 0, none⟩ (.string ⟨#[]⟩)).setCell ⟨w.heap.size, 1, none⟩ (.slice none 0 0)).setCell ⟨w.heap.size, 2, none⟩ (.int .i64 0)).setCell ⟨w.heap.size, 3, none⟩ (.slice none 0 0)).setCell ⟨w.heap.size + 1, 0, none⟩ (.int .i64 p.1)).setCell ⟨w.heap.size + 1, 1, none⟩ (.int .i64 p.2)).alloc (.cells #[.int .i64 p.1, .int .i64 p.2] 33) = W9 at e2 e3 hL9 ⊢
  clear c20 c21 c22 c23 c30 c31 f20 f21 f22 f23 f30 f31 hl2 hl3
  go_wp2
  refine bodyPost_ret (prs_ret _ _ _ _ _ _ _ p n [] [] rfl rfl rfl e2 e3) rfl ?_
  exact ⟨_, _, rfl, Sl.mk0 .., FsAt.nil .., hL9⟩
theorem parse_tb {w : World} {va : Option Addr} {vc : Nat} {l : List Tok} (ht : Ts w (.slice va l.length vc) l) (h0 : 0 < w.heap.size) : ∃ TB, TB < w.heap.size ∧ ∀ g off, va = some ⟨g, off, none⟩ → l.length ≠ 0 → g = TB := by
  by_cases hl : l.length = 0
  · exact ⟨0, h0, fun _ _ _ h => absurd hl h⟩
  · obtain ⟨g, off, cap, e, hc⟩ := ht.1.open hl
    simp only [Value.slice.injEq] at e
    obtain ⟨rfl, _, _⟩ := e
    obtain ⟨t, ht0⟩ : ∃ t, l[0]? = some t := ⟨_, List.getElem?_eq_getElem (by omega)⟩
    cases l with
    | nil => exact absurd rfl hl
    | cons t l =>
      refine ⟨g, block_of_cell (hc 0 _ (by simp [cellsT, tokV]; rfl)), fun g' off' e _ => by cases e; rfl⟩
theorem FInv.re {B K K' : Nat} {W : World} {vf : Value} {l : List Fr} (h : FInv B K K W vf l) (hK : W.heap.size ≤ K') : FInv B K' K' W vf l := by
  obtain ⟨ls, h1, h2, h3, h4, h5⟩ := h
  have key : ∀ {e : TypeId} {size n : Nat} {v : Value} {xs : List Value}, W.ownsRow B e size v n xs → v.ownBlock ≠ some K' := fun ho e => by have := (ho.lt _ e).2; omega
  exact ⟨ls, h1, h2, key h2, key h2, fun x hx => ⟨(h5 x hx).1, key (h5 x hx).1, key (h5 x hx).1, (h5 x hx).2.2.2⟩⟩
/-- The numbers of Parse's blocks. -/
structure Nums (S N TB RB B8 B9 K : Nat) : Prop where
  r : S + 1 < RB ∧ RB < B8 ∧ B8 < B9 ∧ B9 < N
  t : TB < RB
  k : K = RB ∨ N ≤ K
/-- What stands in memory as Parse goes on. -/
structure PI (w : World) (N TB RB B8 B9 K : Nat) (nm : ByteArray) (v : Value) (k : Int) (vf : Value) (r : Rd) (cl : List Cl) (fr : List Fr) (W : World) : Prop where
  rd : RdAt W RB TB r
  b8 : Bx W B8 63 #[.pointer (some ⟨RB, 0, none⟩)]
  b9 : Bx W B9 25 #[.string nm, v, .int .i64 k, vf]
  b2 : Bx W w.heap.size 25 #[.string ⟨#[]⟩, .slice none 0 0, .int .i64 0, .slice none 0 0]
  b3 : Bx W (w.heap.size + 1) 33 #[.int .i64 0, .int .i64 0]
  hL : Below w.heap.size w W
  own : W.ownsRow N 53 2 v cl.length (flatC cl)
  vK : v.ownBlock ≠ some K
  fi : FInv N K K W vf fr
  ap : v.ownBlock = none ∨ v.ownBlock ≠ vf.ownBlock
theorem PI.start {w w1 : World} {va : Option Addr} {vc TB : Nat} {l : List Tok} {c6 : Array Value}
    (hb : Below ((w.alloc (.cells #[.string ⟨#[]⟩, .slice none 0 0, .int .i64 0, .slice none 0 0] 25)).alloc (.cells #[.int .i64 0, .int .i64 0] 33)).heap.size ((w.alloc (.cells #[.string ⟨#[]⟩, .slice none 0 0, .int .i64 0, .slice none 0 0] 25)).alloc (.cells #[.int .i64 0, .int .i64 0] 33)) w1)
    (ht : Ts w1 (.slice va l.length vc) l) (hT : TB < w1.heap.size) (hT2 : ∀ g off, va = some ⟨g, off, none⟩ → l.length ≠ 0 → g = TB) :
    Nums w.heap.size (w1.heap.size + 1 + 1 + 1 + 1) TB (w1.heap.size + 1) (w1.heap.size + 1 + 1) (w1.heap.size + 1 + 1 + 1) (w1.heap.size + 1) ∧
    PI w (w1.heap.size + 1 + 1 + 1 + 1) TB (w1.heap.size + 1) (w1.heap.size + 1 + 1) (w1.heap.size + 1 + 1 + 1) (w1.heap.size + 1) ⟨#[]⟩ (.slice none 0 0) 0 (.slice none 0 0) ⟨l, (0, 0), 0⟩ [] []
      ((((w1.alloc (.cells c6 33)).alloc (.cells #[.slice va l.length vc, .int .i64 0, .int .i64 0, .int .i64 0] 65)).alloc (.cells #[.pointer (some ⟨w1.heap.size + 1, 0, none⟩)] 63)).alloc (.cells #[.string ⟨#[]⟩, .slice none 0 0, .int .i64 0, .slice none 0 0] 25)) := by
  have e1 : (w.alloc (.cells #[.string ⟨#[]⟩, .slice none 0 0, .int .i64 0, .slice none 0 0] 25)).heap.size = w.heap.size + 1 := by simp
  have hsz := hb.size
  simp at hsz
  have b2 := ((Bx.new w 25 #[.string ⟨#[]⟩, .slice none 0 0, .int .i64 0, .slice none 0 0]).alloc (.cells #[.int .i64 0, .int .i64 0] 33)).below hb
  have b3 := (Bx.new (w.alloc (.cells #[.string ⟨#[]⟩, .slice none 0 0, .int .i64 0, .slice none 0 0] 25)) 33 #[.int .i64 0, .int .i64 0]).below hb
  rw [e1] at b3
  have hL : Below w.heap.size w w1 := bstep (((Below.refl _ w).alloc (Nat.le_refl _) _).alloc (by simp) _) hb
  have n1 : (w1.alloc (.cells c6 33)).heap.size = w1.heap.size + 1 := by simp
  have hR := Bx.new (w1.alloc (.cells c6 33)) 65 #[.slice va l.length vc, .int .i64 0, .int .i64 0, .int .i64 0]
  rw [n1] at hR
  have n2 : ((w1.alloc (.cells c6 33)).alloc (.cells #[.slice va l.length vc, .int .i64 0, .int .i64 0, .int .i64 0] 65)).heap.size = w1.heap.size + 1 + 1 := by simp
  have h8 := Bx.new ((w1.alloc (.cells c6 33)).alloc (.cells #[.slice va l.length vc, .int .i64 0, .int .i64 0, .int .i64 0] 65)) 63 #[.pointer (some ⟨w1.heap.size + 1, 0, none⟩)]
  rw [n2] at h8
  have n3 : (((w1.alloc (.cells c6 33)).alloc (.cells #[.slice va l.length vc, .int .i64 0, .int .i64 0, .int .i64 0] 65)).alloc (.cells #[.pointer (some ⟨w1.heap.size + 1, 0, none⟩)] 63)).heap.size = w1.heap.size + 1 + 1 + 1 := by simp
  have h9 := Bx.new (((w1.alloc (.cells c6 33)).alloc (.cells #[.slice va l.length vc, .int .i64 0, .int .i64 0, .int .i64 0] 65)).alloc (.cells #[.pointer (some ⟨w1.heap.size + 1, 0, none⟩)] 63)) 25 #[.string ⟨#[]⟩, .slice none 0 0, .int .i64 0, .slice none 0 0]
  rw [n3] at h9
  have l1 := (Below.refl w1.heap.size w1).alloc (Nat.le_refl _) (.cells c6 33)
  have l2 := l1.alloc (by omega) (.cells #[.slice va l.length vc, .int .i64 0, .int .i64 0, .int .i64 0] 65)
  have l3 := l2.alloc (by omega) (.cells #[.pointer (some ⟨w1.heap.size + 1, 0, none⟩)] 63)
  have l4 := l3.alloc (by omega) (.cells #[.string ⟨#[]⟩, .slice none 0 0, .int .i64 0, .slice none 0 0] 25)
  refine ⟨⟨by omega, by omega, .inl rfl⟩, ⟨⟨va, vc, (hR.alloc _).alloc _, ht.below l4, hT2, by omega⟩, h8.alloc _, h9, b2.below l4, b3.below l4, bstep hL l4, World.ownsRow_nil _ _ _ _, by simp [Value.ownBlock], FInv.nil _ _ _ _, .inl rfl⟩⟩
theorem PI.keep {w W W' : World} {N TB RB B8 B9 K : Nat} {nm : ByteArray} {v vf : Value} {k : Int} {r r' : Rd} {cl : List Cl} {fr : List Fr} (h : PI w N TB RB B8 B9 K nm v k vf r cl fr W) (hn : Nums w.heap.size N TB RB B8 B9 K) (hf : Frm [RB, K] W W') (hr : RdAt W' RB TB r') : PI w N TB RB B8 B9 K nm v k vf r' cl fr W' := by
  obtain ⟨q1, q2, q3⟩ := hn
  have nin : ∀ g, g ≠ RB → g ≠ K → g ∉ [RB, K] := fun g h1 h2 => by simp [h1, h2]
  refine ⟨hr, h.b8.frm hf (nin _ (by omega) (by omega)), h.b9.frm hf (nin _ (by omega) (by omega)), h.b2.frm hf (nin _ (by omega) (by omega)), h.b3.frm hf (nin _ (by omega) (by omega)), hf.below h.hL (fun k hk => ?_), ?_, h.vK, ?_, h.ap⟩
  · simp at hk; omega
  · exact own_blk h.own fun g hg hN hlt => hf.block g hlt (nin _ (by omega) (fun e => h.vK (by rw [hg, e])))
  · exact h.fi.keep fun g hN hlt h1 _ => hf.block g hlt (nin _ (by omega) h1)
theorem PI.far {w W W' : World} {N TB RB B8 B9 K : Nat} {nm : ByteArray} {v vf : Value} {k : Int} {r : Rd} {cl : List Cl} {fr : List Fr} {row : Option Nat} (h : PI w N TB RB B8 B9 K nm v k vf r cl fr W) (hn : Nums w.heap.size N TB RB B8 B9 K) (hg : W.grownBy W' row) (hrow : row = none ∨ (row = some K ∧ N ≤ K)) : PI w N TB RB B8 B9 K nm v k vf r cl fr W' := by
  have hq := hn.r
  have ht := hn.t
  refine h.keep hn ((Frm.refl _ W).grow hg ?_) (h.rd.far hg ?_ ?_)
  · rcases hrow with rfl | ⟨rfl, _⟩
    · intro k hk; cases hk
    · intro k hk; cases hk; exact .inl (by simp)
  · rcases hrow with rfl | ⟨rfl, _⟩
    · simp
    · simp; omega
  · rcases hrow with rfl | ⟨rfl, _⟩
    · simp
    · simp; omega
theorem PI.rdr {w W W' : World} {N TB RB B8 B9 K : Nat} {nm : ByteArray} {v vf : Value} {k : Int} {r r' : Rd} {cl : List Cl} {fr : List Fr} (h : PI w N TB RB B8 B9 K nm v k vf r cl fr W) (hn : Nums w.heap.size N TB RB B8 B9 K) (hg : W.grownBy W' (some RB)) (hr : RdAt W' RB TB r') : PI w N TB RB B8 B9 K nm v k vf r' cl fr W' :=
  h.keep hn ((Frm.refl _ W).grow hg (fun k hk => by cases hk; exact .inl (by simp))) hr
theorem PI.set9 {w W : World} {N TB RB B8 B9 K : Nat} {nm nm' : ByteArray} {v vf : Value} {k k' : Int} {r : Rd} {cl : List Cl} {fr : List Fr} (h : PI w N TB RB B8 B9 K nm v k vf r cl fr W) (hn : Nums w.heap.size N TB RB B8 B9 K) (j : Nat) (u : Value) (h9 : Bx (W.setCell ⟨B9, j, none⟩ u) B9 25 #[.string nm', v, .int .i64 k', vf]) : PI w N TB RB B8 B9 K nm' v k' vf r cl fr (W.setCell ⟨B9, j, none⟩ u) := by
  have hq := hn.r
  have ht := hn.t
  have hg := gp_set1 W B9 j u
  refine ⟨h.rd.far hg (by simp; omega) (by simp; omega), h.b8.setFar _ _ _ (by omega), h9, h.b2.setFar _ _ _ (by omega), h.b3.setFar _ _ _ (by omega), h.hL.setCell (p := ⟨B9, j, none⟩) (by show w.heap.size ≤ B9; omega) u, h.own.kept hg (.inr fun e => by have := (h.own.lt _ e).1; omega), h.vK, ?_, h.ap⟩
  exact h.fi.keep fun g hN hlt h1 _ => hg.block g hlt (by simp; omega)
theorem PI.re {w W : World} {N TB RB B8 B9 K K' : Nat} {nm : ByteArray} {v vf : Value} {k : Int} {r : Rd} {cl : List Cl} {fr : List Fr} (h : PI w N TB RB B8 B9 K nm v k vf r cl fr W) (hK : W.heap.size ≤ K') : PI w N TB RB B8 B9 K' nm v k vf r cl fr W :=
  ⟨h.rd, h.b8, h.b9, h.b2, h.b3, h.hL, h.own, fun e => by have := (h.own.lt _ e).2; omega, h.fi.re hK, h.ap⟩
/-- The columns have been read. -/
theorem PI.cols {w W W' : World} {N TB RB B8 B9 K : Nat} {nm : ByteArray} {r r' : Rd} {cl' : List Cl} (h : PI w N TB RB B8 B9 K nm (.slice none 0 0) 0 (.slice none 0 0) r [] [] W) (hn : Nums w.heap.size N TB RB B8 B9 K) (hK : K = RB) (hN : N ≤ W.heap.size) (hc : ColI W TB RB B8 B9 nm r' cl' W') : ∃ v', PI w N TB RB B8 B9 K nm v' 0 (.slice none 0 0) r' cl' [] W' := by
  obtain ⟨hr, h8, ⟨v', h9, hown⟩, hf, _⟩ := hc
  obtain ⟨q1, q2, q3⟩ := hn
  have nin : ∀ g, g ≠ RB → g ≠ B9 → g ∉ [RB, B9] := fun g h1 h2 => by simp [h1, h2]
  refine ⟨v', hr, h8, h9, h.b2.frm hf (nin _ (by omega) (by omega)), h.b3.frm hf (nin _ (by omega) (by omega)), hf.below h.hL (fun k hk => ?_), own_le hown hN, fun e => by have := (hown.lt _ e).1; omega, FInv.nil _ _ _ _, ?_⟩
  · simp at hk; omega
  · by_cases e : v'.ownBlock = none
    · exact .inl e
    · exact .inr (by simpa [Value.ownBlock] using e)
theorem nextR_tok (r : Rd) : (nextR r).1 = tok0 ∨ (nextR r).1 ∈ r.toks := by
  unfold nextR
  split
  · cases h : r.toks with
    | nil => exact .inl rfl
    | cons t l => exact .inr (by simp)
  · exact .inl rfl
theorem own_one {B : Nat} {w : World} {e : TypeId} {size : Nat} {v : Value} {n : Nat} {xs : List Value} (h : w.ownsRow B e size v n xs) : v.oneCell' = true := by
  rcases own_shape h with rfl | ⟨g, cap, rfl, hc⟩ <;> rfl
/-- One foreign key more. -/
theorem PI.app {w W W8 : World} {N TB RB B8 B9 K : Nat} {nm : ByteArray} {v vf v13 : Value} {k : Int} {r : Rd} {cl : List Cl} {fr : List Fr} {f : Fr} {g cap : Nat} (h : PI w N TB RB B8 B9 K nm v k vf r cl fr W) (hn : Nums w.heap.size N TB RB B8 B9 K) (hK : K < W.heap.size) (hKN : N ≤ K)
    (ho : W.ownsRow N 9 1 v13 f.cols.length (f.cols.map .string)) (h1 : v13.ownBlock ≠ some K) (h2 : v13.ownBlock = none ∨ v13.ownBlock ≠ vf.ownBlock)
    (ls : List (Value × Fr)) (l1 : ls.map (·.2) = fr) (l3 : vf.ownBlock ≠ some K) (l5 : ∀ x ∈ ls, W.ownsRow N 9 1 x.1 x.2.cols.length (x.2.cols.map .string) ∧ x.1.ownBlock ≠ some K ∧ x.1.ownBlock ≠ some K ∧ (x.1.ownBlock = none ∨ x.1.ownBlock ≠ vf.ownBlock))
    (ho8 : W8.ownsRow N 50 2 (.slice (some ⟨g, 0, none⟩) (ls.length + 1) cap) (ls.length + 1) (cellsF ls ++ [v13, .string f.tab])) (hg : W.grownBy W8 vf.ownBlock) (hG : vf.ownBlock = some g ∨ W.heap.size ≤ g) :
    PI w N TB RB B8 B9 K nm v k (.slice (some ⟨g, 0, none⟩) (ls.length + 1) cap) r cl (fr ++ [f]) (W8.setCell ⟨B9, 3, none⟩ (.slice (some ⟨g, 0, none⟩) (ls.length + 1) cap)) := by
  have hq := hn.r
  have ht := hn.t
  have hlt := h.fi.lt
  have hne : ∀ b, b < N → some b ≠ vf.ownBlock := fun b hb e => by have := (hlt b e.symm).1; omega
  have hG9 : g ≠ B9 := by
    rcases hG with e | e
    · have := (hlt g e).1; omega
    · have := h.b9.lt; omega
  have hNg : N ≤ g := by
    rcases hG with e | e
    · exact (hlt g e).1
    · omega
  have hs9 := gp_set1 W8 B9 3 (.slice (some ⟨g, 0, none⟩) (ls.length + 1) cap)
  have hW : Below w.heap.size w W8 := h.hL.grown hg (by have := h.hL.size; omega) (fun j hj => by have := (hlt j hj).1; omega)
  have hf8 := FInv.app (f := f) l3 l3 l5 ho h1 h1 h2 hK hK ho8 hg hG
  rw [l1] at hf8
  refine ⟨(h.rd.far hg (hne _ (by omega)) (hne _ (by omega))).far hs9 (by simp; omega) (by simp; omega), (h.b8.far hg (hne _ (by omega))).setFar _ _ _ (by omega), (h.b9.far hg (hne _ (by omega))).sett 3 _ (by simp) rfl, (h.b2.far hg (hne _ (by omega))).setFar _ _ _ (by omega), (h.b3.far hg (hne _ (by omega))).setFar _ _ _ (by omega), hW.setCell (p := ⟨B9, 3, none⟩) (by show w.heap.size ≤ B9; omega) _, (h.own.kept hg (h.ap.imp id id)).kept hs9 (.inr fun e => by have := (h.own.lt _ e).1; omega), h.vK, ?_, ?_⟩
  · exact hf8.keep fun j hN hlt h1 _ => hs9.block j hlt (by simp; omega)
  · rcases h.ap with e | e
    · exact .inl e
    · refine .inr fun e2 => ?_
      rcases hG with e3 | e3
      · exact e (by rw [e2, e3]; rfl)
      · have := (h.own.lt g e2).2; omega
end Go.Proofs.YtokbipfkpojflaaDoor.Sc
