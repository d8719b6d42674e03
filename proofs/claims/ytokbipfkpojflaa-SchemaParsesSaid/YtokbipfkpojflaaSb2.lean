/-
  The walks of the reference's reader: next, fail, word, name, more (layer 34).
-/
import Derived.Test.YtokbipfkpojflaaScI
import Derived.Test.YtokbipfkpojflaaScKr
set_option linter.unusedSimpArgs false
set_option linter.unusedVariables false
namespace Go.Proofs.Ytokbipfkpojflaa.Sc
open Go Go.RowKit Go.ChangeShapes Go.WideShapes Go.Proofs.Ytokbipfkpojflaa.Sl Go.Lib
open Go.Proofs.Ytokbipfkpojflaa.Lx (Tok tokV cellsT cellsT_len cellsT_app cellsT_one)

/-- The reference's reader: all tokens, the number of those that were read, the first error. -/
def rdV (a : Option Addr) (n c : Nat) (i : Nat) (p : Nat × Nat) (e : Int) : Value := .agg #[.slice a n c, .int .i64 i, .int .i64 p.1, .int .i64 p.2, .int .i64 e]
def RQ (L : List Tok) (i : Nat) (r : Rd) : Prop := i ≤ L.length ∧ r.toks = L.drop i
/-- The token that was read last. -/
def LstT (L : List Tok) (i : Nat) (t : Tok) : Prop := 1 ≤ i ∧ L[i - 1]? = some t
theorem rd_ret (W : World) (S : Nat) (t : Array Value) (a0 a1 a2 a3 a4 x : Value) (h2 : t.getD 2 undef = x) (h3 : t.getD 3 undef = .pointer (some ⟨S, 0, none⟩)) (b2 : Bx W S 108 #[a0, a1, a2, a3, a4]) : (results Try.f72 t).run Try.prog W = .ok (.tuple #[x, .agg #[a0, a1, a2, a3, a4]]) W := by
  have c20 := b2.cell 0 _ rfl
  have c21 := b2.cell 1 _ rfl
  have c22 := b2.cell 2 _ rfl
  have c23 := b2.cell 3 _ rfl
  have c24 := b2.cell 4 _ rfl
  have g2 : t[2]?.getD undef = x := by simpa using h2
  have g3 : t[3]?.getD undef = .pointer (some ⟨S, 0, none⟩) := by simpa using h3
  clear b2 h2 h3
  simp [results, Try.results72, go_sem, g2, g3, c20, c21, c22, c23, c24]
theorem two5 {w W : World} {t : TypeId} {x y : Array Value} (h : (w.alloc (.cells x t)).alloc (.cells y t) = W) : Bx W w.heap.size t x ∧ Bx W (w.heap.size + 1) t y ∧ Below w.heap.size w W := by
  subst h
  have e1 : (w.alloc (.cells x t)).heap.size = w.heap.size + 1 := by simp
  refine ⟨(Bx.new w t x).alloc _, ?_, ((Below.refl _ w).alloc (Nat.le_refl _) _).alloc (by omega) _⟩
  have h := Bx.new (w.alloc (.cells x t)) t y
  rw [e1] at h
  exact h
theorem Bx.set5 {w : World} {B : Nat} {t : TypeId} {a0 a1 a2 a3 a4 : Value} (h : Bx w B t #[a0, a1, a2, a3, a4]) (x0 x1 x2 x3 x4 : Value) : Bx (((((w.setCell ⟨B, 0, none⟩ x0).setCell ⟨B, 1, none⟩ x1).setCell ⟨B, 2, none⟩ x2).setCell ⟨B, 3, none⟩ x3).setCell ⟨B, 4, none⟩ x4) B t #[x0, x1, x2, x3, x4] :=
  ((((h.sett 0 x0 (by simp) rfl).sett 1 x1 (by simp) rfl).sett 2 x2 (by simp) rfl).sett 3 x3 (by simp) rfl).sett 4 x4 (by simp) rfl
theorem below5 {N P : Nat} {w W : World} (h : Below N w W) (hp : N ≤ P) (x0 x1 x2 x3 x4 : Value) : Below N w (((((W.setCell ⟨P, 0, none⟩ x0).setCell ⟨P, 1, none⟩ x1).setCell ⟨P, 2, none⟩ x2).setCell ⟨P, 3, none⟩ x3).setCell ⟨P, 4, none⟩ x4) :=
  ((((h.setCell (p := ⟨P, 0, none⟩) hp x0).setCell (p := ⟨P, 1, none⟩) hp x1).setCell (p := ⟨P, 2, none⟩) hp x2).setCell (p := ⟨P, 3, none⟩) hp x3).setCell (p := ⟨P, 4, none⟩) hp x4
set_option maxRecDepth 20000 in
set_option maxHeartbeats 2000000 in
theorem rnext_err (a : Option Addr) (n c i : Nat) (p : Nat × Nat) (e : Int) (w : World) (he : ¬ e = 0) : Calls Try.prog 72 #[rdV a n c i p e] w fun x w' => x = .returned (.tuple #[.string ⟨#[]⟩, rdV a n c i p e]) ∧ Below w.heap.size w w' := by
  have he2 : (e != 0) = true := by simpa using he
  unfold rdV
  go_enter Try.func72, Try.ntmps72
  go_upto_region 1 with fail
  obtain ⟨W0, hW⟩ : ∃ W0, (w.alloc (.cells #[.slice a n c, .int .i64 i, .int .i64 p.1, .int .i64 p.2, .int .i64 e] 108)).alloc (.cells #[.slice none 0 0, .int .i64 0, .int .i64 0, .int .i64 0, .int .i64 0] 108) = W0 := ⟨_, rfl⟩
  obtain ⟨b1, b2, hL⟩ := two5 hW
  rw [hW]
  clear hW
  generalize hBB : w.heap.size = B at b1 b2 ⊢
  have HBB := Lib.hid hBB
  have hlt := b1.lt
  have hlt2 := b2.lt
  have p0 := b1.cell 0 _ rfl
  have p1 := b1.cell 1 _ rfl
  have p2 := b1.cell 2 _ rfl
  have p3 := b1.cell 3 _ rfl
  have p4 := b1.cell 4 _ rfl
  have q0 := b2.cell 0 _ rfl
  have q1 := b2.cell 1 _ rfl
  have q2 := b2.cell 2 _ rfl
  have q3 := b2.cell 3 _ rfl
  have q4 := b2.cell 4 _ rfl
  have f0 := b2.frozen 0
  have f1 := b2.frozen 1
  have f2 := b2.frozen 2
  have f3 := b2.frozen 3
  have f4 := b2.frozen 4
  have HB2 := Lib.hid b2
  have HL := Lib.hid hL
  clear b1 b2 hBB hL
  go_wp2
  go_region
  go_wp2
  refine bodyPost_ret (rd_ret _ _ _ _ _ _ _ _ _ rfl rfl (HB2.out.set5 _ _ _ _ _)) rfl ?_
  exact ⟨rfl, (below5 HL.out (by have := HBB.out; omega) _ _ _ _ _).drew⟩
set_option maxRecDepth 20000 in
set_option maxHeartbeats 2000000 in
theorem rnext_end (a : Option Addr) (n c : Nat) (p : Nat × Nat) (w : World) : Calls Try.prog 72 #[rdV a n c n p 0] w fun x w' => x = .returned (.tuple #[.string ⟨#[]⟩, rdV a n c n p 4]) ∧ Below w.heap.size w w' := by
  unfold rdV
  go_enter Try.func72, Try.ntmps72
  go_upto_region 1 with fail
  obtain ⟨W0, hW⟩ : ∃ W0, (w.alloc (.cells #[.slice a n c, .int .i64 n, .int .i64 p.1, .int .i64 p.2, .int .i64 0] 108)).alloc (.cells #[.slice none 0 0, .int .i64 0, .int .i64 0, .int .i64 0, .int .i64 0] 108) = W0 := ⟨_, rfl⟩
  obtain ⟨b1, b2, hL⟩ := two5 hW
  rw [hW]
  clear hW
  generalize hBB : w.heap.size = B at b1 b2 ⊢
  have HBB := Lib.hid hBB
  have hlt := b1.lt
  have hlt2 := b2.lt
  have p0 := b1.cell 0 _ rfl
  have p1 := b1.cell 1 _ rfl
  have p2 := b1.cell 2 _ rfl
  have p3 := b1.cell 3 _ rfl
  have p4 := b1.cell 4 _ rfl
  have q0 := b2.cell 0 _ rfl
  have q1 := b2.cell 1 _ rfl
  have q2 := b2.cell 2 _ rfl
  have q3 := b2.cell 3 _ rfl
  have q4 := b2.cell 4 _ rfl
  have f0 := b2.frozen 0
  have f1 := b2.frozen 1
  have f2 := b2.frozen 2
  have f3 := b2.frozen 3
  have f4 := b2.frozen 4
  have HB2 := Lib.hid b2
  have HL := Lib.hid hL
  have g4 := b1.frozen 4
  have b15 := b1.sett 4 (.int .i64 4) (by simp) rfl
  have b25 := b2.setFar B 4 (.int .i64 4) (by omega)
  have hL5 := hL.setCell (p := ⟨B, 4, none⟩) (by have := HBB.out; show w.heap.size ≤ B; omega) (.int .i64 4)
  clear b1 b2 hBB hL HB2 HL
  go_upto_region 5 with fail
  clear p0 p1 p2 p3 p4 q0 q1 q2 q3 q4 f0 f1 f2 f3 f4 g4 hlt hlt2
  generalize W0.setCell ⟨B, 4, none⟩ (.int .i64 4) = W5 at *
  have b1 := b15
  have b2 := b25
  have hL := hL5
  have hlt := b1.lt
  have hlt2 := b2.lt
  have p0 := b1.cell 0 _ rfl
  have p1 := b1.cell 1 _ rfl
  have p2 := b1.cell 2 _ rfl
  have p3 := b1.cell 3 _ rfl
  have p4 := b1.cell 4 _ rfl
  have q0 := b2.cell 0 _ rfl
  have q1 := b2.cell 1 _ rfl
  have q2 := b2.cell 2 _ rfl
  have q3 := b2.cell 3 _ rfl
  have q4 := b2.cell 4 _ rfl
  have f0 := b2.frozen 0
  have f1 := b2.frozen 1
  have f2 := b2.frozen 2
  have f3 := b2.frozen 3
  have f4 := b2.frozen 4
  have HB2 := Lib.hid b2
  have HL := Lib.hid hL
  clear b1 b2 b15 b25 hL hL5
  go_region
  go_wp2
  refine bodyPost_ret (rd_ret _ _ _ _ _ _ _ _ _ rfl rfl (HB2.out.set5 _ _ _ _ _)) rfl ?_
  exact ⟨rfl, (below5 HL.out (by have := HBB.out; omega) _ _ _ _ _).drew⟩
theorem cellsT_at : ∀ (L : List Tok) (i : Nat) (t : Tok), L[i]? = some t → (cellsT L)[i * 3]? = some (.string t.1) ∧ (cellsT L)[i * 3 + 1]? = some (.int .i64 t.2.1) ∧ (cellsT L)[i * 3 + 2]? = some (.int .i64 t.2.2)
  | [], i, t, h => by simp at h
  | x :: L, i, t, h => by
    rw [show x :: L = [x] ++ L from rfl, cellsT_app, cellsT_one]
    cases i with
    | zero =>
      simp at h
      subst h
      exact ⟨rfl, rfl, rfl⟩
    | succ i =>
      obtain ⟨h1, h2, h3⟩ := cellsT_at L i t (by simpa using h)
      rw [show (i + 1) * 3 = i * 3 + 3 by omega, show i * 3 + 3 + 1 = i * 3 + 1 + 3 by omega, show i * 3 + 3 + 2 = i * 3 + 2 + 3 by omega]
      exact ⟨h1, h2, h3⟩
theorem ts_at {w : World} {g off c n : Nat} {L : List Tok} {i : Nat} {t : Tok} (h : Ts w (.slice (some ⟨g, off, none⟩) n c) L) (hn : n = L.length) (ht : L[i]? = some t) : w.cell? ⟨g, off + i * 3, none⟩ = some (.string t.1) ∧ w.cell? ⟨g, off + i * 3 + 1, none⟩ = some (.int .i64 t.2.1) ∧ w.cell? ⟨g, off + i * 3 + 2, none⟩ = some (.int .i64 t.2.2) := by
  subst hn
  obtain ⟨⟨h1, ad, cap, e, h2⟩, h3⟩ := h
  obtain ⟨g', off', rfl, hc⟩ := h2 (by have := (List.getElem?_eq_some_iff.1 ht).1; omega)
  simp only [Value.slice.injEq, Option.some.injEq, Addr.mk.injEq] at e
  obtain ⟨⟨rfl, rfl, _⟩, _, _⟩ := e
  obtain ⟨k0, k1, k2⟩ := cellsT_at L i t ht
  exact ⟨hc _ _ k0, hc _ _ k1, hc _ _ k2⟩
set_option maxRecDepth 20000 in
set_option maxHeartbeats 4000000 in
theorem rnext_ok (g off n c i : Nat) (p : Nat × Nat) (t : ByteArray) (w : World) (hi : i < n) (h6 : n ≤ 1000000) (ht : w.cell? ⟨g, off + i * 3, none⟩ = some (.string t)) : Calls Try.prog 72 #[rdV (some ⟨g, off, none⟩) n c i p 0] w fun x w' => x = .returned (.tuple #[.string t, rdV (some ⟨g, off, none⟩) n c (i + 1) p 0]) ∧ Below w.heap.size w w' := by
  have hne : ((i : Int) == (n : Int)) = false := by simpa using (show ¬ (i : Int) = (n : Int) by omega)
  have i0 : (0 : Int) ≤ (i : Int) := by omega
  have i1 : (i : Int) < (n : Int) := by omega
  have hw1 : wrap64 ((i : Int) + 1) = ((i + 1 : Nat) : Int) := by unfold wrap64; omega
  have hw2 : wrap64 (((i + 1 : Nat) : Int) - 1) = (i : Int) := by unfold wrap64; omega
  have HT := Lib.hid ht
  have HW1 := Lib.hid hw1
  clear ht hw1
  unfold rdV
  go_enter Try.func72, Try.ntmps72
  go_upto_region 1 with fail
  obtain ⟨W0, hW⟩ : ∃ W0, (w.alloc (.cells #[.slice (some ⟨g, off, none⟩) n c, .int .i64 i, .int .i64 p.1, .int .i64 p.2, .int .i64 0] 108)).alloc (.cells #[.slice none 0 0, .int .i64 0, .int .i64 0, .int .i64 0, .int .i64 0] 108) = W0 := ⟨_, rfl⟩
  obtain ⟨b1, b2, hL⟩ := two5 hW
  rw [hW]
  clear hW
  generalize hBB : w.heap.size = B at b1 b2 ⊢
  have HBB := Lib.hid hBB
  have hlt := b1.lt
  have hlt2 := b2.lt
  have p0 := b1.cell 0 _ rfl
  have p1 := b1.cell 1 _ rfl
  have p2 := b1.cell 2 _ rfl
  have p3 := b1.cell 3 _ rfl
  have p4 := b1.cell 4 _ rfl
  have q0 := b2.cell 0 _ rfl
  have q1 := b2.cell 1 _ rfl
  have q2 := b2.cell 2 _ rfl
  have q3 := b2.cell 3 _ rfl
  have q4 := b2.cell 4 _ rfl
  have f0 := b2.frozen 0
  have f1 := b2.frozen 1
  have f2 := b2.frozen 2
  have f3 := b2.frozen 3
  have f4 := b2.frozen 4
  have HB2 := Lib.hid b2
  have HL := Lib.hid hL
  have g1 := b1.frozen 1
  have b15 := b1.sett 1 (.int .i64 ((i : Int) + 1)) (by simp) rfl
  have b25 := b2.setFar B 1 (.int .i64 ((i : Int) + 1)) (by omega)
  have hL5 := hL.setCell (p := ⟨B, 1, none⟩) (by have := HBB.out; show w.heap.size ≤ B; omega) (.int .i64 ((i : Int) + 1))
  clear b1 b2 hBB hL HB2 HL hw2
  go_upto_region 7 with fail
  clear p0 p1 p2 p3 p4 q0 q1 q2 q3 q4 f0 f1 f2 f3 f4 g1 hlt hlt2
  generalize W0.setCell ⟨B, 1, none⟩ (.int .i64 ((i : Int) + 1)) = W5 at *
  have b1 := b15
  have b2 := b25
  have hL := hL5
  have hlt := b1.lt
  have hlt2 := b2.lt
  have t0 := Go.Proofs.Ytokbipfkpojflaa.Sl.cell_kept HT.out hL
  have e0 : (i : Int) + 1 - 1 = (i : Int) := by omega
  have p0 := b1.cell 0 _ rfl
  have p1 := b1.cell 1 _ rfl
  have p2 := b1.cell 2 _ rfl
  have p3 := b1.cell 3 _ rfl
  have p4 := b1.cell 4 _ rfl
  have q0 := b2.cell 0 _ rfl
  have q1 := b2.cell 1 _ rfl
  have q2 := b2.cell 2 _ rfl
  have q3 := b2.cell 3 _ rfl
  have q4 := b2.cell 4 _ rfl
  have f0 := b2.frozen 0
  have f1 := b2.frozen 1
  have f2 := b2.frozen 2
  have f3 := b2.frozen 3
  have f4 := b2.frozen 4
  have HB2 := Lib.hid b2
  have HL := Lib.hid hL
  clear b1 b2 b15 b25 hL hL5
  go_region
  go_wp2
  all_goals try (
    refine bodyPost_ret (rd_ret _ _ _ _ _ _ _ _ _ rfl rfl (HB2.out.set5 _ _ _ _ _)) rfl ?_
    exact ⟨rfl, (below5 HL.out (by have := HBB.out; omega) _ _ _ _ _).drew⟩)
  done
theorem ret_fail (W : World) (S : Nat) (t : Array Value) (a0 a1 a2 a3 a4 : Value) (h3 : t.getD 4 undef = .pointer (some ⟨S, 0, none⟩)) (b2 : Bx W S 108 #[a0, a1, a2, a3, a4]) : (results Try.f74 t).run Try.prog W = .ok (.agg #[a0, a1, a2, a3, a4]) W := by
  have c20 := b2.cell 0 _ rfl
  have c21 := b2.cell 1 _ rfl
  have c22 := b2.cell 2 _ rfl
  have c23 := b2.cell 3 _ rfl
  have c24 := b2.cell 4 _ rfl
  have g3 : t[4]?.getD undef = .pointer (some ⟨S, 0, none⟩) := by simpa using h3
  clear b2 h3
  simp [results, Try.results74, go_sem, g3, c20, c21, c22, c23, c24]
set_option maxRecDepth 20000 in
set_option maxHeartbeats 2000000 in
theorem rfail_err (a : Option Addr) (n c i : Nat) (p : Nat × Nat) (e x : Int) (w : World) (he : ¬ e = 0) : Calls Try.prog 74 #[rdV a n c i p e, .int .i64 x] w fun y w' => y = .returned (rdV a n c i p e) ∧ Below w.heap.size w w' := by
  have he2 : (e == 0) = false := by simpa using he
  unfold rdV
  go_enter Try.func74, Try.ntmps74
  go_upto_region 1 with fail
  obtain ⟨W0, hW⟩ : ∃ W0, (w.alloc (.cells #[.slice a n c, .int .i64 i, .int .i64 p.1, .int .i64 p.2, .int .i64 e] 108)).alloc (.cells #[.slice none 0 0, .int .i64 0, .int .i64 0, .int .i64 0, .int .i64 0] 108) = W0 := ⟨_, rfl⟩
  obtain ⟨b1, b2, hL⟩ := two5 hW
  rw [hW]
  clear hW
  generalize hBB : w.heap.size = B at b1 b2 ⊢
  have HBB := Lib.hid hBB
  have hlt := b1.lt
  have hlt2 := b2.lt
  have p0 := b1.cell 0 _ rfl
  have p1 := b1.cell 1 _ rfl
  have p2 := b1.cell 2 _ rfl
  have p3 := b1.cell 3 _ rfl
  have p4 := b1.cell 4 _ rfl
  have q0 := b2.cell 0 _ rfl
  have q1 := b2.cell 1 _ rfl
  have q2 := b2.cell 2 _ rfl
  have q3 := b2.cell 3 _ rfl
  have q4 := b2.cell 4 _ rfl
  have f0 := b2.frozen 0
  have f1 := b2.frozen 1
  have f2 := b2.frozen 2
  have f3 := b2.frozen 3
  have f4 := b2.frozen 4
  have HB2 := Lib.hid b2
  have HL := Lib.hid hL
  clear b1 b2 hBB hL
  go_wp2
  refine bodyPost_ret (ret_fail _ _ _ _ _ _ _ _ rfl (HB2.out.set5 _ _ _ _ _)) rfl ?_
  exact ⟨rfl, (below5 HL.out (by have := HBB.out; omega) _ _ _ _ _)⟩
set_option maxRecDepth 20000 in
set_option maxHeartbeats 2000000 in
theorem rfail_ok (g off n c i : Nat) (p q : Nat × Nat) (x : Int) (w : World) (hi : 1 ≤ i) (hin : i ≤ n) (h6 : n ≤ 1000000) (hk : w.cell? ⟨g, off + (i - 1) * 3 + 1, none⟩ = some (.int .i64 q.1)) (hq : w.cell? ⟨g, off + (i - 1) * 3 + 2, none⟩ = some (.int .i64 q.2)) : Calls Try.prog 74 #[rdV (some ⟨g, off, none⟩) n c i p 0, .int .i64 x] w fun y w' => y = .returned (rdV (some ⟨g, off, none⟩) n c i q x) ∧ Below w.heap.size w w' := by
  obtain ⟨j, hj⟩ : ∃ j, i - 1 = j := ⟨_, rfl⟩
  rw [hj] at hk hq
  have e0 : (i : Int) - 1 = (j : Int) := by omega
  have i0 : (0 : Int) ≤ (j : Int) := by omega
  have i1 : (j : Int) < (n : Int) := by omega
  have HK := Lib.hid hk
  have HQ := Lib.hid hq
  clear hk hq hj
  unfold rdV
  go_enter Try.func74, Try.ntmps74
  go_upto_region 1 with fail
  obtain ⟨W0, hW⟩ : ∃ W0, (w.alloc (.cells #[.slice (some ⟨g, off, none⟩) n c, .int .i64 i, .int .i64 p.1, .int .i64 p.2, .int .i64 0] 108)).alloc (.cells #[.slice none 0 0, .int .i64 0, .int .i64 0, .int .i64 0, .int .i64 0] 108) = W0 := ⟨_, rfl⟩
  obtain ⟨b1, b2, hL⟩ := two5 hW
  rw [hW]
  clear hW
  generalize hBB : w.heap.size = B at b1 b2 ⊢
  have HBB := Lib.hid hBB
  have hlt := b1.lt
  have hlt2 := b2.lt
  have p0 := b1.cell 0 _ rfl
  have p1 := b1.cell 1 _ rfl
  have p2 := b1.cell 2 _ rfl
  have p3 := b1.cell 3 _ rfl
  have p4 := b1.cell 4 _ rfl
  have q0 := b2.cell 0 _ rfl
  have q1 := b2.cell 1 _ rfl
  have q2 := b2.cell 2 _ rfl
  have q3 := b2.cell 3 _ rfl
  have q4 := b2.cell 4 _ rfl
  have f0 := b2.frozen 0
  have f1 := b2.frozen 1
  have f2 := b2.frozen 2
  have f3 := b2.frozen 3
  have f4 := b2.frozen 4
  have HB2 := Lib.hid b2
  have HL := Lib.hid hL
  have k0 := Go.Proofs.Ytokbipfkpojflaa.Sl.cell_kept HK.out hL
  have k1 := Go.Proofs.Ytokbipfkpojflaa.Sl.cell_kept HQ.out hL
  have hgb := block_of_cell HK.out
  have hgB : ¬ g = B := by have := HBB.out; omega
  have g2 := b1.frozen 2
  have g3 := b1.frozen 3
  have g4 := b1.frozen 4
  have HB1 := Lib.hid b1
  clear b1 b2 hBB hL
  go_wp2
  have b2x := ((HB2.out.setFar B 4 (.int .i64 x) (by omega)).setFar B 2 (.int .i64 q.1) (by omega)).setFar B 3 (.int .i64 q.2) (by omega)
  have hLx := ((HL.out.setCell (p := ⟨B, 4, none⟩) (by have := HBB.out; show w.heap.size ≤ B; omega) (.int .i64 x)).setCell (p := ⟨B, 2, none⟩) (by have := HBB.out; show w.heap.size ≤ B; omega) (.int .i64 q.1)).setCell (p := ⟨B, 3, none⟩) (by have := HBB.out; show w.heap.size ≤ B; omega) (.int .i64 q.2)
  refine bodyPost_ret (ret_fail _ _ _ _ _ _ _ _ rfl (b2x.set5 _ _ _ _ _)) rfl ?_
  exact ⟨rfl, below5 hLx (by have := HBB.out; omega) _ _ _ _ _⟩
end Go.Proofs.Ytokbipfkpojflaa.Sc
