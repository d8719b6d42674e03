/-
  Networks: the closure of NetworkBrute (layer 46): it tries all intervals between 0 and 5.
-/
import Derived.Test.YtoadihclmnjjnaaNxP
set_option linter.unusedSimpArgs false
set_option linter.unusedVariables false
set_option maxRecDepth 100000
namespace Go.Proofs.Ytoadihclmnjjnaa.Nw
open Go Go.RowKit Go.ChangeShapes Go.WideShapes Go.Proofs.Ytoadihclmnjjnaa.Sl Go.Proofs.Ytoadihclmnjjnaa.Al Go.Lib
open Go.Proofs.Ytoadihclmnjjnaa.Iv (validB ofZ)

/-- What the closure adds, of all intervals behind P. -/
def impB (l : List Rl) (i j : Nat) : Nat → List (Int × Int) → Nat → Nat
  | 0, P, imp => if holdsN l P = true then imp ||| 2 ^ ofN P i j else imp
  | d + 1, P, imp => spL.foldl (fun o s => impB l i j d (P ++ [s]) o) imp
theorem foldl_lt {α : Type} (f : Nat → α → Nat) (l : List α) : ∀ (o : Nat), (∀ o s, s ∈ l → o < 8192 → f o s < 8192) → o < 8192 → l.foldl f o < 8192 := by
  induction l with
  | nil => intro o _ h; exact h
  | cons x l ih =>
    intro o hf h
    exact ih _ (fun o s hs => hf o s (List.mem_cons_of_mem _ hs)) (hf o x (by simp) h)
theorem impB_lt (l : List Rl) {i j : Nat} : ∀ (d : Nat) (P : List (Int × Int)) (imp : Nat), i < P.length + d → j < P.length + d → imp < 8192 → impB l i j d P imp < 8192
  | 0, P, imp, hi, hj, h => by
    unfold impB
    split
    · rename_i hh
      exact Al.or_lt h (pow13_lt _ (ofN_lt (allV_of (holds_parts hh).1) hi hj))
    · exact h
  | d + 1, P, imp, hi, hj, h => by
    unfold impB
    exact foldl_lt _ _ _ (fun o s _ ho => impB_lt l d (P ++ [s]) o (by simp; omega) (by simp; omega) ho) h
theorem cellsP_set : ∀ (A : List (Int × Int)) (k : Nat) (p : Int × Int), k < A.length → cellsP (A.set k p) = ((cellsP A).set (k * 2) (.int .i64 p.1)).set (k * 2 + 1) (.int .i64 p.2)
  | [], k, p, h => by simp at h
  | q :: A, 0, p, h => rfl
  | q :: A, k + 1, p, h => by
    have e : ∀ (x : Int × Int) (L : List (Int × Int)), cellsP (x :: L) = .int .i64 x.1 :: .int .i64 x.2 :: cellsP L := fun _ _ => rfl
    rw [List.set_cons_succ, e, e, cellsP_set A k p (by simpa using h), show (k + 1) * 2 = k * 2 + 1 + 1 by omega, show k * 2 + 1 + 1 + 1 = (k * 2 + 1) + 1 + 1 by omega]
    rfl
theorem heap_set (w : World) (g i : Nat) (l : List Value) (t : TypeId) (v : Value) (hg : w.heap[g]? = some (.cells l.toArray t (0, 0))) : (w.setCell ⟨g, i, none⟩ v).heap[g]? = some (.cells (l.set i v).toArray t (0, 0)) := by
  rw [heap_setCell_same w g i _ t v hg]
  simp
theorem heap_span {w : World} {T k : Nat} {A : List (Int × Int)} {t : TypeId} (h : w.heap[T]? = some (.cells (cellsP A).toArray t (0, 0))) (hk : k < A.length) (x y : Int) :
    ((w.setCell ⟨T, k * 2, none⟩ (.int .i64 x)).setCell ⟨T, k * 2 + 1, none⟩ (.int .i64 y)).heap[T]? = some (.cells (cellsP (A.set k (x, y))).toArray t (0, 0)) := by
  rw [cellsP_set A k (x, y) hk]
  exact heap_set _ _ _ _ _ _ (heap_set _ _ _ _ _ _ h)
theorem ps_block {w : World} {T cap : Nat} {A : List (Int × Int)} {t : TypeId} (h : w.heap[T]? = some (.cells (cellsP A).toArray t (0, 0))) (hl : A.length ≤ 9223372036854775807) : Ps w (.slice (some ⟨T, 0, none⟩) A.length cap) A := by
  refine ⟨Sl.mk (cellsP_len A) (fun j u hu => ?_), hl⟩
  rw [Nat.zero_add, cell_of_row _ _ j _ _ _ h]
  simpa using hu
theorem take_set {A : List (Int × Int)} {k : Nat} (h : k < A.length) (s : Int × Int) : (A.set k s).take (k + 1) = A.take k ++ [s] := by
  rw [List.take_add_one, List.take_set_of_le (Nat.le_refl k)]
  simp [h]
/-- What stands in memory, besides the intervals tried and what is implied. -/
structure BrF (BN BA BT BF BL BI Bi Bj T : Nat) (va s : Value) (n i j : Nat) (l : List Rl) (W : World) : Prop where
  cN : W.cell? ⟨BN, 0, none⟩ = some (.int .i64 (n : Int))
  cA : W.cell? ⟨BA, 0, none⟩ = some va
  cT : W.cell? ⟨BT, 0, none⟩ = some (.slice (some ⟨T, 0, none⟩) n n)
  cF : W.cell? ⟨BF, 0, none⟩ = some (.func (.func 29) #[] #[.pointer (some ⟨BN, 0, none⟩), .pointer (some ⟨BA, 0, none⟩), .pointer (some ⟨BT, 0, none⟩), .pointer (some ⟨BF, 0, none⟩), .pointer (some ⟨BL, 0, none⟩), .pointer (some ⟨BI, 0, none⟩), .pointer (some ⟨Bi, 0, none⟩), .pointer (some ⟨Bj, 0, none⟩)])
  cL : W.cell? ⟨BL, 0, none⟩ = some s
  ci : W.cell? ⟨Bi, 0, none⟩ = some (.int .i64 (i : Int))
  cj : W.cell? ⟨Bj, 0, none⟩ = some (.int .i64 (j : Int))
  hA : Ps W va spL
  hL : Rs W s l
/-- What the closure leaves behind. -/
def BrE (T BI n i j d k : Nat) (l : List Rl) (A : List (Int × Int)) (imp : Nat) (w0 : World) (e : Ending) (w' : World) : Prop := e = .returned (.tuple #[]) ∧ Md (fun b => b = T ∨ b = BI) w0 w' ∧
  ∃ A', A'.length = n ∧ A'.take k = A.take k ∧ w'.heap[T]? = some (.cells (cellsP A').toArray 48 (0, 0)) ∧ w'.heap[BI]? = some (.cells #[.int .i64 ((impB l i j d (A.take k) imp : Nat) : Int)] 3 (0, 0))
set_option maxHeartbeats 8000000 in
theorem try_any (BN BA BT BF BL BI Bi Bj T : Nat) (va s : Value) (n i j : Nat) (l : List Rl) (w0 : World) (hn : n ≤ 3) (hi : i < n) (hj : j < n) (hTI : T ≠ BI) (hT0 : T < w0.heap.size) (hI0 : BI < w0.heap.size)
    (HK : ∀ W, Md (fun b => b = T ∨ b = BI) w0 W → BrF BN BA BT BF BL BI Bi Bj T va s n i j l W) : ∀ (d k : Nat), k + d = n → ∀ (A : List (Int × Int)) (imp : Nat) (W : World), A.length = n → imp < 8192 → Md (fun b => b = T ∨ b = BI) w0 W →
      W.heap[T]? = some (.cells (cellsP A).toArray 48 (0, 0)) → W.heap[BI]? = some (.cells #[.int .i64 (imp : Int)] 3 (0, 0)) →
      Calls Try.prog 29 #[.int .i64 (k : Int), .pointer (some ⟨BN, 0, none⟩), .pointer (some ⟨BA, 0, none⟩), .pointer (some ⟨BT, 0, none⟩), .pointer (some ⟨BF, 0, none⟩), .pointer (some ⟨BL, 0, none⟩), .pointer (some ⟨BI, 0, none⟩), .pointer (some ⟨Bi, 0, none⟩), .pointer (some ⟨Bj, 0, none⟩)] W (BrE T BI n i j d k l A imp w0) := by
  intro d
  induction d with
  | zero =>
    intro k hk A imp W hA himp hMd hT hI
    obtain rfl : n = k := by omega
    obtain ⟨cN, cA, cT, cF, cL, ci, cj, hvA, hL⟩ := HK W hMd
    have hP : Ps W (.slice (some ⟨T, 0, none⟩) n n) A := by have := ps_block (cap := n) hT (by omega); rwa [hA] at this
    have HH := rholds_any l A s _ W hL hP
    have HT := Lib.hid hT
    have HI := Lib.hid hI
    have HA := Lib.hid hA
    have HMD := Lib.hid hMd
    have HFK := Lib.hid HK
    have eI := cell_of_row _ _ 0 _ _ _ hI
    have hlI : BI < W.heap.size := (Array.getElem?_eq_some_iff.1 hI).1
    have fI := frozen_of_row W BI 0 _ _ hI
    have eT : A.take n = A := List.take_of_length_le (by omega)
    unfold BrE impB
    rw [eT]
    have HET := Lib.hid eT
    clear hT hI hL hvA cA cF HK hMd hP eT hA
    cases hZ : holdsN l A
    · rw [hZ] at HH
      clear hZ
      go_enter Try.func29, Try.ntmps29
      go_wp2_with (go_at_call 30; (with_reducible refine HH.mono ?_); rintro e w1 ⟨rfl, hb⟩)
      go_end0
      exact ⟨rfl, HMD.out.step hb, A, HA.out, HET.out, (hb.block T (Array.getElem?_eq_some_iff.1 HT.out).1).trans HT.out, (hb.block BI (Array.getElem?_eq_some_iff.1 HI.out).1).trans HI.out⟩
    · rw [hZ] at HH
      obtain ⟨g1, g2⟩ := holds_parts hZ
      have hv := allV_of g1
      have hlt : ofN A i j < 13 := ofN_lt hv (by rw [HA.out]; exact hi) (by rw [HA.out]; exact hj)
      have hof : ofZ (A.getD i (0, 0)).1 (A.getD i (0, 0)).2 (A.getD j (0, 0)).1 (A.getD j (0, 0)).2 = ((ofN A i j : Nat) : Int) := by
        have b := ofZ_bd _ _ _ _ (hv i (by rw [HA.out]; exact hi)) (hv j (by rw [HA.out]; exact hj))
        unfold ofN
        omega
      have HOF := fun W => Iv.of_any (A.getD i (0, 0)).1 (A.getD i (0, 0)).2 (A.getD j (0, 0)).1 (A.getD j (0, 0)).2 W
      rw [hof] at HOF
      have hai : A[i]? = some (A.getD i (0, 0)) := by rw [List.getD_eq_getElem?_getD, List.getElem?_eq_getElem (by rw [HA.out]; exact hi)]; rfl
      have haj : A[j]? = some (A.getD j (0, 0)) := by rw [List.getD_eq_getElem?_getD, List.getElem?_eq_getElem (by rw [HA.out]; exact hj)]; rfl
      obtain ⟨c0, c1⟩ := cellsP_at A i _ hai
      obtain ⟨c2, c3⟩ := cellsP_at A j _ haj
      have x0 : W.cell? ⟨T, i * 2, none⟩ = some (.int .i64 (A.getD i (0, 0)).1) := by rw [cell_of_row _ _ (i * 2) _ _ _ HT.out]; simpa using c0
      have x1 : W.cell? ⟨T, i * 2 + 1, none⟩ = some (.int .i64 (A.getD i (0, 0)).2) := by rw [cell_of_row _ _ (i * 2 + 1) _ _ _ HT.out]; simpa using c1
      have y0 : W.cell? ⟨T, j * 2, none⟩ = some (.int .i64 (A.getD j (0, 0)).1) := by rw [cell_of_row _ _ (j * 2) _ _ _ HT.out]; simpa using c2
      have y1 : W.cell? ⟨T, j * 2 + 1, none⟩ = some (.int .i64 (A.getD j (0, 0)).2) := by rw [cell_of_row _ _ (j * 2 + 1) _ _ _ HT.out]; simpa using c3
      generalize A.getD i (0, 0) = P at *
      generalize A.getD j (0, 0) = Q at *
      obtain ⟨p0, p1⟩ := P
      obtain ⟨q0, q1⟩ := Q
      dsimp only at x0 x1 y0 y1 HOF
      generalize ofN A i j = t at *
      have hp1 := wrap_pw t (by omega)
      have hor : bits .or .i64 (imp : Int) ((pw t : Nat) : Int) = ((imp ||| 2 ^ t : Nat) : Int) := Bt.bits_or _ _ (by omega) (by have := pow_lt t (by omega); unfold pw; omega)
      have i0 : (0 : Int) ≤ (i : Int) := by omega
      have j0 : (0 : Int) ≤ (j : Int) := by omega
      have i1 : (i : Int) < (n : Int) := by omega
      have j1 : (j : Int) < (n : Int) := by omega
      have t0 : (0 : Int) ≤ (t : Int) := by omega
      have t1 : (t : Int) < 13 := by omega
      clear hZ g1 g2 hv hof hai haj c0 c1 c2 c3
      go_enter Try.func29, Try.ntmps29
      go_upto_region 8 with (go_at_call 30; (with_reducible refine HH.mono ?_); rintro e w1 ⟨rfl, hb⟩)
      have z0 := cell_regrown (Go.Proofs.Ytoadihclmnjjnaa.Sl.cell_kept x0 hb)
      have z1 := cell_regrown (Go.Proofs.Ytoadihclmnjjnaa.Sl.cell_kept x1 hb)
      have z2 := cell_regrown (Go.Proofs.Ytoadihclmnjjnaa.Sl.cell_kept y0 hb)
      have z3 := cell_regrown (Go.Proofs.Ytoadihclmnjjnaa.Sl.cell_kept y1 hb)
      have z4 := cell_regrown (Go.Proofs.Ytoadihclmnjjnaa.Sl.cell_kept eI hb)
      have z5 := cell_regrown (Go.Proofs.Ytoadihclmnjjnaa.Sl.cell_kept cT hb)
      have z6 := cell_regrown (Go.Proofs.Ytoadihclmnjjnaa.Sl.cell_kept ci hb)
      have z7 := cell_regrown (Go.Proofs.Ytoadihclmnjjnaa.Sl.cell_kept cj hb)
      have HBB := Lib.hid hb
      have HEI := Lib.hid (show w1.cell? ⟨BI, 0, none⟩ = some (.int .i64 (imp : Int)) from Go.Proofs.Ytoadihclmnjjnaa.Sl.cell_kept eI hb)
      have HFI := Lib.hid (show w1.frozen? ⟨BI, 0, none⟩ = false from (hb.frozen (p := ⟨BI, 0, none⟩) hlI).trans fI)
      have hlI1 : BI < w1.heap.size := Nat.lt_of_lt_of_le hlI hb.size
      clear x0 x1 y0 y1 eI cT ci cj cN cL fI hb
      refine Lst.wp_region_below_lastN 12 rfl rfl (by kernel_rfl) (by kernel_rfl) (by kernel_rfl) ?_
      simp only [List.take_succ_cons, List.take_zero]
      repeat (go_big_quiet_step (first | (go_at_call 31; with_reducible exact Calls.regrown_of (HOF _))))
      refine wpQuiet_nil ?_
      intro w9 hb9
      refine ⟨by rfl, ?_⟩
      have c9 := Go.Proofs.Ytoadihclmnjjnaa.Sl.cell_kept HEI.out hb9
      have f9 : w9.frozen? ⟨BI, 0, none⟩ = false := (hb9.frozen (p := ⟨BI, 0, none⟩) hlI1).trans HFI.out
      clear z0 z1 z2 z3 z4 z5 z6 z7
      go_simp
      have hBB := bstep HBB.out hb9
      have hT9 : w9.heap[T]? = some (.cells (cellsP A).toArray 48 (0, 0)) := (hBB.block T (Array.getElem?_eq_some_iff.1 HT.out).1).trans HT.out
      have hI9 : w9.heap[BI]? = some (.cells #[.int .i64 (imp : Int)] 3 (0, 0)) := (hBB.block BI (Array.getElem?_eq_some_iff.1 HI.out).1).trans HI.out
      have hMD9 : Md (fun b => b = T ∨ b = BI) w0 (w9.setCell ⟨BI, 0, none⟩ (.int .i64 ((imp ||| 2 ^ t : Nat) : Int))) := (HMD.out.step hBB).setCell 0 (Or.inl (Or.inr rfl)) _
      have hTW : (w9.setCell ⟨BI, 0, none⟩ (.int .i64 ((imp ||| 2 ^ t : Nat) : Int))).heap[T]? = some (.cells (cellsP A).toArray 48 (0, 0)) := (heap_setCell_other _ _ _ _ hTI).trans hT9
      have hIW : (w9.setCell ⟨BI, 0, none⟩ (.int .i64 ((imp ||| 2 ^ t : Nat) : Int))).heap[BI]? = some (.cells #[.int .i64 ((imp ||| 2 ^ t : Nat) : Int)] 3 (0, 0)) := by
        rw [heap_setCell_same _ _ _ _ _ _ hI9]; rfl
      generalize (w9.setCell ⟨BI, 0, none⟩ (.int .i64 ((imp ||| 2 ^ t : Nat) : Int))) = W9 at *
      clear c9 f9 hb9 hBB hT9 hI9
      go_wp2
      go_end0
      exact ⟨rfl, hMD9, A, HA.out, HET.out, hTW, hIW⟩
  | succ d ih =>
    intro k hk A imp W hA himp hMd hT hI
    obtain ⟨cN, cA, cT, cF, cL, ci, cj, hvA, hL⟩ := HK W hMd
    obtain ⟨gA, oA, cp, rfl, hcA⟩ := hvA.get (by rw [spL_len]; omega)
    have e15 := spL_len
    have hkn : k < n := by omega
    have k0 : (0 : Int) ≤ (k : Int) := by omega
    have k1 : (k : Int) < (n : Int) := by omega
    have HKH := Lib.hid HK
    have HIH := Lib.hid (ih (k + 1) (by omega))
    have HST := Lib.hid (show A.length = n ∧ A.take k = A.take k ∧ imp = (spL.take 0).foldl (fun o s => impB l i j d (A.take k ++ [s]) o) imp ∧ Md (fun b => b = T ∨ b = BI) w0 W ∧ W.heap[T]? = some (.cells (cellsP A).toArray 48 (0, 0)) ∧ W.heap[BI]? = some (.cells #[.int .i64 (imp : Int)] 3 (0, 0)) from ⟨hA, rfl, rfl, hMd, hT, hI⟩)
    have HLT := Lib.hid (fun q => foldl_lt (fun o s => impB l i j d (A.take k ++ [s]) o) (spL.take q) imp (fun o s _ ho => impB_lt l d (A.take k ++ [s]) o (by rw [List.length_append, List.length_take]; simp; omega) (by rw [List.length_append, List.length_take]; simp; omega) ho) himp)
    rw [e15] at cA
    clear HK ih hA hMd hT hI hvA hL hcA cT cF cL ci cj himp
    go_enter Try.func29, Try.ntmps29
    go_wp2
    go_loopw [17] (fun qv wr => ∃ (q : Nat) (A1 : List (Int × Int)) (o : Nat), q ≤ 15 ∧ qv = .int .i64 (q : Int) ∧ Hid (A1.length = n ∧ A1.take k = A.take k ∧ o = (spL.take q).foldl (fun o s => impB l i j d (A.take k ++ [s]) o) imp ∧ Md (fun b => b = T ∨ b = BI) w0 wr ∧ wr.heap[T]? = some (.cells (cellsP A1).toArray 48 (0, 0)) ∧ wr.heap[BI]? = some (.cells #[.int .i64 (o : Int)] 3 (0, 0)))) (fun qv _ => 15 - (RowKit.intOf qv).toNat)
    case atStart => exact ⟨0, A, imp, Nat.zero_le _, rfl, Lib.hid (by obtain ⟨a1, a2, a3⟩ := HST.out; exact ⟨a1, by first | rfl | trivial, a3⟩)⟩
    case round =>
      clear cN cA
      obtain ⟨q, A1, o, hq, rfl, hinv⟩ := hrel
      obtain ⟨hA1, hpre, ho, hMd1, hT1, hI1⟩ := hinv.out
      by_cases hqm : q < 15
      · obtain ⟨cN, cA, cT, cF, cL, ci, cj, hvA, hL⟩ := HKH.out wr hMd1
        obtain ⟨gA', oA', cp', e, hcl⟩ := hvA.get (by rw [spL_len]; omega)
        cases e
        obtain ⟨⟨x, y⟩, hs⟩ : ∃ t, spL[q]? = some t := ⟨_, List.getElem?_eq_getElem (by rw [spL_len]; exact hqm)⟩
        obtain ⟨s0, s1⟩ := hcl q _ hs
        dsimp only at s0 s1
        have hak : A1[k]? = some (A1.getD k (0, 0)) := by rw [List.getD_eq_getElem?_getD, List.getElem?_eq_getElem (by omega)]; rfl
        obtain ⟨c0, c1⟩ := cellsP_at A1 k _ hak
        have t0 : wr.cell? ⟨T, k * 2, none⟩ = some (.int .i64 (A1.getD k (0, 0)).1) := by rw [cell_of_row _ _ (k * 2) _ _ _ hT1]; simpa using c0
        have t1 : wr.cell? ⟨T, k * 2 + 1, none⟩ = some (.int .i64 (A1.getD k (0, 0)).2) := by rw [cell_of_row _ _ (k * 2 + 1) _ _ _ hT1]; simpa using c1
        have f0 := frozen_of_row wr T (k * 2) _ _ hT1
        have f1 := frozen_of_row wr T (k * 2 + 1) _ _ hT1
        generalize A1.getD k (0, 0) = P at t0 t1
        have q0 : (0 : Int) ≤ (q : Int) := by omega
        have q1 : (q : Int) < 15 := by omega
        have lT : T < wr.heap.size := (Array.getElem?_eq_some_iff.1 hT1).1
        have lI : BI < wr.heap.size := (Array.getElem?_eq_some_iff.1 hI1).1
        have lBT := block_of_cell cT
        have HS := Lib.hid hs
        have HA1 := Lib.hid hA1
        have HPRE := Lib.hid hpre
        have HO := Lib.hid ho
        have ho8 : o < 8192 := by rw [ho]; exact HLT.out q
        have HMD1 := Lib.hid hMd1
        have HT1 := Lib.hid hT1
        have HI1 := Lib.hid hI1
        clear hinv hA1 hpre ho hMd1 hT1 hI1 hak c0 c1 cN cA cL ci cj hvA hL hcl hs cF
        go_upto_region 5 with fail
        have hAl : k < A1.length := by rw [HA1.out]; exact hkn
        have hT5 : (((wr.setCell ⟨T, k * 2, none⟩ (.int .i64 x)).setCell ⟨T, k * 2 + 1, none⟩ (.int .i64 y)).alloc (.cells #[.int .i64 x, .int .i64 y] 48)).heap[T]? = some (.cells (cellsP (A1.set k (x, y))).toArray 48 (0, 0)) := by
          rw [Below.heap_alloc _ _ _ (by simpa [World.setCell] using lT)]
          exact heap_span HT1.out hAl x y
        have hI5 : (((wr.setCell ⟨T, k * 2, none⟩ (.int .i64 x)).setCell ⟨T, k * 2 + 1, none⟩ (.int .i64 y)).alloc (.cells #[.int .i64 x, .int .i64 y] 48)).heap[BI]? = some (.cells #[.int .i64 (o : Int)] 3 (0, 0)) := by
          rw [Below.heap_alloc _ _ _ (by simpa [World.setCell] using lI), heap_setCell_other _ _ _ _ (Ne.symm hTI), heap_setCell_other _ _ _ _ (Ne.symm hTI)]
          exact HI1.out
        have hMd5 : Md (fun b => b = T ∨ b = BI) w0 (((wr.setCell ⟨T, k * 2, none⟩ (.int .i64 x)).setCell ⟨T, k * 2 + 1, none⟩ (.int .i64 y)).alloc (.cells #[.int .i64 x, .int .i64 y] 48)) := ((HMD1.out.setCell _ (Or.inl (Or.inl rfl)) _).setCell _ (Or.inl (Or.inl rfl)) _).alloc _
        generalize ((wr.setCell ⟨T, k * 2, none⟩ (.int .i64 x)).setCell ⟨T, k * 2 + 1, none⟩ (.int .i64 y)).alloc (.cells #[.int .i64 x, .int .i64 y] 48) = W5 at *
        clear t0 t1 f0 f1 s0 s1 lT lI lBT cT
        obtain ⟨_, _, _, cF5, _, _, _, _, _⟩ := HKH.out W5 hMd5
        have hw1 : IntKind.i64.wrap ((k : Int) + 1) = ((k + 1 : Nat) : Int) := by rw [IntKind.wrap_i64]; omega
        have HC := HIH.out (A1.set k (x, y)) o W5 (by rw [List.length_set]; exact HA1.out) ho8 hMd5 hT5 hI5
        have HTK := Lib.hid (show (A1.set k (x, y)).take (k + 1) = A.take k ++ [(x, y)] by rw [take_set hAl, HPRE.out])
        clear hT5 hI5 hMd5 hAl
        rw [show ((k + 1 : Nat) : Int) = (k : Int) + 1 by omega] at HC hw1
        go_wp2_with (go_at_call 29; (with_reducible refine HC.mono ?_); rintro e w6 ⟨rfl, hMd6, A6, hA6, hp6, hT6, hI6⟩; have HP6 := Lib.hid hp6; have HT6 := Lib.hid hT6; have HI6 := Lib.hid hI6; have HA6 := Lib.hid hA6; have HM6 := Lib.hid hMd6; clear hp6 hT6 hI6 hA6 hMd6)
        have hp6 := HP6.out
        have hI6 := HI6.out
        rw [HTK.out] at hp6 hI6
        have H6 := Lib.hid (show A6.length = n ∧ A6.take k = A.take k ∧ impB l i j d (A.take k ++ [(x, y)]) o = (spL.take (q + 1)).foldl (fun o s => impB l i j d (A.take k ++ [s]) o) imp ∧ Md (fun b => b = T ∨ b = BI) w0 w6 ∧ w6.heap[T]? = some (.cells (cellsP A6).toArray 48 (0, 0)) ∧ w6.heap[BI]? = some (.cells #[.int .i64 ((impB l i j d (A.take k ++ [(x, y)]) o : Nat) : Int)] 3 (0, 0)) from ⟨HA6.out, (by
          have e := congrArg (List.take k) hp6
          rw [List.take_take, Nat.min_eq_left (Nat.le_succ k)] at e
          rw [e, ← HPRE.out]
          refine List.take_append_of_le_length ?_ |>.trans ?_
          · rw [List.length_take, HA1.out]; omega
          · rw [List.take_take, Nat.min_self]), (by rw [List.take_add_one, HS.out, List.foldl_append, ← HO.out]; rfl), HM6.out, HT6.out, hI6⟩)
        clear hp6 hI6
        go_roundw
        case rel => exact ⟨q + 1, A6, _, by omega, by go_num, H6⟩
        case measure => simp [RowKit.intOf]; omega
      · obtain rfl : 15 = q := by omega
        have HF := Lib.hid (show Md (fun b => b = T ∨ b = BI) w0 wr ∧ A1.length = n ∧ A1.take k = A.take k ∧ wr.heap[T]? = some (.cells (cellsP A1).toArray 48 (0, 0)) ∧ wr.heap[BI]? = some (.cells #[.int .i64 ((impB l i j (d + 1) (A.take k) imp : Nat) : Int)] 3 (0, 0)) from ⟨hMd1, hA1, hpre, hT1, (by
          have e : impB l i j (d + 1) (A.take k) imp = o := by
            rw [ho, show spL.take 15 = spL from List.take_of_length_le (by rw [spL_len]; omega)]; rfl
          rw [e]; exact hI1)⟩)
        clear hinv hA1 hpre ho hMd1 hT1 hI1
        go_wp2
        go_end0
        obtain ⟨a1, a2, a3, a4, a5⟩ := HF.out
        exact ⟨rfl, a1, A1, a2, a3, a4, a5⟩
end Go.Proofs.Ytoadihclmnjjnaa.Nw
