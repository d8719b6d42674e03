/-
  The walk of the law NetworkImplies (layer 46). Written by gen_nxl.py.
-/
import Derived.Test.YtoadihclmnjjnaaNxK
import Derived.Test.YtoadihclmnjjnaaNop
import Derived.Test.YtoadihclmnjjnaaNwZ
set_option linter.unusedSimpArgs false
set_option linter.unusedVariables false
set_option maxRecDepth 100000
namespace Go.Proofs.Ytoadihclmnjjnaa.Nw
open Go Go.RowKit Go.ChangeShapes Go.WideShapes Go.Proofs.Ytoadihclmnjjnaa.Sl Go.Proofs.Ytoadihclmnjjnaa.Al Go.Lib

theorem box3 {w W : World} {a b c : Value} {t : TypeId} (h : w.alloc (.cells #[a, b, c] t) = W) : Below w.heap.size w W ∧ W.cell? ⟨w.heap.size, 0, none⟩ = some a ∧ W.cell? ⟨w.heap.size, 1, none⟩ = some b ∧ W.cell? ⟨w.heap.size, 2, none⟩ = some c := by
  subst h
  refine ⟨(Below.refl _ _).alloc (Nat.le_refl _) _, ?_, ?_, ?_⟩
  · rw [cell_of_row _ _ 0 _ _ _ (heap_alloc_new w _)]; rfl
  · rw [cell_of_row _ _ 1 _ _ _ (heap_alloc_new w _)]; rfl
  · rw [cell_of_row _ _ 2 _ _ _ (heap_alloc_new w _)]; rfl
theorem imp_bad {n : Int} {l : List Rl} {i j : Int} {s : Value} {W : World} (hv : vldN n l = false) (h : Calls Try.prog 26 #[.int .i64 n, s, .int .i64 i, .int .i64 j] W fun e w' => Below W.heap.size W w' ∧ ∃ a b : Int, e = .returned (.tuple #[.int .i64 a, .int .i64 b]) ∧
      (vldN n l = false → a = 0 ∧ b = 1) ∧ (vldN n l = true → ¬ (0 ≤ i ∧ i < n ∧ 0 ≤ j ∧ j < n) → a = 0 ∧ b = 2) ∧
      (∀ k p q : Nat, n = (k : Int) → i = (p : Int) → j = (q : Int) → vldN n l = true → p < k → q < k → ∃ out : Nat, ImO k l p q 13 out ∧ a = (out : Int) ∧ b = if out = 0 then 17 else 0)) :
    Calls Try.prog 26 #[.int .i64 n, s, .int .i64 i, .int .i64 j] W fun e w' => e = .returned (.tuple #[.int .i64 0, .int .i64 1]) ∧ Below W.heap.size W w' := h.mono (by
  rintro e w' ⟨hb, a, b, rfl, h1, _, _⟩
  obtain ⟨rfl, rfl⟩ := h1 hv
  exact ⟨rfl, hb⟩)
theorem imp_out {n : Int} {l : List Rl} {i j : Int} {s : Value} {W : World} (hv : vldN n l = true) (hr : ¬ (0 ≤ i ∧ i < n ∧ 0 ≤ j ∧ j < n)) (h : Calls Try.prog 26 #[.int .i64 n, s, .int .i64 i, .int .i64 j] W fun e w' => Below W.heap.size W w' ∧ ∃ a b : Int, e = .returned (.tuple #[.int .i64 a, .int .i64 b]) ∧
      (vldN n l = false → a = 0 ∧ b = 1) ∧ (vldN n l = true → ¬ (0 ≤ i ∧ i < n ∧ 0 ≤ j ∧ j < n) → a = 0 ∧ b = 2) ∧
      (∀ k p q : Nat, n = (k : Int) → i = (p : Int) → j = (q : Int) → vldN n l = true → p < k → q < k → ∃ out : Nat, ImO k l p q 13 out ∧ a = (out : Int) ∧ b = if out = 0 then 17 else 0)) :
    Calls Try.prog 26 #[.int .i64 n, s, .int .i64 i, .int .i64 j] W fun e w' => e = .returned (.tuple #[.int .i64 0, .int .i64 2]) ∧ Below W.heap.size W w' := h.mono (by
  rintro e w' ⟨hb, a, b, rfl, _, h1, _⟩
  obtain ⟨rfl, rfl⟩ := h1 hv hr
  exact ⟨rfl, hb⟩)
theorem bits_andNot {a b : Nat} (h : Sub a b) : bits .andNot .i64 (a : Int) (b : Int) = 0 := by
  have h2 : BitVec.ofInt 64 (a : Int) &&& ~~~ BitVec.ofInt 64 (b : Int) = 0#64 := by
    apply BitVec.eq_of_getLsbD_eq
    intro i hi
    rw [BitVec.getLsbD_and, BitVec.getLsbD_not, BitVec.ofInt_natCast, BitVec.ofInt_natCast, BitVec.getLsbD_ofNat, BitVec.getLsbD_ofNat]
    cases ht : a.testBit i
    · simp
    · rw [h i ht]; simp
  show IntKind.i64.wrap ((BitVec.ofInt 64 (a : Int) &&& ~~~ BitVec.ofInt 64 (b : Int)).toNat : Int) = _
  rw [h2]
  rfl
theorem ImO.more {n : Nat} {l : List Rl} {u : Rl} {i j r a b : Nat} (h : ImO n l i j r a) (k : ImO n (l ++ [u]) i j r b) : Sub b a := fun c hc => by
  obtain ⟨h1, h2⟩ := (k c).1 hc
  exact (h c).2 ⟨h1, h2.mono fun x hx => by
    rcases List.mem_append.1 hx with hx | hx
    · exact List.mem_append_left _ (List.mem_append_left _ hx)
    · exact List.mem_append_right _ hx⟩
theorem imp_more {k : Nat} {l : List Rl} {p q out : Nat} {u : Rl} {s : Value} {W : World} (hp : p < k) (hq : q < k) (hI : ImO k l p q 13 out) (hs : Rs W s (l ++ [u])) :
    Calls Try.prog 26 #[.int .i64 (k : Int), s, .int .i64 (p : Int), .int .i64 (q : Int)] W fun e w' => ∃ a b : Int, e = .returned (.tuple #[.int .i64 a, .int .i64 b]) ∧ Below W.heap.size W w' ∧ (b ≠ 0 ∨ b = 0 ∧ a ≠ 0 ∧ bits .andNot .i64 a (out : Int) = 0) := (implied_any (k : Int) (l ++ [u]) p q s W hs).mono (by
  rintro e w' ⟨hb, a, b, rfl, h1, _, h3⟩
  refine ⟨a, b, rfl, hb, ?_⟩
  cases hv : vldN (k : Int) (l ++ [u])
  · obtain ⟨_, rfl⟩ := h1 hv
    exact Or.inl (by decide)
  · obtain ⟨o2, h4, rfl, rfl⟩ := h3 k p q rfl rfl rfl hv hp hq
    by_cases h0 : o2 = 0
    · rw [if_pos h0]; exact Or.inl (by decide)
    · rw [if_neg h0]
      exact Or.inr ⟨rfl, by omega, bits_andNot (hI.more h4)⟩)
theorem imp_in {k : Nat} {l : List Rl} {p q : Nat} {s : Value} {W : World} (hv : vldN (k : Int) l = true) (hp : p < k) (hq : q < k) (h : Calls Try.prog 26 #[.int .i64 (k : Int), s, .int .i64 (p : Int), .int .i64 (q : Int)] W fun e w' => Below W.heap.size W w' ∧ ∃ a b : Int, e = .returned (.tuple #[.int .i64 a, .int .i64 b]) ∧
      (vldN (k : Int) l = false → a = 0 ∧ b = 1) ∧ (vldN (k : Int) l = true → ¬ (0 ≤ (p : Int) ∧ (p : Int) < k ∧ 0 ≤ (q : Int) ∧ (q : Int) < k) → a = 0 ∧ b = 2) ∧
      (∀ k' p' q' : Nat, (k : Int) = (k' : Int) → (p : Int) = (p' : Int) → (q : Int) = (q' : Int) → vldN (k : Int) l = true → p' < k' → q' < k' → ∃ out : Nat, ImO k' l p' q' 13 out ∧ a = (out : Int) ∧ b = if out = 0 then 17 else 0)) :
    Calls Try.prog 26 #[.int .i64 (k : Int), s, .int .i64 (p : Int), .int .i64 (q : Int)] W fun e w' => ∃ (out : Nat) (b : Int), e = .returned (.tuple #[.int .i64 (out : Int), .int .i64 b]) ∧ Below W.heap.size W w' ∧ ImO k l p q 13 out ∧ b = if out = 0 then 17 else 0 := h.mono (by
  rintro e w' ⟨hb, a, b, rfl, _, _, h3⟩
  obtain ⟨o2, h4, rfl, h5⟩ := h3 k p q rfl rfl rfl hv hp hq
  exact ⟨o2, b, rfl, hb, h4, h5⟩)
theorem step_rel {ops : Array Oper} {o : Oper} {a : Act} {K : Act → World → Prop} {Q : Exit → Act → World → Prop} {E : Prop} {W0 w : World} {v : Value} {l : List Rl} (hB : Rf W0 w v l) (hgd : o.guard = none) (s x : Operand)
    (ho : o.op = .call { callee := .builtin .append, args := #[s, x], argTypes := #[22, 22] }) (hs : a.eval s = v) {H : Nat} (hx : a.eval x = .slice (some ⟨H, 0, none⟩) 1 1) (u : Rl)
    (c0 : w.cell? ⟨H, 0, none⟩ = some (.int .i64 u.i)) (c1 : w.cell? ⟨H, 1, none⟩ = some (.int .i64 u.j)) (c2 : w.cell? ⟨H, 2, none⟩ = some (.int .i64 u.s)) (hlen : l.length ≤ 1000000)
    (h : ∀ v' w', Rf W0 w' v' (l ++ [u]) → K (a.put o.dst v') w') : if Region.wanted o (yielded ops a.tmps) = true then Oper.wp Try.prog o a w K Q else E := by
  obtain ⟨i0, hi, hz0, hz1, hz2⟩ := info_parts infoR
  refine step_append_lies w hgd s x _ ho W0.heap.size _ i0 _ 3 24 Try.underlying22 hi hz0 hz1 hz2 rfl (by decide) v l.length (cellsR l) hs hB.1 ⟨H, 0, none⟩ 1 1 (relC u) hx rfl (fun j y hy => ?_) (fun y hy => ?_) (by omega) (by unfold maxLen; omega) (by omega) hB.2.size _ rfl ?_
  · have hadd : (⟨H, 0, none⟩ : Addr).add j = ⟨H, j, none⟩ := by unfold Addr.add; split <;> simp_all
    rw [hadd]
    match j, hy with
    | 0, hy => cases hy; exact c0
    | 1, hy => cases hy; exact c1
    | 2, hy => cases hy; exact c2
  · simp only [relC, List.mem_cons, List.not_mem_nil, or_false] at hy
    rcases hy with rfl | rfl | rfl <;> rfl
  · intro g cap w' h2 h3 _ _
    refine h _ w' ⟨?_, grow_step hB.2 h3 (fun k hk => (World.ownsRow.lt hB.1 k hk).1)⟩
    rw [cellsR_app, List.length_append]
    exact h2
set_option maxHeartbeats 8000000 in
theorem networkImplies_walk (n : Int) (v : Value) (l : List Rl) (i j : Int) (u : Rl) (w : World) (hn : (Lit.int .i64 n).wf = true) (hs : Rs w v l) (hg : ∀ r ∈ l, FitR r) (hwi : (Lit.int .i64 i).wf = true) (hwj : (Lit.int .i64 j).wf = true) (hu : FitR u) :
    Calls Try.prog 5 #[.int .i64 n, v, .int .i64 i, .int .i64 j, .agg #[.int .i64 u.i, .int .i64 u.j, .int .i64 u.s]] w fun e w' => e = .returned (.bool true) ∧ Below w.heap.size w w' := by
  obtain ⟨ad, c, rfl⟩ := hs.form
  obtain ⟨q, hq⟩ : ∃ q, q = l.length := ⟨_, rfl⟩
  have HQ := Lib.hid hq
  rw [← hq] at hs ⊢
  clear hq hn hwi hwj hu
  have HG := fun W => great_any n ad q c W
  have HRV := fun W (h : Below w.heap.size w W) => rvalid_any n l _ W (hs.below h)
  have HIM := fun W (h : Below w.heap.size w W) => implied_any n l i j _ W (hs.below h)
  go_enter Try.func5, Try.ntmps5
  go_upto_region 1 with fail
  obtain ⟨W0, hW0⟩ : ∃ W0, w.alloc (.cells #[.int .i64 u.i, .int .i64 u.j, .int .i64 u.s] 30) = W0 := ⟨_, rfl⟩
  obtain ⟨hL0, c0, c1, c2⟩ := box3 hW0
  rw [hW0]
  clear hW0
  obtain ⟨BU, hBU⟩ : ∃ BU, BU = w.heap.size := ⟨_, rfl⟩
  rw [← hBU] at c0 c1 c2 ⊢
  clear hBU
  have hL := Below.refl W0.heap.size W0
  cases hgl : grN n q
  · rw [hgl] at HG
    by_cases h4 : n ≤ 4
    · have g4 : decide ((4 : Int) < n) = false := by simp; omega
      by_cases h8 : q ≤ 8
      · have g8 : decide ((8 : Int) < (q : Int)) = false := by simp; omega
        have g8b : decide (8 < q) = false := by simp; omega
        have g8c : ¬ 8 < q := by omega
        have g8d : ¬ (8 : Int) < (q : Int) := by omega
        cases hv : vldN n l
        · rw [hv] at HRV
          have HIF := fun W (h : Below w.heap.size w W) => imp_bad hv (HIM W h)
          clear HIM hv
          go_wp2_with (first | (go_at_call 12; (with_reducible refine (awake_any _).mono ?_); rintro e w1 ⟨rfl, hb⟩; replace hL := bstep hL hb; clear hb) | (go_at_call 13; (with_reducible refine (HG _).mono ?_); rintro e w2 ⟨rfl, rfl⟩) | (go_at_call 15; (with_reducible refine (HRV _ (bstep hL0 hL)).mono ?_); rintro e w3 ⟨rfl, rfl⟩) | (go_at_call 26; (with_reducible refine (HIF _ (bstep hL0 hL)).mono ?_); rintro e w4 ⟨rfl, hb⟩; replace hL := bstep hL hb; clear hb))
          go_ret
          exact ⟨rfl, bstep hL0 hL⟩
        · rw [hv] at HRV
          by_cases hr1 : i < 0
          · have k1 : decide (i < 0) = true := by simpa using hr1
            have HIF := fun W (h : Below w.heap.size w W) => imp_out hv (by omega) (HIM W h)
            clear HIM hv
            go_wp2_with (first | (go_at_call 12; (with_reducible refine (awake_any _).mono ?_); rintro e w1 ⟨rfl, hb⟩; replace hL := bstep hL hb; clear hb) | (go_at_call 13; (with_reducible refine (HG _).mono ?_); rintro e w2 ⟨rfl, rfl⟩) | (go_at_call 15; (with_reducible refine (HRV _ (bstep hL0 hL)).mono ?_); rintro e w3 ⟨rfl, rfl⟩) | (go_at_call 26; (with_reducible refine (HIF _ (bstep hL0 hL)).mono ?_); rintro e w4 ⟨rfl, hb⟩; replace hL := bstep hL hb; clear hb))
            go_ret
            exact ⟨rfl, bstep hL0 hL⟩
          by_cases hr2 : n ≤ i
          · have k1 : decide (i < 0) = false := by simpa using hr1
            have k2 : decide (n ≤ i) = true := by simpa using hr2
            have HIF := fun W (h : Below w.heap.size w W) => imp_out hv (by omega) (HIM W h)
            clear HIM hv
            go_wp2_with (first | (go_at_call 12; (with_reducible refine (awake_any _).mono ?_); rintro e w1 ⟨rfl, hb⟩; replace hL := bstep hL hb; clear hb) | (go_at_call 13; (with_reducible refine (HG _).mono ?_); rintro e w2 ⟨rfl, rfl⟩) | (go_at_call 15; (with_reducible refine (HRV _ (bstep hL0 hL)).mono ?_); rintro e w3 ⟨rfl, rfl⟩) | (go_at_call 26; (with_reducible refine (HIF _ (bstep hL0 hL)).mono ?_); rintro e w4 ⟨rfl, hb⟩; replace hL := bstep hL hb; clear hb))
            go_ret
            exact ⟨rfl, bstep hL0 hL⟩
          by_cases hr3 : j < 0
          · have k1 : decide (i < 0) = false := by simpa using hr1
            have k2 : decide (n ≤ i) = false := by simpa using hr2
            have k3 : decide (j < 0) = true := by simpa using hr3
            have HIF := fun W (h : Below w.heap.size w W) => imp_out hv (by omega) (HIM W h)
            clear HIM hv
            go_wp2_with (first | (go_at_call 12; (with_reducible refine (awake_any _).mono ?_); rintro e w1 ⟨rfl, hb⟩; replace hL := bstep hL hb; clear hb) | (go_at_call 13; (with_reducible refine (HG _).mono ?_); rintro e w2 ⟨rfl, rfl⟩) | (go_at_call 15; (with_reducible refine (HRV _ (bstep hL0 hL)).mono ?_); rintro e w3 ⟨rfl, rfl⟩) | (go_at_call 26; (with_reducible refine (HIF _ (bstep hL0 hL)).mono ?_); rintro e w4 ⟨rfl, hb⟩; replace hL := bstep hL hb; clear hb))
            go_ret
            exact ⟨rfl, bstep hL0 hL⟩
          by_cases hr4 : n ≤ j
          · have k1 : decide (i < 0) = false := by simpa using hr1
            have k2 : decide (n ≤ i) = false := by simpa using hr2
            have k3 : decide (j < 0) = false := by simpa using hr3
            have k4 : decide (n ≤ j) = true := by simpa using hr4
            have HIF := fun W (h : Below w.heap.size w W) => imp_out hv (by omega) (HIM W h)
            clear HIM hv
            go_wp2_with (first | (go_at_call 12; (with_reducible refine (awake_any _).mono ?_); rintro e w1 ⟨rfl, hb⟩; replace hL := bstep hL hb; clear hb) | (go_at_call 13; (with_reducible refine (HG _).mono ?_); rintro e w2 ⟨rfl, rfl⟩) | (go_at_call 15; (with_reducible refine (HRV _ (bstep hL0 hL)).mono ?_); rintro e w3 ⟨rfl, rfl⟩) | (go_at_call 26; (with_reducible refine (HIF _ (bstep hL0 hL)).mono ?_); rintro e w4 ⟨rfl, hb⟩; replace hL := bstep hL hb; clear hb))
            go_ret
            exact ⟨rfl, bstep hL0 hL⟩
          obtain ⟨k, rfl, n0, n8, l200, hok⟩ := vld_ok hv
          obtain ⟨p, rfl⟩ := Int.eq_ofNat_of_zero_le (show 0 ≤ i by omega)
          obtain ⟨r, rfl⟩ := Int.eq_ofNat_of_zero_le (show 0 ≤ j by omega)
          have hp : p < k := by omega
          have hr : r < k := by omega
          have HIF := fun W (h : Below w.heap.size w W) => imp_in hv hp hr (HIM W h)
          have HRI := fun W (h : Below w.heap.size w W) => rimplied_any k l p r _ W n0 n8 hp hr (hs.below h) (by omega) hok
          have HS := Lib.hid hs
          have HLN := Lib.hid (show l.length ≤ 200 from l200)
          have k1 : decide ((p : Int) < 0) = false := by simp
          have k2 : decide ((k : Int) ≤ (p : Int)) = false := by simp; omega
          have k2b : decide (k ≤ p) = false := by simp; omega
          have k2c : ¬ k ≤ p := by omega
          have k3 : decide ((r : Int) < 0) = false := by simp
          have k4 : decide ((k : Int) ≤ (r : Int)) = false := by simp; omega
          have k4b : decide (k ≤ r) = false := by simp; omega
          have k4c : ¬ k ≤ r := by omega
          clear HIM hv hs hg hgl hok hr1 hr2 hr3 hr4 h4 h8
          go_upto_region 11 with (first | (go_at_call 12; (with_reducible refine (awake_any _).mono ?_); rintro e w1 ⟨rfl, hb⟩; replace hL := bstep hL hb; clear hb) | (go_at_call 13; (with_reducible refine (HG _).mono ?_); rintro e w2 ⟨rfl, rfl⟩) | (go_at_call 15; (with_reducible refine (HRV _ (bstep hL0 hL)).mono ?_); rintro e w3 ⟨rfl, rfl⟩) | (go_at_call 26; (with_reducible refine (HIF _ (bstep hL0 hL)).mono ?_); rintro e w4 ⟨out, b, rfl, hb, hI, hB⟩; have HI := Lib.hid hI; have HB := Lib.hid hB; replace hL := bstep hL hb; clear hb hI hB) | (go_at_call 27; (with_reducible refine (HRI _ (bstep hL0 hL)).mono ?_); rintro e w5 ⟨o2, hI2, rfl, hb⟩; obtain rfl : out = o2 := HI.out.eq hI2; replace hL := bstep hL hb; clear hb hI2))
          clear k1 k2 k2b k2c k3 k4 k4b k4c g4 g8 g8b g8c g8d HIF HRI HRV HG
          by_cases h0 : out = 0
          · obtain rfl : b = 17 := by have := HB.out; rw [if_pos h0] at this; exact this
            subst h0
            clear HB
            go_wp2
            go_ret
            exact ⟨rfl, bstep hL0 hL⟩
          obtain rfl : b = 0 := by have := HB.out; rw [if_neg h0] at this; exact this
          have g0 : ((out : Int) == 0) = false := by simp; omega
          clear HB h0
          go_upto_region 13 with fail
          clear g0
          have HSS := Lib.hid (fun V (h : Below W0.heap.size W0 V) => (show V.cell? ⟨BU, 0, none⟩ = some (.int .i64 u.i) ∧ V.cell? ⟨BU, 1, none⟩ = some (.int .i64 u.j) ∧ V.cell? ⟨BU, 2, none⟩ = some (.int .i64 u.s) from ⟨Go.Proofs.Ytoadihclmnjjnaa.Sl.cell_kept c0 h, Go.Proofs.Ytoadihclmnjjnaa.Sl.cell_kept c1 h, Go.Proofs.Ytoadihclmnjjnaa.Sl.cell_kept c2 h⟩))
          have HL := Lib.hid hL.drew
          have HL0 := Lib.hid hL
          have hSS := HSS.out _ HL.out
          clear c0 c1 c2 hL
          refine wp_region_held_drew (S := fun V => V.cell? ⟨BU, 0, none⟩ = some (.int .i64 u.i) ∧ V.cell? ⟨BU, 1, none⟩ = some (.int .i64 u.j) ∧ V.cell? ⟨BU, 2, none⟩ = some (.int .i64 u.s)) (by kernel_rfl) hSS (fun hHeld => ?_)
          (refine wpAnyH_take (i := 0) (v := ?tkv0_1) rfl (by kernel_rfl) (by kernel_rfl) (by kernel_rfl) (fun _ _ _ h => h) (Or.inl ⟨by rfl, ?tky0_1⟩) (by assumption) ?tkr0_1; case tky0_1 => (intro V hV; (try dsimp only at hV); go_simp; (try with_reducible rfl)); try simp only [Act.put, List.setIfInBounds_toArray, List.set_cons_zero, List.set_cons_succ])
          (refine wpAnyH_take (i := 1) (v := ?tkv1_2) rfl (by kernel_rfl) (by kernel_rfl) (by kernel_rfl) (fun _ _ _ h => h) (Or.inl ⟨by rfl, ?tky1_2⟩) (by assumption) ?tkr1_2; case tky1_2 => (intro V hV; (try dsimp only at hV); go_simp; (try with_reducible rfl)); try simp only [Act.put, List.setIfInBounds_toArray, List.set_cons_zero, List.set_cons_succ])
          (refine wpAnyH_take (i := 3) (v := ?tkv3_3) rfl (by kernel_rfl) (by kernel_rfl) (by kernel_rfl) (fun _ _ _ h => h) (Or.inl ⟨by rfl, ?tky3_3⟩) (by assumption) ?tkr3_3; case tky3_3 => (intro V hV; (try dsimp only at hV); go_simp; (try with_reducible rfl)); try simp only [Act.put, List.setIfInBounds_toArray, List.set_cons_zero, List.set_cons_succ])
          (refine wpAnyH_take (i := 6) (v := ?tkv6_4) rfl (by kernel_rfl) (by kernel_rfl) (by kernel_rfl) (fun _ _ _ h => h) (Or.inl ⟨by rfl, ?tky6_4⟩) (by assumption) ?tkr6_4; case tky6_4 => (intro V hV; (try dsimp only at hV); go_simp; (try with_reducible rfl)); try simp only [Act.put, List.setIfInBounds_toArray, List.set_cons_zero, List.set_cons_succ])
          (refine wpAnyH_take (i := 7) (v := ?tkv7_5) rfl (by kernel_rfl) (by kernel_rfl) (by kernel_rfl) (fun _ _ _ h => h) (Or.inl ⟨by rfl, ?tky7_5⟩) (by assumption) ?tkr7_5; case tky7_5 => (intro V hV; (try dsimp only at hV); go_simp; (try with_reducible rfl)); try simp only [Act.put, List.setIfInBounds_toArray, List.set_cons_zero, List.set_cons_succ])
          refine wpAnyH_ready (rs := [2, 4]) (by kernel_rfl) (by simp) ?_
          refine AllReadyH.cons rfl (fun K hK => ?_) (AllReadyH.cons rfl (fun K hK => ?_) AllReadyH.nil)
          · (try go_simp)
            go_at_call 28
            with_reducible refine (clone_rels l _ _ (HS.out.below (bstep hL0 HL.out)) (by have := HLN.out; omega)).mono ?_
            rintro e w6 ⟨v6, rfl, hRf0⟩
            have hL6 := bstep HL.out hRf0.2
            refine hK.out _ _ (HSS.out _ hL6) (fun hHeld => ?_)
            clear hK K
            try simp only [Act.put, List.setIfInBounds_toArray, List.set_cons_zero, List.set_cons_succ]
            refine wpAnyH_ready (rs := [4]) (by kernel_rfl) (by simp) ?_
            refine AllReadyH.cons rfl (fun K hK => ?_) AllReadyH.nil
            (try go_simp)
            obtain ⟨W6, hW6⟩ : ∃ W6, w6.alloc (.cells #[.int .i64 u.i, .int .i64 u.j, .int .i64 u.s] 30) = W6 := ⟨_, rfl⟩
            obtain ⟨hb6, e0, e1, e2⟩ := box3 hW6
            have hRf : Rf w5.drew W6 v6 l := by rw [← hW6]; exact hRf0.alloc _
            rw [hW6]
            clear hW6 hRf0
            refine hK.out _ _ (HSS.out _ (bstep hL6 hb6)) (fun hHeld => ?_)
            clear hK K hL6 hb6 hSS
            try simp only [Act.put, List.setIfInBounds_toArray, List.set_cons_zero, List.set_cons_succ]
            refine wpAnyH_ready (rs := [5]) (by kernel_rfl) (by simp) ?_
            refine AllReadyH.cons rfl (fun K hK => ?_) AllReadyH.nil
            refine step_rel hRf rfl (.tmp 97) (.tmp 99) rfl rfl rfl u e0 e1 e2 (by have := HLN.out; omega) ?_
            intro v7 w7 hR7
            have hL7 := bstep HL.out hR7.2
            have hRs := hR7.rs (by have := HLN.out; rw [List.length_append]; simp; omega)
            refine hK.out _ _ (HSS.out _ hL7) (fun hHeld => ?_)
            clear hK K
            try simp only [Act.put, List.setIfInBounds_toArray, List.set_cons_zero, List.set_cons_succ]
            have HIN := imp_more hp hr HI.out hRs
            (refine wpAnyH_ready (rs := [8]) (by kernel_rfl) (by simp) ?_; refine AllReadyH.cons rfl (fun K hK => ?_) AllReadyH.nil; (try go_simp); (go_at_call 26; (with_reducible refine HIN.mono ?_); rintro e w8 ⟨a, b, rfl, hb, hm⟩; have HM := Lib.hid hm; have hL8 := bstep hL7 hb; clear hm hb); refine hK.out _ _ (by (exact HSS.out _ hL8)) (fun hHeld => ?_); clear hK K; try simp only [Act.put, List.setIfInBounds_toArray, List.set_cons_zero, List.set_cons_succ])
            clear HIN hRs hR7 hRf
            (refine wpAnyH_ready (rs := [9]) (by kernel_rfl) (by simp) ?_; refine AllReadyH.cons rfl (fun K hK => ?_) AllReadyH.nil; (try go_simp); refine hK.out _ _ (by (exact HSS.out _ hL8)) (fun hHeld => ?_); clear hK K; try simp only [Act.put, List.setIfInBounds_toArray, List.set_cons_zero, List.set_cons_succ])
            have hS8 := HSS.out _ hL8
            (refine wpAnyH_take (i := 10) (v := ?tkv10_6) rfl (by kernel_rfl) (by kernel_rfl) (by kernel_rfl) (fun _ _ _ h => h) (Or.inl ⟨by rfl, ?tky10_6⟩) (by assumption) ?tkr10_6; case tky10_6 => (intro V hV; (try dsimp only at hV); go_simp; (try with_reducible rfl)); try simp only [Act.put, List.setIfInBounds_toArray, List.set_cons_zero, List.set_cons_succ])
            (refine wpAnyH_take (i := 11) (v := ?tkv11_7) rfl (by kernel_rfl) (by kernel_rfl) (by kernel_rfl) (fun _ _ _ h => h) (Or.inl ⟨by rfl, ?tky11_7⟩) (by assumption) ?tkr11_7; case tky11_7 => (intro V hV; (try dsimp only at hV); go_simp; (try with_reducible rfl)); try simp only [Act.put, List.setIfInBounds_toArray, List.set_cons_zero, List.set_cons_succ])
            (refine wpAnyH_ready (rs := [12]) (by kernel_rfl) (by simp) ?_; refine AllReadyH.cons rfl (fun K hK => ?_) AllReadyH.nil; (try go_simp); refine hK.out _ _ (by (exact HSS.out _ hL8)) (fun hHeld => ?_); clear hK K; try simp only [Act.put, List.setIfInBounds_toArray, List.set_cons_zero, List.set_cons_succ])
            (refine wpAnyH_ready (rs := [13]) (by kernel_rfl) (by simp) ?_; refine AllReadyH.cons rfl (fun K hK => ?_) AllReadyH.nil; (try go_simp); refine hK.out _ _ (by (exact HSS.out _ hL8)) (fun hHeld => ?_); clear hK K; try simp only [Act.put, List.setIfInBounds_toArray, List.set_cons_zero, List.set_cons_succ])
            refine wpAnyH_done (by kernel_rfl) ?_ _
            rcases HM.out with hb | ⟨rfl, ha, hand⟩
            · have g1 : (b == 0) = false := by simp; exact hb
              have g2 : (b != 0) = true := by simp; exact hb
              go_wp2
              go_ret
              exact ⟨rfl, bstep hL0 hL8⟩
            · have g1 : (a == 0) = false := by simp; exact ha
              have g2 : (a != 0) = true := by simp; exact ha
              go_wp2
              go_ret
              exact ⟨rfl, bstep hL0 hL8⟩
          · (try go_simp)
            obtain ⟨hb6, d0, d1, d2⟩ := box3 (w := w5) (a := .int .i64 u.i) (b := .int .i64 u.j) (c := .int .i64 u.s) (t := 30) rfl
            have hL6 := (bstep HL0.out hb6).drew
            replace d0 : (w5.alloc (.cells #[.int .i64 u.i, .int .i64 u.j, .int .i64 u.s] 30)).drew.cell? ⟨w5.heap.size, 0, none⟩ = some (.int .i64 u.i) := d0
            replace d1 : (w5.alloc (.cells #[.int .i64 u.i, .int .i64 u.j, .int .i64 u.s] 30)).drew.cell? ⟨w5.heap.size, 1, none⟩ = some (.int .i64 u.j) := d1
            replace d2 : (w5.alloc (.cells #[.int .i64 u.i, .int .i64 u.j, .int .i64 u.s] 30)).drew.cell? ⟨w5.heap.size, 2, none⟩ = some (.int .i64 u.s) := d2
            generalize (w5.alloc (.cells #[.int .i64 u.i, .int .i64 u.j, .int .i64 u.s] 30)).drew = W6 at hL6 d0 d1 d2 ⊢
            refine hK.out _ _ (HSS.out _ hL6) (fun hHeld => ?_)
            clear hK K
            try simp only [Act.put, List.setIfInBounds_toArray, List.set_cons_zero, List.set_cons_succ]
            refine wpAnyH_ready (rs := [2]) (by kernel_rfl) (by simp) ?_
            refine AllReadyH.cons rfl (fun K hK => ?_) AllReadyH.nil
            (try go_simp)
            go_at_call 28
            with_reducible refine (clone_rels l _ _ (HS.out.below (bstep hL0 hL6)) (by have := HLN.out; omega)).mono ?_
            rintro e w7 ⟨v6, rfl, hRf⟩
            have e0 := Go.Proofs.Ytoadihclmnjjnaa.Sl.cell_kept d0 hRf.2
            have e1 := Go.Proofs.Ytoadihclmnjjnaa.Sl.cell_kept d1 hRf.2
            have e2 := Go.Proofs.Ytoadihclmnjjnaa.Sl.cell_kept d2 hRf.2
            refine hK.out _ _ (HSS.out _ (bstep hL6 hRf.2)) (fun hHeld => ?_)
            clear hK K d0 d1 d2 hb6 hSS
            try simp only [Act.put, List.setIfInBounds_toArray, List.set_cons_zero, List.set_cons_succ]
            refine wpAnyH_ready (rs := [5]) (by kernel_rfl) (by simp) ?_
            refine AllReadyH.cons rfl (fun K hK => ?_) AllReadyH.nil
            refine step_rel hRf rfl (.tmp 97) (.tmp 99) rfl rfl rfl u e0 e1 e2 (by have := HLN.out; omega) ?_
            intro v8 w9 hR7
            have hL9 := bstep hL6 hR7.2
            have hRs := hR7.rs (by have := HLN.out; rw [List.length_append]; simp; omega)
            refine hK.out _ _ (HSS.out _ hL9) (fun hHeld => ?_)
            clear hK K
            try simp only [Act.put, List.setIfInBounds_toArray, List.set_cons_zero, List.set_cons_succ]
            have HIN := imp_more hp hr HI.out hRs
            (refine wpAnyH_ready (rs := [8]) (by kernel_rfl) (by simp) ?_; refine AllReadyH.cons rfl (fun K hK => ?_) AllReadyH.nil; (try go_simp); (go_at_call 26; (with_reducible refine HIN.mono ?_); rintro e w8 ⟨a, b, rfl, hb, hm⟩; have HM := Lib.hid hm; have hL8 := bstep hL9 hb; clear hm hb); refine hK.out _ _ (by (exact HSS.out _ hL8)) (fun hHeld => ?_); clear hK K; try simp only [Act.put, List.setIfInBounds_toArray, List.set_cons_zero, List.set_cons_succ])
            clear HIN hRs hR7 hRf
            (refine wpAnyH_ready (rs := [9]) (by kernel_rfl) (by simp) ?_; refine AllReadyH.cons rfl (fun K hK => ?_) AllReadyH.nil; (try go_simp); refine hK.out _ _ (by (exact HSS.out _ hL8)) (fun hHeld => ?_); clear hK K; try simp only [Act.put, List.setIfInBounds_toArray, List.set_cons_zero, List.set_cons_succ])
            have hS8 := HSS.out _ hL8
            (refine wpAnyH_take (i := 10) (v := ?tkv10_8) rfl (by kernel_rfl) (by kernel_rfl) (by kernel_rfl) (fun _ _ _ h => h) (Or.inl ⟨by rfl, ?tky10_8⟩) (by assumption) ?tkr10_8; case tky10_8 => (intro V hV; (try dsimp only at hV); go_simp; (try with_reducible rfl)); try simp only [Act.put, List.setIfInBounds_toArray, List.set_cons_zero, List.set_cons_succ])
            (refine wpAnyH_take (i := 11) (v := ?tkv11_9) rfl (by kernel_rfl) (by kernel_rfl) (by kernel_rfl) (fun _ _ _ h => h) (Or.inl ⟨by rfl, ?tky11_9⟩) (by assumption) ?tkr11_9; case tky11_9 => (intro V hV; (try dsimp only at hV); go_simp; (try with_reducible rfl)); try simp only [Act.put, List.setIfInBounds_toArray, List.set_cons_zero, List.set_cons_succ])
            (refine wpAnyH_ready (rs := [12]) (by kernel_rfl) (by simp) ?_; refine AllReadyH.cons rfl (fun K hK => ?_) AllReadyH.nil; (try go_simp); refine hK.out _ _ (by (exact HSS.out _ hL8)) (fun hHeld => ?_); clear hK K; try simp only [Act.put, List.setIfInBounds_toArray, List.set_cons_zero, List.set_cons_succ])
            (refine wpAnyH_ready (rs := [13]) (by kernel_rfl) (by simp) ?_; refine AllReadyH.cons rfl (fun K hK => ?_) AllReadyH.nil; (try go_simp); refine hK.out _ _ (by (exact HSS.out _ hL8)) (fun hHeld => ?_); clear hK K; try simp only [Act.put, List.setIfInBounds_toArray, List.set_cons_zero, List.set_cons_succ])
            refine wpAnyH_done (by kernel_rfl) ?_ _
            rcases HM.out with hb | ⟨rfl, ha, hand⟩
            · have g1 : (b == 0) = false := by simp; exact hb
              have g2 : (b != 0) = true := by simp; exact hb
              go_wp2
              go_ret
              exact ⟨rfl, bstep hL0 hL8⟩
            · have g1 : (a == 0) = false := by simp; exact ha
              have g2 : (a != 0) = true := by simp; exact ha
              go_wp2
              go_ret
              exact ⟨rfl, bstep hL0 hL8⟩
      · have hv0 : q ≤ 200 → True := fun _ => trivial
        by_cases h2 : q ≤ 200
        · have g8 : decide ((8 : Int) < (q : Int)) = true := by simp; omega
          have g8b : decide (8 < q) = true := by simp; omega
          have g8c : 8 < q := by omega
          have g8d : (8 : Int) < (q : Int) := by omega
          have g2 : decide ((q : Int) ≤ (200 : Int)) = true := by simp; omega
          have g2b : decide (q ≤ 200) = true := by simp; omega
          have g2c : q ≤ 200 := by omega
          have g2d : (q : Int) ≤ 200 := by omega
          go_wp2_with (first | (go_at_call 12; (with_reducible refine (awake_any _).mono ?_); rintro e w1 ⟨rfl, hb⟩; replace hL := bstep hL hb; clear hb) | (go_at_call 13; (with_reducible refine (HG _).mono ?_); rintro e w2 ⟨rfl, rfl⟩))
          go_ret
          exact ⟨rfl, bstep hL0 hL⟩
        · have hv : vldN n l = false := big_len (by have := HQ.out; omega)
          have g8 : decide ((8 : Int) < (q : Int)) = true := by simp; omega
          have g8b : decide (8 < q) = true := by simp; omega
          have g8c : 8 < q := by omega
          have g8d : (8 : Int) < (q : Int) := by omega
          have g2 : decide ((q : Int) ≤ (200 : Int)) = false := by simp; omega
          have g2b : decide (q ≤ 200) = false := by simp; omega
          have g2c : ¬ q ≤ 200 := by omega
          have g2d : ¬ (q : Int) ≤ 200 := by omega
          rw [hv] at HRV
          have HIF := fun W (h : Below w.heap.size w W) => imp_bad hv (HIM W h)
          clear HIM hv
          go_wp2_with (first | (go_at_call 12; (with_reducible refine (awake_any _).mono ?_); rintro e w1 ⟨rfl, hb⟩; replace hL := bstep hL hb; clear hb) | (go_at_call 13; (with_reducible refine (HG _).mono ?_); rintro e w2 ⟨rfl, rfl⟩) | (go_at_call 15; (with_reducible refine (HRV _ (bstep hL0 hL)).mono ?_); rintro e w3 ⟨rfl, rfl⟩) | (go_at_call 26; (with_reducible refine (HIF _ (bstep hL0 hL)).mono ?_); rintro e w4 ⟨rfl, hb⟩; replace hL := bstep hL hb; clear hb))
          go_ret
          exact ⟨rfl, bstep hL0 hL⟩
    · have g4 : decide ((4 : Int) < n) = true := by simp; omega
      by_cases h9 : n ≤ 8
      · have g9 : decide (n ≤ (8 : Int)) = true := by simp; omega
        go_wp2_with (first | (go_at_call 12; (with_reducible refine (awake_any _).mono ?_); rintro e w1 ⟨rfl, hb⟩; replace hL := bstep hL hb; clear hb) | (go_at_call 13; (with_reducible refine (HG _).mono ?_); rintro e w2 ⟨rfl, rfl⟩))
        go_ret
        exact ⟨rfl, bstep hL0 hL⟩
      · have g9 : decide (n ≤ (8 : Int)) = false := by simp; omega
        have hv : vldN n l = false := by unfold vldN; simp; omega
        by_cases h8 : q ≤ 8
        · have g8 : decide ((8 : Int) < (q : Int)) = false := by simp; omega
          have g8b : decide (8 < q) = false := by simp; omega
          have g8c : ¬ 8 < q := by omega
          have g8d : ¬ (8 : Int) < (q : Int) := by omega
          rw [hv] at HRV
          have HIF := fun W (h : Below w.heap.size w W) => imp_bad hv (HIM W h)
          clear HIM hv
          go_wp2_with (first | (go_at_call 12; (with_reducible refine (awake_any _).mono ?_); rintro e w1 ⟨rfl, hb⟩; replace hL := bstep hL hb; clear hb) | (go_at_call 13; (with_reducible refine (HG _).mono ?_); rintro e w2 ⟨rfl, rfl⟩) | (go_at_call 15; (with_reducible refine (HRV _ (bstep hL0 hL)).mono ?_); rintro e w3 ⟨rfl, rfl⟩) | (go_at_call 26; (with_reducible refine (HIF _ (bstep hL0 hL)).mono ?_); rintro e w4 ⟨rfl, hb⟩; replace hL := bstep hL hb; clear hb))
          go_ret
          exact ⟨rfl, bstep hL0 hL⟩
        · by_cases h2 : q ≤ 200
          · have g8 : decide ((8 : Int) < (q : Int)) = true := by simp; omega
            have g8b : decide (8 < q) = true := by simp; omega
            have g8c : 8 < q := by omega
            have g8d : (8 : Int) < (q : Int) := by omega
            have g2 : decide ((q : Int) ≤ (200 : Int)) = true := by simp; omega
            have g2b : decide (q ≤ 200) = true := by simp; omega
            have g2c : q ≤ 200 := by omega
            have g2d : (q : Int) ≤ 200 := by omega
            go_wp2_with (first | (go_at_call 12; (with_reducible refine (awake_any _).mono ?_); rintro e w1 ⟨rfl, hb⟩; replace hL := bstep hL hb; clear hb) | (go_at_call 13; (with_reducible refine (HG _).mono ?_); rintro e w2 ⟨rfl, rfl⟩))
            go_ret
            exact ⟨rfl, bstep hL0 hL⟩
          · have g8 : decide ((8 : Int) < (q : Int)) = true := by simp; omega
            have g8b : decide (8 < q) = true := by simp; omega
            have g8c : 8 < q := by omega
            have g8d : (8 : Int) < (q : Int) := by omega
            have g2 : decide ((q : Int) ≤ (200 : Int)) = false := by simp; omega
            have g2b : decide (q ≤ 200) = false := by simp; omega
            have g2c : ¬ q ≤ 200 := by omega
            have g2d : ¬ (q : Int) ≤ 200 := by omega
            rw [hv] at HRV
            have HIF := fun W (h : Below w.heap.size w W) => imp_bad hv (HIM W h)
            clear HIM hv
            go_wp2_with (first | (go_at_call 12; (with_reducible refine (awake_any _).mono ?_); rintro e w1 ⟨rfl, hb⟩; replace hL := bstep hL hb; clear hb) | (go_at_call 13; (with_reducible refine (HG _).mono ?_); rintro e w2 ⟨rfl, rfl⟩) | (go_at_call 15; (with_reducible refine (HRV _ (bstep hL0 hL)).mono ?_); rintro e w3 ⟨rfl, rfl⟩) | (go_at_call 26; (with_reducible refine (HIF _ (bstep hL0 hL)).mono ?_); rintro e w4 ⟨rfl, hb⟩; replace hL := bstep hL hb; clear hb))
            go_ret
            exact ⟨rfl, bstep hL0 hL⟩
  · rw [hgl] at HG
    go_wp2_with (first | (go_at_call 12; (with_reducible refine (awake_any _).mono ?_); rintro e w1 ⟨rfl, hb⟩; replace hL := bstep hL hb; clear hb) | (go_at_call 13; (with_reducible refine (HG _).mono ?_); rintro e w2 ⟨rfl, rfl⟩))
    go_ret
    exact ⟨rfl, bstep hL0 hL⟩
end Go.Proofs.Ytoadihclmnjjnaa.Nw
