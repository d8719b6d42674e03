/-
  Networks: Implied (layer 46).
-/
import Derived.Test.YtoadihclmnjjnaaNwQ
import Derived.Test.YtoadihclmnjjnaaLast
set_option linter.unusedSimpArgs false
set_option linter.unusedVariables false
set_option maxRecDepth 100000
namespace Go.Proofs.Ytoadihclmnjjnaa.Nw
open Go Go.RowKit Go.ChangeShapes Go.WideShapes Go.Proofs.Ytoadihclmnjjnaa.Sl Go.Proofs.Ytoadihclmnjjnaa.Al Go.Lib

theorem imp_le {n : Nat} {M N : Mt} (hN : Sc n N) {i j s : Nat} (hi : i < n) (hj : j < n) : LeM n N (stepB M i j s) ↔ LeM n N M ∧ Sub (N i j) s := by
  rw [← le_step hN hi hj, stepM_ok]
  by_cases hz : i = j ∧ stepB M i j s i i = 0
  · rw [if_pos hz]
    constructor
    · intro h
      have := h i i hi hi
      rw [hz.2] at this
      exact (hN.nz i i hi hi this.zero).elim
    · intro h
      exact (hN.nz i i hi hi (h i i hi hi).zero).elim
  · rw [if_neg hz]
/-- One more constraint, with one relation. -/
def oneR (i j c : Nat) : Rl := ⟨(i : Int), (j : Int), ((2 ^ c : Nat) : Int)⟩
theorem imp_sat {n : Nat} {l : List Rl} (hok : ∀ r ∈ l, OkR n r) {i j : Nat} (hi : i < n) (hj : j < n) (c : Nat) : (∃ N, Sc n N ∧ LeM n N (stepB (matN l) i j (2 ^ c))) ↔ SatL n (l ++ [oneR i j c]) := by
  constructor
  · rintro ⟨N, h1, h2⟩
    obtain ⟨h3, h4⟩ := (imp_le h1 hi hj).1 h2
    refine ⟨N, h1, fun r hr => ?_⟩
    rcases List.mem_append.1 hr with h | h
    · exact ((le_mat h1 l mat0 hok).1 h3).2 r h
    · obtain rfl := List.mem_singleton.1 h
      show Sub (N (i : Int).toNat (j : Int).toNat) ((2 ^ c : Nat) : Int).toNat
      rw [Int.toNat_natCast, Int.toNat_natCast, Int.toNat_natCast]
      exact h4
  · rintro ⟨N, h1, h2⟩
    refine ⟨N, h1, (imp_le h1 hi hj).2 ⟨(le_mat h1 l mat0 hok).2 ⟨h1.mat0, fun r hr => h2 r (List.mem_append_left _ hr)⟩, ?_⟩⟩
    have h3 : Sub (N (i : Int).toNat (j : Int).toNat) ((2 ^ c : Nat) : Int).toNat := h2 _ (List.mem_append_right _ (List.mem_singleton.2 rfl))
    rw [Int.toNat_natCast, Int.toNat_natCast, Int.toNat_natCast] at h3
    exact h3
/-- The bits below r of what is implied. -/
def ImO (n : Nat) (l : List Rl) (i j r out : Nat) : Prop := ∀ c, out.testBit c = true ↔ c < r ∧ SatL n (l ++ [oneR i j c])
theorem ImO.zero (n : Nat) (l : List Rl) (i j : Nat) : ImO n l i j 0 0 := fun c => by rw [Nat.zero_testBit]; exact ⟨nofun, fun h => absurd h.1 (by omega)⟩
theorem ImO.no {n : Nat} {l : List Rl} {i j r out : Nat} (h : ImO n l i j r out) (hn : ¬ SatL n (l ++ [oneR i j r])) : ImO n l i j (r + 1) out := fun c => by
  rw [h c]
  refine ⟨fun ⟨a, b⟩ => ⟨by omega, b⟩, fun ⟨a, b⟩ => ⟨?_, b⟩⟩
  by_cases e : c = r
  · subst e; exact (hn b).elim
  · omega
theorem ImO.yes {n : Nat} {l : List Rl} {i j r out : Nat} (h : ImO n l i j r out) (hn : SatL n (l ++ [oneR i j r])) : ImO n l i j (r + 1) (out ||| 2 ^ r) := fun c => by
  rw [Nat.testBit_or, Bool.or_eq_true, h c]
  by_cases e : c = r
  · subst e
    rw [Nat.testBit_two_pow_self]
    exact ⟨fun _ => ⟨by omega, hn⟩, fun _ => Or.inr rfl⟩
  · rw [Nat.testBit_two_pow_of_ne (Ne.symm e)]
    exact ⟨fun h => h.elim (fun ⟨a, b⟩ => ⟨by omega, b⟩) nofun, fun ⟨a, b⟩ => Or.inl ⟨by omega, b⟩⟩
theorem ImO.eq {n : Nat} {l : List Rl} {i j r a b : Nat} (h : ImO n l i j r a) (k : ImO n l i j r b) : a = b := by
  apply Nat.eq_of_testBit_eq
  intro c
  rw [Bool.eq_iff_iff, h c, k c]
theorem ImO.lt {n : Nat} {l : List Rl} {i j r a : Nat} (h : ImO n l i j r a) (hr : r ≤ 13) : a < 8192 := by
  refine Nat.lt_pow_two_of_testBit (n := 13) a fun c hc => ?_
  cases ht : a.testBit c
  · rfl
  · have := ((h c).1 ht).1
    omega
/-- What Implied returns for a valid network. -/
def ImE (n : Nat) (l : List Rl) (i j : Nat) (w : World) (e : Ending) (w' : World) : Prop := ∃ out : Nat, ImO n l i j 13 out ∧ e = .returned (.tuple #[.int .i64 (out : Int), .int .i64 (if out = 0 then 17 else 0)]) ∧ Below w.heap.size w w'
set_option maxHeartbeats 8000000 in
theorem implied_ok (n : Nat) (l : List Rl) (i j : Nat) (s : Value) (w : World) (hi : i < n) (hj : j < n) (hs : Rs w s l) (hv : vldN (n : Int) l = true) :
    Calls Try.prog 26 #[.int .i64 (n : Int), s, .int .i64 (i : Int), .int .i64 (j : Int)] w (ImE n l i j w) := by
  obtain ⟨k, hk, h1, h2, h3, h4⟩ := vld_ok hv
  obtain rfl : n = k := by omega
  have hmm := @run_makeMap Try.prog
  have HV := nvalid_any (n : Int) l s w hs
  rw [hv] at HV
  have HMA := fun W (h : Below w.heap.size w W) => matrix_any n l s W h1 h2 (hs.below h) (by omega) h4
  have HSV := fun r (hr : r < 13) C B c R W hM hC => solved_any (mu n (stepB (matN l) i j (2 ^ r)) + 1) C B c n R (stepB (matN l) i j (2 ^ r)) W (by omega) h1 (by omega) hM (fun a b ha hb => (stepB_sub _ _ _ _ a b).lt (bd_matN n l a b ha hb)) (sym_stepB (sym_matN l h4) hi hj (pow13_lt r hr)) (fun a ha => (stepB_sub _ _ _ _ a a).trans (dg_matN n l a ha)) hC
  have HSAT := Lib.hid (fun c => imp_sat h4 hi hj c)
  have HBD := Lib.hid (bd_matN n l)
  have i0 : (0 : Int) ≤ (i : Int) := by omega
  have j0 : (0 : Int) ≤ (j : Int) := by omega
  have i1 : (i : Int) < (n : Int) := by omega
  have j1 : (j : Int) < (n : Int) := by omega
  have gi2 : decide ((n : Int) ≤ (i : Int)) = false := by simp; omega
  have gi3 : decide (n ≤ i) = false := by simp; omega
  have gi4 : ¬ n ≤ i := by omega
  have gj2 : decide ((n : Int) ≤ (j : Int)) = false := by simp; omega
  have gj3 : decide (n ≤ j) = false := by simp; omega
  have gj4 : ¬ n ≤ j := by omega
  clear hs hv h4 hk
  generalize matN l = M at *
  go_enter Try.func26, Try.ntmps26
  go_wp2_with (go_at_call 19; (with_reducible refine HV.mono ?_); rintro e w1 ⟨rfl, hb1⟩)
  clear gi2 gi3 gi4 gj2 gj3 gj4
  go_loopw [11, 39] (fun ov rv wr => ∃ out r : Nat, r ≤ 13 ∧ ov = .int .i64 (out : Int) ∧ rv = .int .i64 (r : Int) ∧ Hid (ImO n l i j r out) ∧ Memo wr w1.heap.size ∧ Below w.heap.size w wr) (fun _ rv _ => 13 - (RowKit.intOf rv).toNat)
  case atStart => exact ⟨0, 0, by omega, rfl, rfl, Lib.hid (ImO.zero n l i j), Memo.made w1, hb1.alloc hb1.size _⟩
  case round =>
    obtain ⟨out, r, hr, rfl, rfl, hI, hC, hL⟩ := hrel
    by_cases hr13 : r < 13
    · have r0 : (0 : Int) ≤ (r : Int) := by omega
      have r1 : (r : Int) < 13 := by omega
      have hw12 : IntKind.i64.wrap (12 - (r : Int)) = 12 - (r : Int) := IntWalk.i64_in _ (by omega)
      have hp1 := wrap_pw r (by omega)
      have hp2 := wrap_pw (12 - r) (by omega)
      have r2 : (0 : Int) ≤ 12 - (r : Int) := by omega
      have r3 : 12 - (r : Int) < 13 := by omega
      have HC := Lib.hid hC
      have HL := Lib.hid hL
      clear hC
      go_upto_region 11 with (go_at_call 52; (with_reducible refine (HMA _ hL).mono ?_); rintro e w2 ⟨B, R, rfl, hM, hB, hR, hb⟩)
      obtain ⟨ci, hci, d1⟩ := hM.cap hi
      have d2 := hM.cell hi hj
      have f2 := (hM.row i hi).frozen j
      have hbit : bits .and .i64 ((M i j : Nat) : Int) ((pw r : Nat) : Int) = ((M i j &&& 2 ^ r : Nat) : Int) := Bt.bits_and _ _ (by have := HBD.out i j hi hj; omega) (by have := pow_lt r (by omega); unfold pw; omega)
      have lRi := hM.ltR hi
      have HX0 := Lib.hid hM
      have k1 := cell_regrown d1
      have k2 := cell_regrown d2
      have HD2 := Lib.hid d2
      have HF2 := Lib.hid f2
      have HB := Lib.hid hB
      have HR := Lib.hid hR
      have HB2 := Lib.hid hb
      clear hM d1 d2 f2 hB hR hb hL
      refine Lst.wp_region_below_lastN 11 rfl rfl (by kernel_rfl) (by kernel_rfl) (by kernel_rfl) ?_
      simp only [List.take_succ_cons, List.take_zero]
      repeat (go_big_quiet_step (fail))
      refine wpQuiet_nil ?_
      intro w9 hb9
      refine ⟨by rfl, ?_⟩
      have c9 := Go.Proofs.Ytoadihclmnjjnaa.Sl.cell_kept HD2.out hb9
      have f9 : w9.frozen? ⟨R i, j, none⟩ = false := (hb9.frozen (p := ⟨R i, j, none⟩) lRi).trans HF2.out
      clear k1 k2
      go_simp
      have hX1 : Mx (w9.setCell ⟨R i, j, none⟩ (.int .i64 ((M i j &&& 2 ^ r : Nat) : Int))) B R n (stepA M i j (2 ^ r)) := (HX0.out.below hb9).set hi hj _
      have hd1 : Md (fun k => k = R i) w2 (w9.setCell ⟨R i, j, none⟩ (.int .i64 ((M i j &&& 2 ^ r : Nat) : Int))) := (Md.of_below (S := fun k => k = R i) hb9).setCell j (Or.inl rfl) _
      clear HD2 HF2 c9 f9 hb9 hbit lRi
      generalize (w9.setCell ⟨R i, j, none⟩ (.int .i64 ((M i j &&& 2 ^ r : Nat) : Int))) = W1 at *
      go_upto_region 12 with fail
      obtain ⟨cj, hcj, d1⟩ := hX1.cap hj
      have d2 := hX1.cell hj hi
      have f2 := (hX1.row j hj).frozen i
      have lRj := hX1.ltR hj
      have hbA : stepA M i j (2 ^ r) j i < 8192 := by
        unfold stepA setM
        split
        · exact Nat.lt_of_le_of_lt Nat.and_le_left (HBD.out i j hi hj)
        · exact HBD.out j i hj hi
      have hbit2 : bits .and .i64 ((stepA M i j (2 ^ r) j i : Nat) : Int) ((pw (12 - r) : Nat) : Int) = ((stepA M i j (2 ^ r) j i &&& invN (2 ^ r) : Nat) : Int) := by
        rw [inv_pow r hr13]
        exact Bt.bits_and _ _ (by omega) (by have := pow_lt (12 - r) (by omega); unfold pw; omega)
      have HX1 := Lib.hid hX1
      have HD1 := Lib.hid hd1
      have k1 := cell_regrown d1
      have k2 := cell_regrown d2
      have HD2 := Lib.hid d2
      have HF2 := Lib.hid f2
      clear hX1 hd1 d1 d2 f2 hbA
      refine Lst.wp_region_below_lastN 12 rfl rfl (by kernel_rfl) (by kernel_rfl) (by kernel_rfl) ?_
      simp only [List.take_succ_cons, List.take_zero]
      repeat (go_big_quiet_step (fail))
      refine wpQuiet_nil ?_
      intro w9 hb9
      refine ⟨by rfl, ?_⟩
      have c9 := Go.Proofs.Ytoadihclmnjjnaa.Sl.cell_kept HD2.out hb9
      have f9 : w9.frozen? ⟨R j, i, none⟩ = false := (hb9.frozen (p := ⟨R j, i, none⟩) lRj).trans HF2.out
      clear k1 k2
      go_simp
      have hX2 : Mx (w9.setCell ⟨R j, i, none⟩ (.int .i64 ((stepA M i j (2 ^ r) j i &&& invN (2 ^ r) : Nat) : Int))) B R n (stepB M i j (2 ^ r)) := (HX1.out.below hb9).set hj hi _
      have hd2 : Md (fun k => k = R i ∨ k = R j) w2 (w9.setCell ⟨R j, i, none⟩ (.int .i64 ((stepA M i j (2 ^ r) j i &&& invN (2 ^ r) : Nat) : Int))) := ((HD1.out.mono (T := fun k => k = R i ∨ k = R j) (fun k _ h => Or.inl h)).step hb9).setCell i (Or.inl (Or.inr rfl)) _
      clear HD2 HF2 c9 f9 hb9 hbit2 lRj
      generalize (w9.setCell ⟨R j, i, none⟩ (.int .i64 ((stepA M i j (2 ^ r) j i &&& invN (2 ^ r) : Nat) : Int))) = W2 at *
      have hC2 : Memo w2 w1.heap.size := HC.out.keep (S := fun _ => False) (Md.of_below HB2.out) (fun h => h)
      have hCW : Memo W2 w1.heap.size := hC2.keep hd2 (by
        have a1 := hC2.ne (HX0.out.row i hi)
        have a2 := hC2.ne (HX0.out.row j hj)
        omega)
      have hK := HSV r hr13 w1.heap.size B n R W2 hX2 hCW
      have HD3 := Lib.hid hd2
      have hor : bits .or .i64 (out : Int) ((pw r : Nat) : Int) = ((out ||| 2 ^ r : Nat) : Int) := Bt.bits_or _ _ (by have := hI.out.lt hr; omega) (by have := pow_lt r (by omega); unfold pw; omega)
      have HBW := Lib.hid (fun w3 (h : Md (fun k => k = w1.heap.size ∨ Rows R n k) W2 w3) => (show Below w.heap.size w w3 from Md.below' ((HD3.out.mono (T := fun k => k = w1.heap.size ∨ Rows R n k) (fun k _ h => by
        rcases h with rfl | rfl
        · exact Or.inr ⟨i, hi, rfl⟩
        · exact Or.inr ⟨j, hj, rfl⟩)).trans h) (bstep HL.out HB2.out) (by
          rintro k (rfl | ⟨a, ha, rfl⟩)
          · exact hb1.size
          · exact Nat.le_trans HL.out.size (HR.out a ha)) (Nat.le_trans HL.out.size HB2.out.size)))
      clear hX2 hd2 hC2 hCW hw12
      go_upto_region 14 with (go_at_call 51; (with_reducible refine hK.mono ?_); rintro e w3 ⟨ok, v, rfl, hC3, hD3, hyes, hno⟩; have HYES := Lib.hid hyes; have HNO := Lib.hid hno; have hB3 := HBW.out _ hD3; clear hyes hno hD3)
      cases ok
      · have hn : ¬ SatL n (l ++ [oneR i j r]) := fun h => by
          obtain ⟨N, h1, h2⟩ := (HSAT.out r).2 h
          exact (HNO.out rfl).2 N h1 h2
        have HN := Lib.hid hn
        clear hn HYES HNO
        go_wp2
        go_roundw
        case rel => exact ⟨out, r + 1, by omega, rfl, by go_num, Lib.hid (hI.out.no HN.out), hC3, hB3⟩
        case measure => simp [RowKit.intOf]; omega
      · have hn : SatL n (l ++ [oneR i j r]) := by
          obtain ⟨_, _, X, _, _, _, h5, h6⟩ := HYES.out rfl
          exact (HSAT.out r).1 ⟨X, h5, h6⟩
        have HN := Lib.hid hn
        clear hn HYES HNO
        go_wp2
        go_roundw
        case rel => exact ⟨out ||| 2 ^ r, r + 1, by omega, rfl, by go_num, Lib.hid (hI.out.yes HN.out), hC3, hB3⟩
        case measure => simp [RowKit.intOf]; omega
    · obtain rfl : r = 13 := by omega
      by_cases h0 : out = 0
      · subst h0
        go_wp2
        go_ret2
        exact ⟨0, hI.out, rfl, hL⟩
      · have g0 : ((out : Int) == 0) = false := by simp; omega
        go_wp2
        go_ret2
        exact ⟨out, hI.out, by rw [if_neg h0]; rfl, hL⟩
theorem implied_any (n : Int) (l : List Rl) (i j : Int) (s : Value) (w : World) (hs : Rs w s l) :
    Calls Try.prog 26 #[.int .i64 n, s, .int .i64 i, .int .i64 j] w fun e w' => Below w.heap.size w w' ∧ ∃ a b : Int, e = .returned (.tuple #[.int .i64 a, .int .i64 b]) ∧
      (vldN n l = false → a = 0 ∧ b = 1) ∧ (vldN n l = true → ¬ (0 ≤ i ∧ i < n ∧ 0 ≤ j ∧ j < n) → a = 0 ∧ b = 2) ∧
      (∀ k p q : Nat, n = (k : Int) → i = (p : Int) → j = (q : Int) → vldN n l = true → p < k → q < k → ∃ out : Nat, ImO k l p q 13 out ∧ a = (out : Int) ∧ b = if out = 0 then 17 else 0) := by
  cases hv : vldN n l
  · have HV := nvalid_any n l s w hs
    rw [hv] at HV
    clear hs hv
    go_enter Try.func26, Try.ntmps26
    go_wp2_with (go_at_call 19; (with_reducible refine HV.mono ?_); rintro e w1 ⟨rfl, hb1⟩)
    go_ret2
    exact ⟨hb1, 0, 1, rfl, fun _ => ⟨rfl, rfl⟩, nofun, fun _ _ _ _ _ _ h => by cases h⟩
  · by_cases hr : 0 ≤ i ∧ i < n ∧ 0 ≤ j ∧ j < n
    · obtain ⟨k, rfl, _, _, _, _⟩ := vld_ok hv
      obtain ⟨p, rfl⟩ := Int.eq_ofNat_of_zero_le hr.1
      obtain ⟨q, rfl⟩ := Int.eq_ofNat_of_zero_le hr.2.2.1
      refine (implied_ok k l p q s w (by omega) (by omega) hs hv).mono ?_
      rintro e w' ⟨out, h1, rfl, h2⟩
      refine ⟨h2, _, _, rfl, nofun, fun _ h => (h hr).elim, ?_⟩
      rintro k' p' q' hk hp hq _ _ _
      obtain rfl : k = k' := by omega
      obtain rfl : p = p' := by omega
      obtain rfl : q = q' := by omega
      exact ⟨out, h1, rfl, rfl⟩
    · have HV := nvalid_any n l s w hs
      rw [hv] at HV
      have HR := Lib.hid hr
      have key : (decide (i < 0) || decide (n ≤ i) || decide (j < 0) || decide (n ≤ j)) = true := by
        simp only [Bool.or_eq_true, decide_eq_true_eq]; omega
      have HF := Lib.hid (show ∀ (a b : Int), a = 0 → b = 2 → (true = false → a = 0 ∧ b = 1) ∧ (true = true → ¬ (0 ≤ i ∧ i < n ∧ 0 ≤ j ∧ j < n) → a = 0 ∧ b = 2) ∧ (∀ k p q : Nat, n = (k : Int) → i = (p : Int) → j = (q : Int) → true = true → p < k → q < k → ∃ out : Nat, ImO k l p q 13 out ∧ a = (out : Int) ∧ b = if out = 0 then 17 else 0) from
        fun a b h1 h2 => ⟨nofun, fun _ _ => ⟨h1, h2⟩, fun k p q h3 h4 h5 _ h6 h7 => (hr ⟨by omega, by omega, by omega, by omega⟩).elim⟩)
      clear hs hv hr
      cases q1 : decide (i < 0) <;> cases q2 : decide (n ≤ i) <;> cases q3 : decide (j < 0) <;> cases q4 : decide (n ≤ j) <;> simp only [q1, q2, q3, q4, Bool.or_false, Bool.or_true, Bool.false_eq_true] at key <;>
      (go_enter Try.func26, Try.ntmps26
       go_wp2_with (go_at_call 19; (with_reducible refine HV.mono ?_); rintro e w1 ⟨rfl, hb1⟩)
       go_ret2
       exact ⟨hb1, 0, 2, rfl, HF.out 0 2 rfl rfl⟩)
end Go.Proofs.Ytoadihclmnjjnaa.Nw
