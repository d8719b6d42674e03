/-
  Networks: matrix (layer 46).
-/
import Derived.Test.YtoadihclmnjjnaaNwR
import Derived.Test.YtoadihclmnjjnaaSnd
import Derived.Test.YtoadihclmnjjnaaLast
import Derived.Lib.SliceRun
import Derived.Lib.QuietBelow
import Derived.Deep.QuietTactic
set_option linter.unusedSimpArgs false
set_option linter.unusedVariables false
set_option maxRecDepth 100000
namespace Go.Proofs.Ytoadihclmnjjnaa.Nw
open Go Go.RowKit Go.ChangeShapes Go.WideShapes Go.Proofs.Ytoadihclmnjjnaa.Sl Go.Proofs.Ytoadihclmnjjnaa.Al Go.Lib

/-! ### the matrix of a network, constraint by constraint -/
def mat0 : Mt := fun i j => if i = j then 64 else 8191
def stepA (M : Mt) (i j s : Nat) : Mt := setM M i j (M i j &&& s)
def stepB (M : Mt) (i j s : Nat) : Mt := setM (stepA M i j s) j i (stepA M i j s j i &&& invN s)
def stepM (M : Mt) (r : Rl) : Mt := if r.i.toNat = r.j.toNat ∧ stepB M r.i.toNat r.j.toNat r.s.toNat r.i.toNat r.i.toNat = 0 then fun _ _ => 0 else stepB M r.i.toNat r.j.toNat r.s.toNat
def matN (l : List Rl) : Mt := l.foldl stepM mat0
theorem matN_step (l : List Rl) (k : Nat) (r : Rl) (h : l[k]? = some r) : matN (l.take (k + 1)) = stepM (matN (l.take k)) r := by
  unfold matN
  rw [List.take_add_one, h, List.foldl_append]; rfl
def OkR (n : Nat) (r : Rl) : Prop := ∃ i j s : Nat, r = ⟨i, j, s⟩ ∧ i < n ∧ j < n ∧ s < 8192
theorem ok_of_bad {n : Nat} {r : Rl} (h : badR n r = false) : OkR n r := by
  obtain ⟨i, j, s⟩ := r
  unfold badR isSetB at h
  simp at h
  exact ⟨i.toNat, j.toNat, s.toNat, by simp; omega, by omega, by omega, by omega⟩
theorem stepM_ok (M : Mt) (i j s : Nat) : stepM M ⟨i, j, s⟩ = if i = j ∧ stepB M i j s i i = 0 then fun _ _ => 0 else stepB M i j s := by
  unfold stepM
  simp only [Int.toNat_natCast]
theorem bd_stepM {n : Nat} {M : Mt} (h : BdM n M) (r : Rl) : BdM n (stepM M r) := by
  intro a b ha hb
  unfold stepM
  split
  · exact Nat.lt_of_lt_of_le Nat.zero_lt_one (by decide)
  · unfold stepB stepA setM
    repeat' split
    all_goals first | exact h _ _ ha hb | skip
    all_goals
      refine Nat.lt_of_le_of_lt Nat.and_le_left ?_
      try refine Nat.lt_of_le_of_lt Nat.and_le_left ?_
      first | exact h _ _ (by omega) (by omega) | (split <;> first | (refine Nat.lt_of_le_of_lt Nat.and_le_left ?_; exact h _ _ (by omega) (by omega)) | exact h _ _ (by omega) (by omega))
theorem bd_mat (n : Nat) : ∀ (l : List Rl) (M : Mt), BdM n M → BdM n (l.foldl stepM M)
  | [], M, h => h
  | r :: l, M, h => bd_mat n l _ (bd_stepM h r)
theorem bd_matN (n : Nat) (l : List Rl) : BdM n (matN l) := bd_mat n l mat0 (fun i j _ _ => by unfold mat0; split <;> decide)

/-! ### in memory -/
theorem Rw.clear {g n : Nat} : ∀ (m o : Nat) (f : Nat → Nat) (w : World), Rw w g n f → o + m ≤ n → Rw (w.setCells g o (List.replicate m (.int .i64 0))) g n (fun k => if o ≤ k ∧ k < o + m then 0 else f k)
  | 0, o, f, w, h, _ => h.congr rfl fun j hj => by rw [if_neg (by omega)]
  | m + 1, o, f, w, h, hm => by
    have h1 := Rw.clear m (o + 1) _ _ (h.set (j := o) (by omega) 0) (by omega)
    refine h1.congr rfl fun j hj => ?_
    by_cases e : j = o
    · subst e
      rw [if_pos (by omega), if_neg (by omega), if_pos rfl]
    · by_cases e2 : o ≤ j ∧ j < o + (m + 1)
      · rw [if_pos e2, if_pos (by omega)]
      · rw [if_neg e2, if_neg (by omega), if_neg e]
theorem Md.cells {S : Nat → Prop} {g : Nat} (hg : S g) : ∀ (vs : List Value) (o : Nat) (a w : World), Md S a w → Md S a (w.setCells g o vs)
  | [], o, a, w, h => h
  | v :: vs, o, a, w, h => Md.cells hg vs (o + 1) a _ (h.setCell o (Or.inl hg) v)
theorem Mx.row_set {w w' : World} {B : Nat} {R : Nat → Nat} {n : Nat} {M : Mt} {f : Nat → Nat} (h : Mx w B R n M) {i : Nat} (hi : i < n) (hd : Md (fun k => k = R i) w w') (hr : Rw w' (R i) n f) : Mx w' B R n (fun a b => if a = i then f b else M a b) := by
  refine ⟨?_, fun k hk => ?_, h.off, h.inj⟩
  · obtain ⟨cs, t, hh, hc⟩ := h.top
    exact ⟨cs, t, (hd.block _ h.ltB (fun e => h.off i hi e.symm)).trans hh, hc⟩
  · by_cases e : k = i
    · subst e
      exact hr.congr rfl fun j _ => by simp
    · exact (h.row k hk).congr (hd.block _ (h.ltR hk) (fun e2 => e (h.inj k i hk hi e2))) fun j _ => by simp [e]
theorem Md.below' {S : Nat → Prop} {w0 w w' : World} {N : Nat} (h : Md S w w') (h0 : Below N w0 w) (hS : ∀ k, S k → N ≤ k) (hN : N ≤ w.heap.size := by exact Nat.le_trans (Nat.le_refl _) (Below.size ‹_›)) : Below N w0 w' :=
  h0.trans ⟨h.os, h.tape, h.output, h.size, fun k hk => h.block k (Nat.lt_of_lt_of_le hk hN) (fun hs => by have := hS k hs; omega)⟩
theorem below_undrew {w w' : World} (h : Below w.drew.heap.size w.drew w') : Below w.heap.size w w' := ⟨h.os, h.tape, h.output, h.size, h.block⟩
theorem Px.set {w : World} {B : Nat} {R : Nat → Nat} {n q : Nat} {M : Mt} (h : Px w B R n q M) {i j : Nat} (hi : i < q) (hj : j < n) (x : Nat) : Px (w.setCell ⟨R i, j, none⟩ (.int .i64 ((x : Nat) : Int))) B R n q (setM M i j x) := by
  refine ⟨?_, fun k hk => ?_, h.off, h.inj⟩
  · obtain ⟨cs, t, hh, hc⟩ := h.top
    exact ⟨cs, t, (Below.heap_setCell _ _ _ _ (fun e => h.off i hi e.symm)).trans hh, hc⟩
  · by_cases e : k = i
    · subst e
      obtain ⟨cs, t, hh, hc⟩ := (h.row k hk).set hj x
      exact ⟨cs, t, hh, fun q hq => by
        rw [hc q hq]
        unfold setM
        by_cases e2 : q = j <;> simp [e2]⟩
    · exact (h.row k hk).congr (Below.heap_setCell _ _ _ _ (fun e2 => e (h.inj k i hk hi e2))) fun q _ => setM_other _ _ _ _ _ _ (by omega)
theorem Px.congr {w : World} {B : Nat} {R : Nat → Nat} {n q : Nat} {M M' : Mt} (h : Px w B R n q M) (he : ∀ i j, i < q → j < n → M' i j = M i j) : Px w B R n q M' := ⟨h.top, fun i hi => (h.row i hi).congr rfl fun j hj => he i j hi hj, h.off, h.inj⟩
set_option maxHeartbeats 8000000 in
theorem matrix_start (n : Nat) (l : List Rl) (ad : Option Addr) (m cl : Nat) (w : World) (hn : 0 < n) (hn8 : n ≤ 8) (hm : m = l.length) (hs : Rs w (.slice ad m cl) l) (hm6 : m ≤ 1000000) (hok : ∀ r ∈ l, OkR n r) :
    Calls Try.prog 52 #[.int .i64 (n : Int), .slice ad m cl] w fun e w' => ∃ B R, e = .returned (.slice (some ⟨B, 0, none⟩) n n) ∧ Mx w' B R n (matN l) ∧ w.heap.size ≤ B ∧ (∀ i, i < n → w.heap.size ≤ R i) ∧ Below w.heap.size w w' := by
  have HMK := fun W => mk_rows n (by omega) W
  have HFU := fun W => full_any W
  have HRP := fun W gx (h : W.cell? ⟨gx, 0, none⟩ = some (.int .i64 8191)) => repeat_any gx 1 n 8191 W hn (by omega) h
  have HS := Lib.hid hs
  have HM := Lib.hid hm
  have HOK := Lib.hid hok
  have n0 : (n : Int) ≤ 8 := by omega
  clear hs hm hok
  go_enter Try.func52, Try.ntmps52
  go_wp2
  go_loopw [14] (fun kv wr => ∃ k R, k ≤ n ∧ kv = .int .i64 (k : Int) ∧ Px wr w.heap.size R n k mat0 ∧ (∀ i, i < k → w.heap.size < R i) ∧ Below w.heap.size w wr ∧ w.heap.size < wr.heap.size) (fun kv _ => n - (RowKit.intOf kv).toNat)
  case atStart => exact ⟨0, fun _ => 0, Nat.zero_le _, rfl, Px.start w n _ _ mat0 _, fun i hi => by omega, by go_grown, by simp⟩
  case round =>
    obtain ⟨k, R, hk, rfl, hP, hR, hL, hsz⟩ := hrel
    by_cases hkn : k < n
    · have hk0 : (0 : Int) ≤ (k : Int) := by omega
      have hk1 : (k : Int) < (n : Int) := by omega
      have HP := Lib.hid hP
      have HL := Lib.hid hL
      clear hP hL
      go_upto_region 6 with (first | (go_at_call 85; (with_reducible refine (HFU _).mono ?_); rintro e w1 ⟨rfl, hb1⟩) | (go_at_call 84; (with_reducible refine (HRP _ _ (by simp)).mono ?_); rintro e w2 ⟨rfl, hrw, hb2⟩; have hb12 := bstep ((Below.refl _ _).alloc (Nat.le_refl _) _) hb2; have hP2 := (HP.out.below hb1).below hb12; obtain ⟨u0, x0⟩ := hP2.any hkn; have f0 := hP2.frozen k; have HP2 := Lib.hid hP2; have HRW := Lib.hid hrw; have hlt := hP2.ltB; clear hP2 hrw))
      have hrw := HRW.out
      simp only [World.size_alloc] at hrw
      have hgB : w1.heap.size + 1 ≠ w.heap.size := by have := hb1.size; omega
      have hgR : ∀ j, j < k → R j ≠ w1.heap.size + 1 := fun j hj e => by have := HP.out.ltR hj; have := hb1.size; omega
      have hPa := (HP2.out.congr (M' := setM mat0 k k 8191) (fun i j hi hj => setM_other _ _ _ _ _ _ (by omega))).put (c := n) hkn (hrw.congr (f' := setM mat0 k k 8191 k) rfl (fun j hj => by
        unfold setM mat0
        by_cases e : j = k
        · rw [if_pos ⟨rfl, e⟩]
        · rw [if_neg (fun h => e h.2), if_neg (Ne.symm e)])) hgB hgR (Nat.le_refl _)
      have hLa := ((bstep (bstep HL.out hb1) hb12).setCell (p := ⟨w.heap.size, k, none⟩) (Nat.le_refl _) (.slice (some ⟨w1.heap.size + 1, 0, none⟩) n n))
      have hlta : w.heap.size < (w2.setCell ⟨w.heap.size, k, none⟩ (.slice (some ⟨w1.heap.size + 1, 0, none⟩) n n)).heap.size := by simpa [World.setCell] using hlt
      have hg1 : w.heap.size < w1.heap.size + 1 := by have := hb1.size; omega
      have y0 : (w2.setCell ⟨w.heap.size, k, none⟩ (.slice (some ⟨w1.heap.size + 1, 0, none⟩) n n)).cell? ⟨w.heap.size, k, none⟩ = some (.slice (some ⟨w1.heap.size + 1, 0, none⟩) n n) := by
        exact World.cell?_setCell_same _ _ _ x0
      clear x0 f0 HRW hrw HP2 hb12 hlt
      generalize w1.heap.size + 1 = g at *
      generalize w2.setCell ⟨w.heap.size, k, none⟩ (.slice (some ⟨g, 0, none⟩) n n) = W3 at *
      have hrow := hPa.row k (by omega)
      simp only [if_true] at hrow
      have z0 := hrow.cell hkn
      have z1 := hrow.frozen k
      have HPA := Lib.hid hPa
      have HHR := Lib.hid hR
      clear hPa hrow hR
      go_wp2
      go_roundw
      case rel =>
        have hPb := HPA.out.set (i := k) (j := k) (by omega) hkn 64
        simp only [if_true] at hPb
        refine ⟨k + 1, (fun j => if j = k then g else R j), by omega, by go_num, hPb.congr (fun i j hi hj => ?_), fun j hj => ?_, hLa.setCell (p := ⟨g, k, none⟩) (by show w.heap.size ≤ g; omega) _, by simpa [World.setCell] using hlta⟩
        · unfold setM mat0
          by_cases e1 : i = k ∧ j = k
          · rw [if_pos e1, if_pos (by omega)]
          · rw [if_neg e1]
            by_cases e2 : i = k
            · by_cases e3 : j = k
              · omega
              · rw [if_neg e1, if_neg (by omega)]
            · rw [if_neg e1]
        · by_cases e : j = k
          · simp only [e, if_true]; omega
          · simp only [e, if_false]; exact HHR.out j (by omega)
      case measure => simp [RowKit.intOf]; omega
    · obtain rfl : k = n := by omega
      have hX := Lib.hid hP.mx
      have HHR := Lib.hid hR
      clear hP hR
      go_wp2
      go_loopw [33] (fun kv wr => ∃ q, q ≤ m ∧ kv = .int .i64 (q : Int) ∧ Mx wr w.heap.size R k (matN (l.take q)) ∧ Below w.heap.size w wr) (fun kv _ => m - (RowKit.intOf kv).toNat)
      case atStart => exact ⟨0, Nat.zero_le _, rfl, hX.out, hL⟩
      case round =>
        obtain ⟨q, hq, rfl, hX1, hL1⟩ := hrel
        by_cases hqm : q < m
        · obtain ⟨g, off, cp, e1, hcl⟩ := (HS.out.below hL1).get (by rw [← HM.out]; omega)
          rw [← HM.out] at e1
          cases e1
          obtain ⟨x, ht⟩ : ∃ t, l[q]? = some t := ⟨_, List.getElem?_eq_getElem (by rw [← HM.out]; exact hqm)⟩
          obtain ⟨i, j, s, rfl, hi, hj, hsb⟩ := HOK.out x (List.mem_of_getElem? ht)
          obtain ⟨z0, z1, z2⟩ := hcl q _ ht
          dsimp only at z0 z1 z2
          have q0 : (0 : Int) ≤ (q : Int) := by omega
          have q1 : (q : Int) < (m : Int) := by omega
          have hst := matN_step l q _ ht
          rw [stepM_ok] at hst
          have HST := Lib.hid hst
          have hbd := bd_matN k (l.take q)
          have HBD := Lib.hid hbd
          generalize matN (l.take q) = M at *
          have HX1 := Lib.hid hX1
          clear hcl ht hst hbd hX1
          go_upto_region 11 with fail
          obtain ⟨NB, hNB⟩ : ∃ NB, NB = wr.heap.size := ⟨_, rfl⟩
          obtain ⟨W0, hW0⟩ : ∃ W0, wr.alloc (.cells #[.int .i64 (i : Int), .int .i64 (j : Int), .int .i64 (s : Int)] 30) = W0 := ⟨_, rfl⟩
          have hX0 : Mx W0 w.heap.size R k M := by rw [← hW0]; exact HX1.out.below ((Below.refl _ _).alloc (Nat.le_refl _) _)
          have hL0 : Below w.heap.size w W0 := by rw [← hW0]; exact hL1.alloc hL1.size _
          have hb3 : W0.heap[NB]? = some (.cells #[.int .i64 (i : Int), .int .i64 (j : Int), .int .i64 (s : Int)] 30 (0, 0)) := by rw [← hW0, hNB]; exact heap_alloc_new wr _
          have hNR : ∀ a, a < k → ¬ NB = R a := fun a ha e => by have := HX1.out.ltR ha; omega
          have hNW : ¬ NB = w.heap.size := fun e => by have := HX1.out.ltB; omega
          have b0 : W0.cell? ⟨NB, 0, none⟩ = some (.int .i64 (i : Int)) := by rw [cell_of_row _ _ 0 _ _ _ hb3]; rfl
          have b1 : W0.cell? ⟨NB, 1, none⟩ = some (.int .i64 (j : Int)) := by rw [cell_of_row _ _ 1 _ _ _ hb3]; rfl
          have b2 : W0.cell? ⟨NB, 2, none⟩ = some (.int .i64 (s : Int)) := by rw [cell_of_row _ _ 2 _ _ _ hb3]; rfl
          rw [hW0, ← hNB]
          clear hW0 hNB hL1 z0 z1 z2
          have i0 : (0 : Int) ≤ (i : Int) := by omega
          have i1 : (i : Int) < (k : Int) := by omega
          have j0 : (0 : Int) ≤ (j : Int) := by omega
          have j1 : (j : Int) < (k : Int) := by omega
          obtain ⟨ci, hci, d1⟩ := hX0.cap hi
          have d2 := hX0.cell hi hj
          have f2 := (hX0.row i hi).frozen j
          have nB : ¬ w.heap.size = R i := fun e => hX0.off i hi e.symm
          have nN := hNR i hi
          have hbit : bits .and .i64 ((M i j : Nat) : Int) (s : Int) = ((M i j &&& s : Nat) : Int) := Bt.bits_and _ _ (by have := HBD.out i j hi hj; omega) (by omega)
          have lRi := hX0.ltR hi
          have HB4 := Lib.hid hb3
          have HX0 := Lib.hid hX0
          have HNR := Lib.hid hNR
          have k0 := cell_regrown b0
          have k1 := cell_regrown b1
          have k2 := cell_regrown b2
          have k3 := cell_regrown d1
          have k4 := cell_regrown d2
          have HD2 := Lib.hid d2
          have HF2 := Lib.hid f2
          clear hb3 hX0 hNR b0 b1 b2 d1 d2 f2
          refine Lst.wp_region_below_lastN 13 rfl rfl (by kernel_rfl) (by kernel_rfl) (by kernel_rfl) ?_
          simp only [List.take_succ_cons, List.take_zero]
          repeat (go_big_quiet_step (fail))
          refine wpQuiet_nil ?_
          intro w9 hb9
          refine ⟨by rfl, ?_⟩
          have c9 := Go.Proofs.Ytoadihclmnjjnaa.Sl.cell_kept HD2.out hb9
          have f9 : w9.frozen? ⟨R i, j, none⟩ = false := (hb9.frozen (p := ⟨R i, j, none⟩) lRi).trans HF2.out
          clear k0 k1 k2 k3 k4
          go_simp
          have hX1 : Mx (w9.setCell ⟨R i, j, none⟩ (.int .i64 ((M i j &&& s : Nat) : Int))) w.heap.size R k (stepA M i j s) := (HX0.out.below hb9).set hi hj (M i j &&& s)
          have hRi : w.heap.size ≤ R i := Nat.le_of_lt (HHR.out i hi)
          have hL1 : Below w.heap.size w (w9.setCell ⟨R i, j, none⟩ (.int .i64 ((M i j &&& s : Nat) : Int))) := (bstep hL0 hb9).setCell (p := ⟨R i, j, none⟩) hRi _
          have hb5 : (w9.setCell ⟨R i, j, none⟩ (.int .i64 ((M i j &&& s : Nat) : Int))).heap[NB]? = some (.cells #[.int .i64 (i : Int), .int .i64 (j : Int), .int .i64 (s : Int)] 30 (0, 0)) := (Below.heap_setCell _ _ _ _ nN).trans ((hb9.block NB (Array.getElem?_eq_some_iff.1 HB4.out).1).trans HB4.out)
          clear HB4 HX0 hL0 HD2 HF2 c9 f9 hb9
          generalize (w9.setCell ⟨R i, j, none⟩ (.int .i64 ((M i j &&& s : Nat) : Int))) = W1 at *
          have b0 : W1.cell? ⟨NB, 0, none⟩ = some (.int .i64 (i : Int)) := by rw [cell_of_row _ _ 0 _ _ _ hb5]; rfl
          have b1 : W1.cell? ⟨NB, 1, none⟩ = some (.int .i64 (j : Int)) := by rw [cell_of_row _ _ 1 _ _ _ hb5]; rfl
          have b2 : W1.cell? ⟨NB, 2, none⟩ = some (.int .i64 (s : Int)) := by rw [cell_of_row _ _ 2 _ _ _ hb5]; rfl
          obtain ⟨cj, hcj, d1⟩ := hX1.cap hj
          have d2 := hX1.cell hj hi
          have f2 := (hX1.row j hj).frozen i
          have lRj := hX1.ltR hj
          have nB2 : ¬ w.heap.size = R j := fun e => hX1.off j hj e.symm
          have nN2 := HNR.out j hj
          have hbA : BdM k (stepA M i j s) := fun a b ha hb => by
            unfold stepA setM
            split
            · exact Nat.lt_of_le_of_lt Nat.and_le_left (HBD.out i j hi hj)
            · exact HBD.out a b ha hb
          have hbit2 : bits .and .i64 ((stepA M i j s j i : Nat) : Int) ((invN s : Nat) : Int) = ((stepA M i j s j i &&& invN s : Nat) : Int) := Bt.bits_and _ _ (by have := hbA j i hj hi; omega) (by have := invN_lt s; omega)
          have HIN := fun W => inverse_any s hsb W
          have HX1 := Lib.hid hX1
          have HL1 := Lib.hid hL1
          have HB5 := Lib.hid hb5
          clear hX1 hL1 hb5 hbit hbA nB nN
          go_upto_region 12 with fail
          have k0 := cell_regrown b0
          have k1 := cell_regrown b1
          have k2 := cell_regrown b2
          have k3 := cell_regrown d1
          have k4 := cell_regrown d2
          have HD2 := Lib.hid d2
          have HF2 := Lib.hid f2
          clear b0 b1 b2 d1 d2 f2
          refine Lst.wp_region_below_lastN 14 rfl rfl (by kernel_rfl) (by kernel_rfl) (by kernel_rfl) ?_
          simp only [List.take_succ_cons, List.take_zero]
          repeat (go_big_quiet_step (first | (go_at_call 86; with_reducible exact Calls.regrown_of (HIN _))))
          refine wpQuiet_nil ?_
          intro w1 hbI
          refine ⟨by rfl, ?_⟩
          have c9 := Go.Proofs.Ytoadihclmnjjnaa.Sl.cell_kept HD2.out hbI
          have f9 : w1.frozen? ⟨R j, i, none⟩ = false := (hbI.frozen (p := ⟨R j, i, none⟩) lRj).trans HF2.out
          clear k0 k1 k2 k3 k4
          go_simp
          have hX2 : Mx (w1.setCell ⟨R j, i, none⟩ (.int .i64 ((stepA M i j s j i &&& invN s : Nat) : Int))) w.heap.size R k (stepB M i j s) := (HX1.out.below hbI).set hj hi (stepA M i j s j i &&& invN s)
          have hRj : w.heap.size ≤ R j := Nat.le_of_lt (HHR.out j hj)
          have hL2 : Below w.heap.size w (w1.setCell ⟨R j, i, none⟩ (.int .i64 ((stepA M i j s j i &&& invN s : Nat) : Int))) := (bstep HL1.out hbI).setCell (p := ⟨R j, i, none⟩) hRj _
          have hb6 : (w1.setCell ⟨R j, i, none⟩ (.int .i64 ((stepA M i j s j i &&& invN s : Nat) : Int))).heap[NB]? = some (.cells #[.int .i64 (i : Int), .int .i64 (j : Int), .int .i64 (s : Int)] 30 (0, 0)) := (Below.heap_setCell _ _ _ _ nN2).trans ((hbI.block NB (Array.getElem?_eq_some_iff.1 HB5.out).1).trans HB5.out)
          clear HD2 HF2 c9 f9 HB5 HX1 HL1 hbI hbit2 HIN
          generalize (w1.setCell ⟨R j, i, none⟩ (.int .i64 ((stepA M i j s j i &&& invN s : Nat) : Int))) = W2 at *
          have b0 : W2.cell? ⟨NB, 0, none⟩ = some (.int .i64 (i : Int)) := by rw [cell_of_row _ _ 0 _ _ _ hb6]; rfl
          have b1 : W2.cell? ⟨NB, 1, none⟩ = some (.int .i64 (j : Int)) := by rw [cell_of_row _ _ 1 _ _ _ hb6]; rfl
          have HX2 := Lib.hid hX2
          have HL2 := Lib.hid hL2
          clear hX2 hL2 hb6
          by_cases hij : i = j
          · subst hij
            obtain ⟨cj, hcj, d1⟩ := HX2.out.cap hi
            have d2 := HX2.out.cell hi hi
            have gii : ((i : Int) == (i : Int)) = true := by simp
            obtain ⟨Z, hZ⟩ : ∃ Z, stepB M i i s i i = Z := ⟨_, rfl⟩
            rw [hZ] at d2
            have HZ := Lib.hid hZ
            clear hZ
            go_upto_region 13 with fail
            have k0 := cell_regrown b0
            have k1 := cell_regrown b1
            have k3 := cell_regrown d1
            have k4 := cell_regrown d2
            clear b0 b1 d1 d2
            refine wp_region_quiet_below (by kernel_rfl) (by kernel_rfl) ?_
            repeat (go_big_quiet_step (fail))
            refine wpQuiet_nil ?_
            intro _ hw9
            obtain ⟨⟨dq, osq⟩, hw9⟩ := hw9
            subst hw9
            have hbq := below_regrown W2 dq osq
            have hX3 := HX2.out.below hbq
            have hL3 := bstep HL2.out hbq
            clear k0 k1 k3 k4 hbq
            generalize Go.Sort.grow (redrawn W2 dq) osq = W3 at *
            by_cases h0 : Z = 0
            · subst h0
              have HX3 := Lib.hid hX3
              clear hX3
              go_wp2
              go_loopw [83] (fun kv wa => ∃ a, a ≤ k ∧ kv = .int .i64 (a : Int) ∧ Mx wa w.heap.size R k (fun x y => if x < a then 0 else stepB M i i s x y) ∧ Below w.heap.size w wa) (fun kv _ => k - (RowKit.intOf kv).toNat)
              case atStart => exact ⟨0, Nat.zero_le _, rfl, HX3.out.congr (fun x y _ _ => by rw [if_neg (by omega)]), hL3⟩
              case round =>
                obtain ⟨a, ha, rfl, hX4, hL4⟩ := hrel
                have a0 : (0 : Int) ≤ (a : Int) := by omega
                by_cases hak : a < k
                · have a1 : (a : Int) < (k : Int) := by omega
                  obtain ⟨ca, hca, e1⟩ := hX4.cap hak
                  have hrow := hX4.row a hak
                  have hcl : ∀ ty, (Builtin.clear_ #[25] ty #[.slice (some ⟨R a, 0, none⟩) k ca]).run Try.prog wr = .ok (.tuple #[]) (wr.setCells (R a) 0 (List.replicate k (.int .i64 0))) :=
                    fun ty => Lib.run_clear_slice wr 25 3 ty (.int .i64 0) Try.underlying25 zeroI rfl rfl (R a) 0 k ca hn (fun j hj => by rw [Nat.zero_add, hrow.cell hj]; rfl) (fun j hj => by rw [Nat.zero_add]; exact hrow.frozen j)
                  have hra := hrow.clear k 0 _ _ (by omega)
                  have HRA := Lib.hid hra
                  have HX4 := Lib.hid hX4
                  clear hrow hra hX4
                  go_wp2
                  go_roundw
                  case rel =>
                    refine ⟨a + 1, by omega, by go_num, (HX4.out.row_set hak (Md.cells (S := fun k => k = R a) rfl _ _ _ _ (Md.refl _ _)) HRA.out).congr (fun x y hx hy => ?_), (Md.cells (S := fun k => k = R a) rfl _ _ _ _ (Md.refl _ _) : Md (fun k => k = R a) wr _).below' hL4 (by
                      rintro b rfl
                      exact Nat.le_of_lt (HHR.out a hak))⟩
                    by_cases e : x = a
                    · rw [if_pos e, if_pos (by omega), if_pos (by omega)]
                    · rw [if_neg e]
                      by_cases e2 : x < a
                      · rw [if_pos e2, if_pos (by omega)]
                      · rw [if_neg e2, if_neg (by omega)]
                  case measure => simp [RowKit.intOf]; omega
                · obtain rfl : a = k := by omega
                  have HX4 := Lib.hid hX4
                  clear hX4
                  go_wp2
                  go_roundw
                  case rel =>
                    refine ⟨q + 1, by omega, by go_num, ?_, hL4⟩
                    rw [HST.out, if_pos (by first | exact ⟨rfl, HZ.out⟩ | exact ⟨trivial, HZ.out⟩ | exact HZ.out)]
                    exact HX4.out.congr (fun x y hx _ => by rw [if_pos hx])
                  case measure => simp [RowKit.intOf]; omega
            · have g0 : ((Z : Int) == 0) = false := by simp; omega
              have H0 := Lib.hid h0
              have HX3 := Lib.hid hX3
              clear h0 hX3
              go_wp2
              go_roundw
              case rel => exact ⟨q + 1, by omega, by go_num, by rw [HST.out, if_neg (fun h => H0.out (HZ.out.symm.trans h.2))]; exact HX3.out, hL3⟩
              case measure => simp [RowKit.intOf]; omega
          · have gij : ((i : Int) == (j : Int)) = false := by simp; omega
            have HIJ := Lib.hid hij
            clear hij
            go_upto_region 13 with fail
            have k0 := cell_regrown b0
            have k1 := cell_regrown b1
            clear b0 b1
            refine wp_region_quiet_below (by kernel_rfl) (by kernel_rfl) ?_
            repeat (go_big_quiet_step (fail))
            refine wpQuiet_nil ?_
            intro _ hw9
            obtain ⟨⟨dq, osq⟩, hw9⟩ := hw9
            subst hw9
            have hbq := below_regrown W2 dq osq
            have hX3 := HX2.out.below hbq
            have hL3 := bstep HL2.out hbq
            clear k0 k1 hbq
            generalize Go.Sort.grow (redrawn W2 dq) osq = W3 at *
            go_wp2
            go_roundw
            case rel => exact ⟨q + 1, by omega, by go_num, by rw [HST.out, if_neg (fun h => HIJ.out h.1)]; exact hX3, hL3⟩
            case measure => simp [RowKit.intOf]; omega
        · obtain rfl : q = m := by omega
          have HX1 := Lib.hid hX1
          clear hX1
          go_wp2
          go_ret
          refine ⟨w.heap.size, R, rfl, ?_, Nat.le_refl _, fun i hi => Nat.le_of_lt (HHR.out i hi), hL1⟩
          have := HX1.out
          rw [HM.out, List.take_length] at this
          exact this
end Go.Proofs.Ytoadihclmnjjnaa.Nw
