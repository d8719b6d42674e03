/-
  Networks, the reference: Matrix (layer 46).
-/
import Derived.Test.YtoadihclmnjjnaaNxC
import Derived.Test.YtoadihclmnjjnaaNwT
import Derived.Test.YtoadihclmnjjnaaRef4
set_option linter.unusedSimpArgs false
set_option linter.unusedVariables false
set_option maxRecDepth 100000
namespace Go.Proofs.Ytoadihclmnjjnaa.Nw
open Go Go.RowKit Go.ChangeShapes Go.WideShapes Go.Proofs.Ytoadihclmnjjnaa.Sl Go.Proofs.Ytoadihclmnjjnaa.Al Go.Lib

/-! ### the reference's matrix, constraint by constraint -/
def stepR (M : Mt) (r : Rl) : Mt := if r.i.toNat = r.j.toNat then M else stepB M r.i.toNat r.j.toNat r.s.toNat
def emp (r : Rl) : Bool := decide (r.i.toNat = r.j.toNat) && !(r.s.toNat).testBit 6
theorem zero_fold : ∀ (l : List Rl), l.foldl stepM (fun _ _ => 0) = fun _ _ => 0
  | [] => rfl
  | r :: l => by
    rw [List.foldl_cons, show stepM (fun _ _ => 0) r = fun _ _ => 0 from ?_]
    · exact zero_fold l
    · funext a b
      exact (stepM_sub _ _ _ _).zero
theorem and_64 {s : Nat} : (64 &&& s) &&& invN s = if s.testBit 6 = true then 64 else 0 := by
  apply Nat.eq_of_testBit_eq
  intro c
  rw [Nat.testBit_and, Nat.testBit_and, show (64 : Nat) = 2 ^ 6 from rfl]
  by_cases e : c = 6
  · subst e
    rw [Nat.testBit_two_pow_self, invN_bit _ _ (by omega)]
    cases h : s.testBit 6
    · rw [if_neg (by simp)]; simp
    · rw [if_pos rfl, Nat.testBit_two_pow_self]; rfl
  · rw [Nat.testBit_two_pow_of_ne (Ne.symm e)]
    split
    · rw [Nat.testBit_two_pow_of_ne (Ne.symm e)]; rfl
    · simp
theorem fold_eq : ∀ (l : List Rl) (M : Mt), (∀ i, M i i = 64) → l.foldl stepM M = if l.any emp = true then (fun _ _ => 0) else l.foldl stepR M
  | [], M, _ => rfl
  | r :: l, M, h => by
    rw [List.foldl_cons, List.foldl_cons, List.any_cons]
    by_cases e : r.i.toNat = r.j.toNat
    · have hB : stepB M r.i.toNat r.j.toNat r.s.toNat r.i.toNat r.i.toNat = if (r.s.toNat).testBit 6 = true then 64 else 0 := by
        rw [← e]
        unfold stepB stepA
        simp only [setM_same]
        rw [h, and_64]
      cases hb : (r.s.toNat).testBit 6
      · rw [hb, if_neg (by simp)] at hB
        have h1 : stepM M r = fun _ _ => 0 := by unfold stepM; rw [if_pos ⟨e, hB⟩]
        have h2 : emp r = true := by unfold emp; rw [hb, decide_eq_true e]; rfl
        rw [h1, h2, zero_fold, Bool.true_or, if_pos rfl]
      · rw [hb, if_pos rfl] at hB
        have h2 : emp r = false := by unfold emp; rw [hb]; simp
        have h1 : stepM M r = M := by
          unfold stepM
          rw [if_neg (by rw [hB]; omega), ← e]
          rw [← e] at hB
          funext a b
          by_cases q : a = r.i.toNat ∧ b = r.i.toNat
          · obtain ⟨rfl, rfl⟩ := q
            rw [hB, h]
          · unfold stepB stepA
            rw [setM_other _ _ _ _ _ _ q, setM_other _ _ _ _ _ _ q]
        have h3 : stepR M r = M := by unfold stepR; rw [if_pos e]
        rw [h1, h2, h3, Bool.false_or]
        exact fold_eq l M h
    · have h2 : emp r = false := by unfold emp; rw [decide_eq_false e]; rfl
      have h1 : stepM M r = stepR M r := by unfold stepM stepR; rw [if_neg (fun q => e q.1), if_neg e]
      rw [h1, h2, Bool.false_or]
      refine fold_eq l _ fun i => ?_
      unfold stepR
      rw [if_neg e]
      unfold stepB stepA
      rw [setM_other _ _ _ _ _ _ (by omega), setM_other _ _ _ _ _ _ (by omega)]
      exact h i
def rMat (l : List Rl) : Mt := if l.any emp = true then (fun _ _ => 0) else l.foldl stepR mat0
theorem rMat_eq (l : List Rl) : rMat l = matN l := (fold_eq l mat0 fun i => by unfold mat0; rw [if_pos rfl]).symm
def rTo (l : List Rl) : Mt := l.foldl stepR mat0
theorem rTo_step (l : List Rl) (k : Nat) (r : Rl) (h : l[k]? = some r) : rTo (l.take (k + 1)) = stepR (rTo (l.take k)) r := by
  unfold rTo
  rw [List.take_add_one, h, List.foldl_append]; rfl
theorem emp_step (l : List Rl) (k : Nat) (r : Rl) (h : l[k]? = some r) : (l.take (k + 1)).any emp = ((l.take k).any emp || emp r) := by
  rw [List.take_add_one, h, List.any_append]; simp
theorem stepR_ok (M : Mt) (i j s : Nat) : stepR M ⟨i, j, s⟩ = if i = j then M else stepB M i j s := by
  unfold stepR
  simp only [Int.toNat_natCast]
theorem emp_ok (i j s : Nat) : emp ⟨i, j, s⟩ = (decide (i = j) && !s.testBit 6) := by
  unfold emp
  simp only [Int.toNat_natCast]
theorem bd_stepR {n : Nat} {M : Mt} (h : BdM n M) {i j s : Nat} (hi : i < n) (hj : j < n) : BdM n (stepR M ⟨i, j, s⟩) := by
  rw [stepR_ok]
  split
  · exact h
  · intro a b ha hb
    exact (stepB_sub M i j s a b).lt (h a b ha hb)
theorem bd_rTo {n : Nat} : ∀ (l : List Rl), (∀ r ∈ l, OkR n r) → ∀ M, BdM n M → BdM n (l.foldl stepR M)
  | [], _, M, h => h
  | r :: l, hok, M, h => by
    obtain ⟨i, j, s, rfl, hi, hj, hs⟩ := hok r (by simp)
    exact bd_rTo l (fun r hr => hok r (by simp [hr])) _ (bd_stepR h hi hj)
theorem bit_test0 (m k : Nat) (hm : m < 2 ^ 63) : (bits .and .i64 ((m : Int) / 2 ^ k) 1 == 0) = !m.testBit k := by
  have h1 : ((m : Int) / 2 ^ k) = ((m / 2 ^ k : Nat) : Int) := by simp
  have h2 := Bt.bits_and (m / 2 ^ k) 1 (Nat.lt_of_le_of_lt (Nat.div_le_self _ _) hm) (by omega)
  rw [h1, show (1 : Int) = ((1 : Nat) : Int) from rfl, h2, Nat.testBit, Nat.shiftRight_eq_div_pow, Nat.and_comm 1]
  rcases Nat.mod_two_eq_zero_or_one (m / 2 ^ k) with h | h
  · simp [Nat.and_one_is_mod, h]
  · simp [Nat.and_one_is_mod, h]
set_option maxHeartbeats 8000000 in
theorem rmatrix_start (n : Nat) (l : List Rl) (ad : Option Addr) (m cl : Nat) (w : World) (hn : 0 < n) (hn8 : n ≤ 8) (hm : m = l.length) (hs : Rs w (.slice ad m cl) l) (hm6 : m ≤ 1000000) (hok : ∀ r ∈ l, OkR n r) :
    Calls Try.prog 22 #[.int .i64 (n : Int), .slice ad m cl] w fun e w' => ∃ B R, e = .returned (.slice (some ⟨B, 0, none⟩) n n) ∧ Mx w' B R n (rMat l) ∧ w.heap.size ≤ B ∧ (∀ i, i < n → w.heap.size ≤ R i) ∧ Below w.heap.size w w' := by
  have HMK := fun W => mk_rows n (by omega) W
  have HMI := fun W => mk_ints n (by omega) W
  have HS := Lib.hid hs
  have HM := Lib.hid hm
  have HOK := Lib.hid hok
  have n0 : (n : Int) ≤ 8 := by omega
  clear hs hm hok
  go_enter Try.func22, Try.ntmps22
  go_wp2
  go_loopw [6] (fun kv wr => ∃ k R, k ≤ n ∧ kv = .int .i64 (k : Int) ∧ Px wr w.heap.size R n k mat0 ∧ (∀ i, i < k → w.heap.size < R i) ∧ Below w.heap.size w wr ∧ w.heap.size < wr.heap.size) (fun kv _ => n - (RowKit.intOf kv).toNat)
  case atStart => exact ⟨0, fun _ => 0, Nat.zero_le _, rfl, Px.start w n _ _ mat0 _, fun i hi => by omega, by go_grown, by simp⟩
  case round =>
    obtain ⟨k, R, hk, rfl, hP, hR, hL, hsz⟩ := hrel
    by_cases hkn : k < n
    · have hk0 : (0 : Int) ≤ (k : Int) := by omega
      have hk1 : (k : Int) < (n : Int) := by omega
      obtain ⟨u0, x0⟩ := hP.any hkn
      have f0 := hP.frozen k
      have HP := Lib.hid hP
      have HL := Lib.hid hL
      have HR := Lib.hid hR
      clear hP hL hR
      go_upto_region 7 with fail
      have hrw : Rw (wr.alloc (.cells (Array.replicate n (.int .i64 0)) 3)) wr.heap.size n (fun j => if j < 0 then mat0 k j else 0) := ⟨_, _, heap_alloc_new wr _, fun j hj => by simp [hj]⟩
      have hPa := ((HP.out.congr (M' := fun a b => if a = k then 0 else mat0 a b) (fun i j hi hj => by rw [if_neg (by omega)])).below ((Below.refl _ wr).alloc (Nat.le_refl _) (.cells (Array.replicate n (.int .i64 0)) 3))).put (c := n) hkn (hrw.congr rfl (fun j hj => by simp)) (by omega) (fun j hj e => by have := HP.out.ltR hj; omega) (Nat.le_refl _)
      rw [World.setCell_alloc_past _ _ _ _ hsz] at hPa
      have hLa : Below w.heap.size w ((wr.setCell ⟨w.heap.size, k, none⟩ (.slice (some ⟨wr.heap.size, 0, none⟩) n n)).alloc (.cells (Array.replicate n (.int .i64 0)) 3)) := (HL.out.setCell (p := ⟨w.heap.size, k, none⟩) (Nat.le_refl _) _).alloc (by simp [World.setCell]; omega) _
      have hlta : w.heap.size < ((wr.setCell ⟨w.heap.size, k, none⟩ (.slice (some ⟨wr.heap.size, 0, none⟩) n n)).alloc (.cells (Array.replicate n (.int .i64 0)) 3)).heap.size := by simp [World.setCell]; omega
      clear x0 f0 hrw
      generalize wr.heap.size = g at *
      generalize (wr.setCell ⟨w.heap.size, k, none⟩ (.slice (some ⟨g, 0, none⟩) n n)).alloc (.cells (Array.replicate n (.int .i64 0)) 3) = W3 at *
      have HPA := Lib.hid hPa
      clear hPa
      go_loopw [7] (fun jv wj => ∃ j, j ≤ n ∧ jv = .int .i64 (j : Int) ∧ Px wj w.heap.size (fun j => if j = k then g else R j) n (k + 1) (fun a b => if a = k then (if b < j then mat0 k b else 0) else mat0 a b) ∧ Below w.heap.size w wj ∧ w.heap.size < wj.heap.size) (fun jv _ => n - (RowKit.intOf jv).toNat)
      case atStart => exact ⟨0, Nat.zero_le _, rfl, HPA.out.congr (fun a b ha hb => by simp), hLa, hlta⟩
      case round =>
        obtain ⟨j, hj, rfl, hP2, hL2, hs2⟩ := hrel
        by_cases hjn : j < n
        · have hj0 : (0 : Int) ≤ (j : Int) := by omega
          have hj1 : (j : Int) < (n : Int) := by omega
          obtain ⟨cs, t, hh, _, hcs⟩ := hP2.top
          obtain ⟨cc, hcc, h5⟩ := hcs k (by omega)
          have y0 : wr.cell? ⟨w.heap.size, k, none⟩ = some (.slice (some ⟨g, 0, none⟩) n cc) := by
            rw [cell_of_row _ _ k _ _ _ hh, h5]; simp
          have hrow := hP2.row k (by omega)
          simp only [if_true] at hrow
          have y1 := hrow.cell hjn
          have y2 := hrow.frozen j
          have hgw : ¬ w.heap.size = g := fun e => (hP2.off k (by omega)) (by simp only [if_true]; exact e.symm)
          have HP2 := Lib.hid hP2
          have lg : w.heap.size < g := by assumption
          clear hP2 hcs h5 hh hrow
          by_cases hkj : k = j
          · subst hkj
            have gkj : ((k : Int) == (k : Int)) = true := by simp
            go_wp2
            go_roundw
            case rel =>
              have h1 := HP2.out.set (i := k) (j := k) (by omega) hjn 8191
              simp only [if_true] at h1
              have h2 := h1.set (i := k) (j := k) (by omega) hjn 64
              simp only [if_true] at h2
              refine ⟨k + 1, by omega, by go_num, h2.congr (fun a b ha hb => ?_), (hL2.setCell (p := ⟨g, k, none⟩) (Nat.le_of_lt lg) _).setCell (p := ⟨g, k, none⟩) (Nat.le_of_lt lg) _, by simpa [World.setCell] using hs2⟩
              unfold setM mat0
              by_cases e1 : a = k ∧ b = k
              · rw [if_pos e1, if_pos e1.1, if_pos (by omega), if_pos e1.2.symm]
              · rw [if_neg e1, if_neg e1]
                dsimp only
                by_cases e2 : a = k
                · rw [if_pos e2, if_pos e2]
                  by_cases e3 : b < k
                  · rw [if_pos e3, if_pos (by omega)]
                  · rw [if_neg e3, if_neg (by omega)]
                · rw [if_neg e2, if_neg e2]
            case measure => simp [RowKit.intOf]; omega
          · have gkj : ((k : Int) == (j : Int)) = false := by simp; omega
            have HKJ := Lib.hid hkj
            clear hkj
            go_wp2
            go_roundw
            case rel =>
              have h1 := HP2.out.set (i := k) (j := j) (by omega) hjn 8191
              simp only [if_true] at h1
              refine ⟨j + 1, by omega, by go_num, h1.congr (fun a b ha hb => ?_), hL2.setCell (p := ⟨g, j, none⟩) (Nat.le_of_lt lg) _, by simpa [World.setCell] using hs2⟩
              have hkj := HKJ.out
              unfold setM mat0
              by_cases e1 : a = k ∧ b = j
              · rw [if_pos e1, if_pos e1.1, if_pos (by omega), if_neg (by omega)]
              · rw [if_neg e1]
                dsimp only
                by_cases e2 : a = k
                · rw [if_pos e2, if_pos e2]
                  by_cases e3 : b < j
                  · rw [if_pos e3, if_pos (by omega)]
                  · rw [if_neg e3, if_neg (by omega)]
                · rw [if_neg e2, if_neg e2]
            case measure => simp [RowKit.intOf]; omega
        · have hje : j = n := by omega
          have HP2 := Lib.hid hP2
          clear hP2
          go_wp2
          go_roundw
          case rel =>
            refine ⟨k + 1, (fun j => if j = k then g else R j), by omega, by go_num, HP2.out.congr (fun a b ha hb => ?_), fun i hi => ?_, hL2, hs2⟩
            · by_cases e2 : a = k
              · rw [if_pos e2, if_pos (by omega), e2]
              · rw [if_neg e2]
            · by_cases e2 : i = k
              · simp only [e2, if_true]; assumption
              · simp only [e2, if_false]; exact HR.out i (by omega)
          case measure => simp [RowKit.intOf]; omega
    · have hkn2 : k = n := by omega
      subst hkn2
      have hX := Lib.hid hP.mx
      have HHR := Lib.hid hR
      have HBZ := Lib.hid (fun q => bd_rTo (n := k) (l.take q) (fun r hr => HOK.out r (List.mem_of_mem_take hr)) mat0 (fun i j _ _ => by unfold mat0; split <;> omega))
      clear hP hR
      go_wp2
      go_loopw [8, 9] (fun bv kv wr => ∃ q b, b = (l.take q).any emp ∧ q ≤ m ∧ bv = .bool b ∧ kv = .int .i64 (q : Int) ∧ Mx wr w.heap.size R k (rTo (l.take q)) ∧ Below w.heap.size w wr) (fun _ kv _ => m - (RowKit.intOf kv).toNat)
      case atStart => exact ⟨0, false, rfl, Nat.zero_le _, rfl, rfl, hX.out, hL⟩
      case round =>
        obtain ⟨q, b, hb, hq, rfl, rfl, hX1, hL1⟩ := hrel
        have HB := Lib.hid hb
        clear hb
        by_cases hqm : q < m
        · obtain ⟨g, off, cp, e1, hcl⟩ := (HS.out.below hL1).get (by rw [← HM.out]; omega)
          rw [← HM.out] at e1
          cases e1
          obtain ⟨x, ht⟩ : ∃ t, l[q]? = some t := ⟨_, List.getElem?_eq_getElem (by rw [← HM.out]; exact hqm)⟩
          obtain ⟨i, j, s, rfl, hi, hj, hsb⟩ := HOK.out x (List.mem_of_getElem? ht)
          obtain ⟨z0, z1, z2⟩ := hcl q _ ht
          dsimp only at z0 z1 z2
          have q0 : (0 : Int) ≤ (q : Int) := by omega
          have q1 : (q : Int) < (m : Int) := by omega
          have hst := rTo_step l q _ ht
          rw [stepR_ok] at hst
          have HST := Lib.hid hst
          have hem := emp_step l q _ ht
          rw [emp_ok, ← HB.out] at hem
          have HEM := Lib.hid hem
          have HBD := Lib.hid (show BdM k (rTo (l.take q)) from HBZ.out q)
          clear hst hem
          generalize rTo (l.take q) = M at *
          have HX1 := Lib.hid hX1
          clear hcl ht hX1
          go_upto_region 17 with fail
          obtain ⟨NB, hNB⟩ : ∃ NB, NB = wr.heap.size := ⟨_, rfl⟩
          obtain ⟨W0, hW0⟩ : ∃ W0, wr.alloc (.cells #[.int .i64 (i : Int), .int .i64 (j : Int), .int .i64 (s : Int)] 30) = W0 := ⟨_, rfl⟩
          have hX0 : Mx W0 w.heap.size R k M := by rw [← hW0]; exact HX1.out.below ((Below.refl _ _).alloc (Nat.le_refl _) _)
          have hL0 : Below w.heap.size w W0 := by rw [← hW0]; exact hL1.alloc hL1.size _
          have hb3 : W0.heap[NB]? = some (.cells #[.int .i64 (i : Int), .int .i64 (j : Int), .int .i64 (s : Int)] 30 (0, 0)) := by rw [← hW0, hNB]; exact heap_alloc_new wr _
          have hNR : ∀ a, a < k → ¬ NB = R a := fun a ha e => by have := HX1.out.ltR ha; omega
          have hNW : ¬ NB = w.heap.size := fun e => by have := HX1.out.ltB; omega
          have b0 : W0.cell? ⟨NB, 0, none⟩ = some (.int .i64 (i : Int)) := by rw [cell_of_row _ _ 0 _ _ _ hb3]; rfl
          have b1 : W0.cell? ⟨NB, 1, none⟩ = some (.int .i64 (j : Int)) := by rw [cell_of_row _ _ 1 _ _ _ hb3]; rfl
          have b2 : W0.cell? ⟨NB, 2, none⟩ = some (.int .i64 (s : Int)) := by rw [cell_of_row _ _ 2 _ _ _ hb3]; rfl
          rw [hW0, ← hNB]
          clear hW0 hNB hL1 z0 z1 z2
          have i0 : (0 : Int) ≤ (i : Int) := by omega
          have i1 : (i : Int) < (k : Int) := by omega
          have j0 : (0 : Int) ≤ (j : Int) := by omega
          have j1 : (j : Int) < (k : Int) := by omega
          by_cases hij : i = j
          · subst hij
            have gij : ((i : Int) == (i : Int)) = true := by simp
            have hbt := bit_test0 s 6 (by omega)
            rw [show ((2 : Int) ^ 6) = 64 by decide] at hbt
            have HX0 := Lib.hid hX0
            clear hX0
            cases hb6 : s.testBit 6
            · rw [hb6] at hbt HEM
              have HE : Hid ((l.take (q + 1)).any emp = true) := Lib.hid (by rw [HEM.out]; simp)
              clear HEM hb6
              cases b
              · go_wp2
                go_roundw
                case rel => exact ⟨q + 1, true, HE.out.symm, by omega, rfl, by go_num, by rw [HST.out, if_pos rfl]; exact HX0.out, hL0⟩
                case measure => simp [RowKit.intOf]; omega
              · go_wp2
                go_roundw
                case rel => exact ⟨q + 1, true, HE.out.symm, by omega, rfl, by go_num, by rw [HST.out, if_pos rfl]; exact HX0.out, hL0⟩
                case measure => simp [RowKit.intOf]; omega
            · rw [hb6] at hbt HEM
              have HE : Hid ((l.take (q + 1)).any emp = b) := Lib.hid (by rw [HEM.out]; simp)
              clear HEM hb6
              cases b
              · go_wp2
                go_roundw
                case rel => exact ⟨q + 1, false, HE.out.symm, by omega, rfl, by go_num, by rw [HST.out, if_pos rfl]; exact HX0.out, hL0⟩
                case measure => simp [RowKit.intOf]; omega
              · go_wp2
                go_roundw
                case rel => exact ⟨q + 1, true, HE.out.symm, by omega, rfl, by go_num, by rw [HST.out, if_pos rfl]; exact HX0.out, hL0⟩
                case measure => simp [RowKit.intOf]; omega
          · have gij : ((i : Int) == (j : Int)) = false := by simp; omega
            have HIJ := Lib.hid hij
            have HE : Hid ((l.take (q + 1)).any emp = b) := Lib.hid (by rw [HEM.out, decide_eq_false hij]; simp)
            clear HEM hij
            go_upto_region 19 with fail
            obtain ⟨ci, hci, d1⟩ := hX0.cap hi
            have d2 := hX0.cell hi hj
            have f2 := (hX0.row i hi).frozen j
            have nB : ¬ w.heap.size = R i := fun e => hX0.off i hi e.symm
            have nN := hNR i hi
            have hbit : bits .and .i64 ((M i j : Nat) : Int) (s : Int) = ((M i j &&& s : Nat) : Int) := Bt.bits_and _ _ (by have := HBD.out i j hi hj; omega) (by omega)
            have lRi := hX0.ltR hi
            have HB4 := Lib.hid hb3
            have HX0 := Lib.hid hX0
            have HNR := Lib.hid hNR
            have k0 := cell_regrown b0
            have k1 := cell_regrown b1
            have k2 := cell_regrown b2
            have k3 := cell_regrown d1
            have k4 := cell_regrown d2
            have HD2 := Lib.hid d2
            have HF2 := Lib.hid f2
            clear hb3 hX0 hNR b0 b1 b2 d1 d2 f2
            refine Lst.wp_region_below_lastN 20 rfl rfl (by kernel_rfl) (by kernel_rfl) (by kernel_rfl) ?_
            simp only [List.take_succ_cons, List.take_zero]
            repeat (go_big_quiet_step (fail))
            refine wpQuiet_nil ?_
            intro w9 hb9
            refine ⟨by rfl, ?_⟩
            have c9 := Go.Proofs.Ytoadihclmnjjnaa.Sl.cell_kept HD2.out hb9
            have f9 : w9.frozen? ⟨R i, j, none⟩ = false := (hb9.frozen (p := ⟨R i, j, none⟩) lRi).trans HF2.out
            clear k0 k1 k2 k3 k4
            go_simp
            have hX1 : Mx (w9.setCell ⟨R i, j, none⟩ (.int .i64 ((M i j &&& s : Nat) : Int))) w.heap.size R k (stepA M i j s) := (HX0.out.below hb9).set hi hj (M i j &&& s)
            have hRi : w.heap.size ≤ R i := Nat.le_of_lt (HHR.out i hi)
            have hL1 : Below w.heap.size w (w9.setCell ⟨R i, j, none⟩ (.int .i64 ((M i j &&& s : Nat) : Int))) := (bstep hL0 hb9).setCell (p := ⟨R i, j, none⟩) hRi _
            have hb5 : (w9.setCell ⟨R i, j, none⟩ (.int .i64 ((M i j &&& s : Nat) : Int))).heap[NB]? = some (.cells #[.int .i64 (i : Int), .int .i64 (j : Int), .int .i64 (s : Int)] 30 (0, 0)) := (Below.heap_setCell _ _ _ _ nN).trans ((hb9.block NB (Array.getElem?_eq_some_iff.1 HB4.out).1).trans HB4.out)
            clear HB4 HX0 hL0 HD2 HF2 c9 f9 hb9
            generalize (w9.setCell ⟨R i, j, none⟩ (.int .i64 ((M i j &&& s : Nat) : Int))) = W1 at *
            have b0 : W1.cell? ⟨NB, 0, none⟩ = some (.int .i64 (i : Int)) := by rw [cell_of_row _ _ 0 _ _ _ hb5]; rfl
            have b1 : W1.cell? ⟨NB, 1, none⟩ = some (.int .i64 (j : Int)) := by rw [cell_of_row _ _ 1 _ _ _ hb5]; rfl
            have b2 : W1.cell? ⟨NB, 2, none⟩ = some (.int .i64 (s : Int)) := by rw [cell_of_row _ _ 2 _ _ _ hb5]; rfl
            obtain ⟨cj, hcj, d1⟩ := hX1.cap hj
            have d2 := hX1.cell hj hi
            have f2 := (hX1.row j hj).frozen i
            have lRj := hX1.ltR hj
            have nB2 : ¬ w.heap.size = R j := fun e => hX1.off j hj e.symm
            have nN2 := HNR.out j hj
            have hbA : BdM k (stepA M i j s) := fun a b ha hb => by
              unfold stepA setM
              split
              · exact Nat.lt_of_le_of_lt Nat.and_le_left (HBD.out i j hi hj)
              · exact HBD.out a b ha hb
            have hbit2 : bits .and .i64 ((stepA M i j s j i : Nat) : Int) ((invN s : Nat) : Int) = ((stepA M i j s j i &&& invN s : Nat) : Int) := Bt.bits_and _ _ (by have := hbA j i hj hi; omega) (by have := invN_lt s; omega)
            have HIN := fun W => rinverse_set s hsb W
            have HX1 := Lib.hid hX1
            have HL1 := Lib.hid hL1
            have HB5 := Lib.hid hb5
            clear hX1 hL1 hb5 hbit hbA nB nN
            go_upto_region 20 with fail
            have k0 := cell_regrown b0
            have k1 := cell_regrown b1
            have k2 := cell_regrown b2
            have k3 := cell_regrown d1
            have k4 := cell_regrown d2
            have HD2 := Lib.hid d2
            have HF2 := Lib.hid f2
            clear b0 b1 b2 d1 d2 f2
            refine Lst.wp_region_below_lastN 21 rfl rfl (by kernel_rfl) (by kernel_rfl) (by kernel_rfl) ?_
            simp only [List.take_succ_cons, List.take_zero]
            repeat (go_big_quiet_step (first | (go_at_call 64; with_reducible exact Calls.regrown_of (HIN _))))
            refine wpQuiet_nil ?_
            intro w1 hbI
            refine ⟨by rfl, ?_⟩
            have c9 := Go.Proofs.Ytoadihclmnjjnaa.Sl.cell_kept HD2.out hbI
            have f9 : w1.frozen? ⟨R j, i, none⟩ = false := (hbI.frozen (p := ⟨R j, i, none⟩) lRj).trans HF2.out
            clear k0 k1 k2 k3 k4
            go_simp
            have hX2 : Mx (w1.setCell ⟨R j, i, none⟩ (.int .i64 ((stepA M i j s j i &&& invN s : Nat) : Int))) w.heap.size R k (stepB M i j s) := (HX1.out.below hbI).set hj hi (stepA M i j s j i &&& invN s)
            have hRj : w.heap.size ≤ R j := Nat.le_of_lt (HHR.out j hj)
            have hL2 : Below w.heap.size w (w1.setCell ⟨R j, i, none⟩ (.int .i64 ((stepA M i j s j i &&& invN s : Nat) : Int))) := (bstep HL1.out hbI).setCell (p := ⟨R j, i, none⟩) hRj _
            have hb6 : (w1.setCell ⟨R j, i, none⟩ (.int .i64 ((stepA M i j s j i &&& invN s : Nat) : Int))).heap[NB]? = some (.cells #[.int .i64 (i : Int), .int .i64 (j : Int), .int .i64 (s : Int)] 30 (0, 0)) := (Below.heap_setCell _ _ _ _ nN2).trans ((hbI.block NB (Array.getElem?_eq_some_iff.1 HB5.out).1).trans HB5.out)
            clear HD2 HF2 c9 f9 HB5 HX1 HL1 hbI hbit2 HIN
            generalize (w1.setCell ⟨R j, i, none⟩ (.int .i64 ((stepA M i j s j i &&& invN s : Nat) : Int))) = W2 at *
            have b0 : W2.cell? ⟨NB, 0, none⟩ = some (.int .i64 (i : Int)) := by rw [cell_of_row _ _ 0 _ _ _ hb6]; rfl
            have b1 : W2.cell? ⟨NB, 1, none⟩ = some (.int .i64 (j : Int)) := by rw [cell_of_row _ _ 1 _ _ _ hb6]; rfl
            have HX2 := Lib.hid hX2
            have HL2 := Lib.hid hL2
            clear hX2 hL2 hb6
            clear b0 b1
            go_wp2
            go_roundw
            case rel => exact ⟨q + 1, b, HE.out.symm, by omega, rfl, by go_num, by rw [HST.out, if_neg HIJ.out]; exact HX2.out, HL2.out⟩
            case measure => simp [RowKit.intOf]; omega
        · have hqe : q = m := by omega
          subst hqe
          have HX1 := Lib.hid hX1
          clear hX1
          rw [HM.out, List.take_length] at HX1 HB
          cases b
          · go_wp2
            go_ret
            refine ⟨w.heap.size, R, rfl, ?_, Nat.le_refl _, fun i hi => Nat.le_of_lt (HHR.out i hi), hL1⟩
            unfold rMat
            rw [if_neg (by rw [← HB.out]; simp)]
            exact HX1.out
          · have hrm : rMat l = fun _ _ => 0 := by unfold rMat; rw [if_pos HB.out.symm]
            have HRM := Lib.hid hrm
            clear hrm HB
            generalize rTo l = M at *
            go_wp2
            go_loopw [11] (fun iv wi => ∃ i, i ≤ k ∧ iv = .int .i64 (i : Int) ∧ Mx wi w.heap.size R k (fun a b => if a < i then 0 else M a b) ∧ Below w.heap.size w wi) (fun iv _ => k - (RowKit.intOf iv).toNat)
            case atStart => exact ⟨0, Nat.zero_le _, rfl, HX1.out.congr (fun a b _ _ => by rw [if_neg (by omega)]), hL1⟩
            case round =>
              obtain ⟨i, hi, rfl, hX2, hL2⟩ := hrel
              by_cases hik : i < k
              · have i0 : (0 : Int) ≤ (i : Int) := by omega
                have i1 : (i : Int) < (k : Int) := by omega
                have HX2 := Lib.hid hX2
                have lRi : w.heap.size ≤ R i := Nat.le_of_lt (HHR.out i hik)
                clear hX2
                go_wp2
                go_loopw [12] (fun jv wj => ∃ j, j ≤ k ∧ jv = .int .i64 (j : Int) ∧ Mx wj w.heap.size R k (fun a b => if a < i then 0 else if a = i ∧ b < j then 0 else M a b) ∧ Below w.heap.size w wj) (fun jv _ => k - (RowKit.intOf jv).toNat)
                case atStart => exact ⟨0, Nat.zero_le _, rfl, HX2.out.congr (fun a b _ _ => by by_cases e : a < i <;> simp [e]), hL2⟩
                case round =>
                  obtain ⟨j, hj, rfl, hX3, hL3⟩ := hrel
                  by_cases hjk : j < k
                  · have j0 : (0 : Int) ≤ (j : Int) := by omega
                    have j1 : (j : Int) < (k : Int) := by omega
                    obtain ⟨ci, hci, c1⟩ := hX3.cap hik
                    have c2 := hX3.cell hik hjk
                    have f2 := (hX3.row i hik).frozen j
                    have HX3 := Lib.hid hX3
                    clear hX3
                    go_wp2
                    go_roundw
                    case rel =>
                      refine ⟨j + 1, by omega, by go_num, (HX3.out.set hik hjk 0).congr (fun a b ha hb => ?_), hL3.setCell (p := ⟨R i, j, none⟩) lRi _⟩
                      unfold setM
                      by_cases e1 : a = i ∧ b = j
                      · rw [if_pos e1, if_neg (by omega), if_pos (by omega)]
                      · rw [if_neg e1]
                        dsimp only
                        by_cases e2 : a < i
                        · rw [if_pos e2, if_pos e2]
                        · rw [if_neg e2, if_neg e2]
                          by_cases e3 : a = i ∧ b < j
                          · rw [if_pos e3, if_pos (by omega)]
                          · rw [if_neg e3, if_neg (by omega)]
                    case measure => simp [RowKit.intOf]; omega
                  · have hje : j = k := by omega
                    have HX3 := Lib.hid hX3
                    clear hX3
                    go_wp2
                    go_roundw
                    case rel =>
                      refine ⟨i + 1, by omega, by go_num, HX3.out.congr (fun a b ha hb => ?_), hL3⟩
                      by_cases e2 : a < i
                      · rw [if_pos (by omega), if_pos e2]
                      · by_cases e3 : a = i
                        · rw [if_pos (by omega), if_neg e2, if_pos (by omega)]
                        · rw [if_neg (by omega), if_neg e2, if_neg (by omega)]
                    case measure => simp [RowKit.intOf]; omega
              · have hie : i = k := by omega
                have HX2 := Lib.hid hX2
                clear hX2
                go_wp2
                go_ret
                refine ⟨w.heap.size, R, rfl, HX2.out.congr (fun a b ha hb => ?_), Nat.le_refl _, fun i hi => Nat.le_of_lt (HHR.out i hi), hL2⟩
                rw [HRM.out, if_pos (by omega)]
end Go.Proofs.Ytoadihclmnjjnaa.Nw
