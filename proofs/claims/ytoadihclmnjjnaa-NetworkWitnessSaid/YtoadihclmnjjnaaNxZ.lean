/-
  The walk of the law NetworkWitness (layer 46). Written by gen_nxz.py.
-/
import Derived.Test.YtoadihclmnjjnaaNxY
import Derived.Test.YtoadihclmnjjnaaNwZ
import Derived.OrdersHeld
set_option linter.unusedSimpArgs false
set_option linter.unusedVariables false
set_option maxRecDepth 100000
namespace Go.Proofs.Ytoadihclmnjjnaa.Nw
open Go Go.RowKit Go.ChangeShapes Go.WideShapes Go.Sort Go.Proofs.Ytoadihclmnjjnaa.Sl Go.Proofs.Ytoadihclmnjjnaa.Al Go.Lib
open Go.Proofs.Ytoadihclmnjjnaa.Iv (validB ofZ sgn)

/-! ### a region that draws its order, its rest walked quietly -/
theorem wpAnyH_any {P : Program} {md : Region.Mode} {ops : Array Oper} {Q : Exit → Act → World → Prop} : ∀ (fuel : Nat) (L : Array Bool) (a : Act) (w : World), wpAny P md ops Q fuel L a w → wpAnyH P md ops Q (fun _ => True) fuel L a w
  | 0, _, _, _, h => h
  | fuel + 1, _, _, _, h => ⟨h.1, fun i hi => wpOp_mono (fun a' w' h' => ⟨trivial, wpAnyH_any fuel _ a' w' h'⟩) (h.2 i hi)⟩
theorem rest_quiet {P : Program} {ops : List Oper} {Q : Exit → Act → World → Prop} {a : Act} {w : World} (n : Nat) (L : Array Bool) (hB : (Region.noSelect ops.toArray && Region.lexFrom .any ops.toArray (ops.drop n).length n L) = true)
    (h : wpQuiet P ops.toArray (fun w' => ∃ p : Regrown, w' = grow (redrawn w p.d) p.os) (fun a' => ∀ w', Below w.heap.size w w' → Q .normal a' w') (ops.drop n) a) : wpAny P .any ops.toArray Q (ops.drop n).length L a w := by
  rw [Bool.and_eq_true] at hB
  refine wpAny_of_quiet (C := fun w' => ∃ p : Regrown, w' = grow (redrawn w p.d) p.os) (Q := fun a' => ∀ w', Below w.heap.size w w' → Q .normal a' w') (fun a' w' hw' h' => ?_) _ _ _ _ ⟨⟨w.drawn, #[]⟩, by rw [grow_empty]; rfl⟩ ?_
  · obtain ⟨p, rfl⟩ := hw'
    exact h' _ (below_regrown w p.d p.os)
  · exact wpAnyQ_lex hB.1 (ops.drop n) n L a (fun j => by simp) hB.2 h

theorem Rf.below {W0 w w' : World} {v : Value} {l : List Rl} (h : Rf W0 w v l) (hb : Below w.heap.size w w') : Rf W0 w' v l :=
  ⟨h.1.kept (grown_below hb) (by
    by_cases c : v.ownBlock = none
    · exact .inl c
    · exact .inr c), bstep h.2 hb⟩
/-! ### the constraints of a scenario -/
def pairL (X : Mt) (i j : Nat) : Rl := ⟨(i : Int), (j : Int), ((X i j : Nat) : Int)⟩
def rowL (X : Mt) (i m : Nat) : List Rl := (List.range m).map (pairL X i)
def sgl (X : Mt) (n i j : Nat) : List Rl := ((List.range i).flatMap fun a => rowL X a n) ++ rowL X i j
theorem sgl_next (X : Mt) (n i j : Nat) : sgl X n i j ++ [pairL X i j] = sgl X n i (j + 1) := by
  unfold sgl rowL
  rw [List.append_assoc, List.range_succ (n := j), List.map_append]; rfl
theorem sgl_row (X : Mt) (n i : Nat) : sgl X n i n = sgl X n (i + 1) 0 := by
  unfold sgl
  rw [List.range_succ, List.flatMap_append]
  simp [rowL]
theorem sgl_zero (X : Mt) (n : Nat) : sgl X n 0 0 = [] := rfl
theorem rowL_len (X : Mt) (i m : Nat) : (rowL X i m).length = m := by simp [rowL]
theorem sgl_len (X : Mt) (n j : Nat) : ∀ i, (sgl X n i j).length = i * n + j
  | 0 => by simp [sgl, rowL]
  | i + 1 => by
    have h := sgl_len X n j i
    unfold sgl at h ⊢
    rw [List.length_append, rowL_len] at h
    rw [List.length_append, List.range_succ, List.flatMap_append, List.length_append, rowL_len]
    simp only [List.flatMap_cons, List.flatMap_nil, List.append_nil, rowL_len]
    rw [Nat.add_mul]
    omega
theorem sgl_mem {X : Mt} {n i j : Nat} (hj : j ≤ n) {r : Rl} (h : r ∈ sgl X n i j) : ∃ a b, a < i + 1 ∧ b < n ∧ r = pairL X a b := by
  unfold sgl rowL at h
  rcases List.mem_append.1 h with h | h
  · obtain ⟨a, ha, h2⟩ := List.mem_flatMap.1 h
    obtain ⟨b, hb, rfl⟩ := List.mem_map.1 h2
    exact ⟨a, b, by have := List.mem_range.1 ha; omega, List.mem_range.1 hb, rfl⟩
  · obtain ⟨b, hb, rfl⟩ := List.mem_map.1 h
    exact ⟨i, b, by omega, by have := List.mem_range.1 hb; omega, rfl⟩
theorem sgl_all {X : Mt} {n : Nat} {r : Rl} (h : r ∈ sgl X n n 0) : ∃ a b, a < n ∧ b < n ∧ r = pairL X a b := by
  unfold sgl rowL at h
  rcases List.mem_append.1 h with h | h
  · obtain ⟨a, ha, h2⟩ := List.mem_flatMap.1 h
    obtain ⟨b, hb, rfl⟩ := List.mem_map.1 h2
    exact ⟨a, b, List.mem_range.1 ha, List.mem_range.1 hb, rfl⟩
  · simp at h
theorem sc_lt {n : Nat} {X : Mt} (h : Sc n X) {a b : Nat} (ha : a < n) (hb : b < n) : X a b < 8192 := by
  obtain ⟨r, hr, e⟩ := h.1 a b ha hb
  rw [e]; exact pow13_lt r hr
theorem sgl_ok {X : Mt} {n : Nat} (h : Sc n X) : ∀ r ∈ sgl X n n 0, OkR n r := fun r hr => by
  obtain ⟨a, b, ha, hb, rfl⟩ := sgl_all hr
  exact ⟨a, b, X a b, rfl, ha, hb, sc_lt h ha hb⟩
theorem sgl_vld {X : Mt} {n : Nat} (h : Sc n X) (h0 : 0 < n) (h8 : n ≤ 8) : vldN (n : Int) (sgl X n n 0) = true := by
  unfold vldN
  have h1 : (sgl X n n 0).any (badR (n : Int)) = false := List.any_eq_false.2 fun r hr => by
    obtain ⟨a, b, ha, hb, rfl⟩ := sgl_all hr
    have := sc_lt h ha hb
    unfold badR pairL isSetB
    simp; omega
  have h2 : (sgl X n n 0).length ≤ 200 := by
    rw [sgl_len]
    have : n * n ≤ 8 * 8 := Nat.mul_le_mul h8 h8
    omega
  rw [h1, decide_eq_true (by omega), decide_eq_true (by omega), decide_eq_true h2]; rfl
theorem sgl_sat {X : Mt} {n : Nat} (h : Sc n X) : Sat n (matN (sgl X n n 0)) := (sat_iff (sgl_ok h)).2 ⟨X, h, fun r hr => by
  obtain ⟨a, b, ha, hb, rfl⟩ := sgl_all hr
  show Sub (X (a : Int).toNat (b : Int).toNat) ((X a b : Nat) : Int).toNat
  rw [Int.toNat_natCast, Int.toNat_natCast, Int.toNat_natCast]
  exact Sub.refl _⟩
theorem two_ne2 {x y : Nat} (h : Sub (2 ^ x) (2 ^ y)) : x = y := two_bit (h x Nat.testBit_two_pow_self)
theorem sgl_eq {X Y : Mt} {n : Nat} (h : Sc n X) (k : Sc n Y) (hle : LeM n Y (matN (sgl X n n 0))) {a b : Nat} (ha : a < n) (hb : b < n) : Y a b = X a b := by
  have h1 := ((le_mat k _ mat0 (sgl_ok h)).1 hle).2 (pairL X a b) (by
    unfold sgl
    refine List.mem_append_left _ (List.mem_flatMap.2 ⟨a, List.mem_range.2 ha, List.mem_map.2 ⟨b, List.mem_range.2 hb, rfl⟩⟩))
  have h2 : Sub (Y (a : Int).toNat (b : Int).toNat) ((X a b : Nat) : Int).toNat := h1
  rw [Int.toNat_natCast, Int.toNat_natCast, Int.toNat_natCast] at h2
  obtain ⟨r, hr, e1⟩ := h.1 a b ha hb
  obtain ⟨q, hq, e2⟩ := k.1 a b ha hb
  rw [e1, e2] at h2
  rw [e1, e2, two_ne2 h2]
/-- Intervals of Spans, of the constraints of a scenario, satisfy the network and these constraints. -/
theorem again {X Y : Mt} {n : Nat} {l : List Rl} (h : Sc n X) (k : Sc n Y) (hn8 : n ≤ 8) (hok : ∀ r ∈ l, OkR n r) (hX : LeM n X (matN l)) (hle : LeM n Y (matN (sgl X n n 0))) : holdsN l (spnL Y n) = true ∧ holdsN (sgl X n n 0) (spnL Y n) = true := by
  have hrel := fun a b (ha : a < n) (hb : b < n) => spnL_rel k hn8 ha hb
  refine ⟨holds_of (spnL_len Y n) (spnL_valid k hn8) hrel hok fun r hr => ?_, holds_of (spnL_len Y n) (spnL_valid k hn8) hrel (sgl_ok h) fun r hr => ((le_mat k _ mat0 (sgl_ok h)).1 hle).2 r hr⟩
  obtain ⟨a, b, s, rfl, ha, hb, hs⟩ := hok r hr
  have h1 : Sub (X (a : Int).toNat (b : Int).toNat) (s : Int).toNat := ((le_mat h l mat0 hok).1 hX).2 _ hr
  show Sub (Y (a : Int).toNat (b : Int).toNat) (s : Int).toNat
  rw [Int.toNat_natCast, Int.toNat_natCast] at h1 ⊢
  rw [sgl_eq h k hle ha hb]
  exact h1
theorem CoE.form {n : Nat} {l : List Rl} {w w' : World} {e : Ending} (h : CoE n l w e w') : ∃ (a : Option Addr) (m c : Nat) (x : Int), e = .returned (.tuple #[.slice a m c, .int .i64 x]) ∧ Below w.heap.size w w' := by
  obtain ⟨hb, X, ok, _, h1, h2⟩ := h
  cases ok
  · exact ⟨none, 0, 0, 17, h2 rfl, hb⟩
  · obtain ⟨B, R, e, _⟩ := h1 rfl
    exact ⟨_, _, _, 0, e, hb⟩
theorem CoE.yes {n : Nat} {l : List Rl} {w w' : World} {e : Ending} (h : CoE n l w e w') {X : Mt} (hX : Sc n X) (hle : LeM n X (matN l)) : ∃ B R C, e = .returned (.tuple #[.slice (some ⟨B, 0, none⟩) n n, .int .i64 0]) ∧ Mx w' B R n C ∧ BdM n C ∧ (∀ Y, Sc n Y → LeM n Y (matN l) → LeM n Y C) ∧ Below w.heap.size w w' := by
  obtain ⟨hb, C, ok, hC, h1, h2⟩ := h
  cases ok
  · exact ((show ∀ N, ClM n N → LeM n N (matN l) → ¬ NzM n N from hC) X hX.2.1 hle hX.nz).elim
  · obtain ⟨B, R, e, hM, _, _⟩ := h1 rfl
    have hG := (show GI n (matN l) C ∧ ClM n C ∧ NzM n C from hC).1
    exact ⟨B, R, C, e, hM, hG.bd (bd_matN n l), fun Y hY hYl => hG.2 Y hY.2.1 hYl, hb⟩
theorem spn_at {Y : Mt} {n i : Nat} (h : Sc n Y) (hi : i < n) : (spnL Y n)[i]? = some ((spnL Y n).getD i (0, 0)) ∧ 0 ≤ ((spnL Y n).getD i (0, 0)).1 ∧ ((spnL Y n).getD i (0, 0)).2 ≤ 2 * (n : Int) - 1 := by
  refine ⟨by rw [List.getD_eq_getElem?_getD, List.getElem?_eq_getElem (by rw [spnL_len]; exact hi)]; rfl, ?_, ?_⟩
  · rw [spnL_get hi]; dsimp only; omega
  · rw [spnL_get hi]
    have := rank_bd h (q := 2 * i + 1) (by omega)
    dsimp only; omega
set_option maxHeartbeats 8000000 in
theorem networkWitness_walk (n : Int) (v : Value) (l : List Rl) (w : World) (hn : (Lit.int .i64 n).wf = true) (hs : Rs w v l) (hg : ∀ r ∈ l, FitR r) : Calls Try.prog 9 #[.int .i64 n, v] w fun e w' => e = .returned (.bool true) ∧ Below w.heap.size w w' := by
  obtain ⟨ad, c, rfl⟩ := hs.form
  obtain ⟨q, hq⟩ : ∃ q, q = l.length := ⟨_, rfl⟩
  have HQ := Lib.hid hq
  rw [← hq] at hs ⊢
  have HG := fun W => great_any n ad q c W
  have hL := Below.refl w.heap.size w
  clear hq hn
  cases hgl : grN n q
  · rw [hgl] at HG
    cases hv : vldN n l
    · have HC := fun W (h : Below w.heap.size w W) => close_bad n l _ W (hs.below h) hv
      have HS := fun W (h : Below w.heap.size w W) => scen_bad n l _ W (hs.below h) hv
      have HP := fun W (h : Below w.heap.size w W) => spans_bad n l _ W (hs.below h) hv
      clear hs hgl hg hv
      go_enter Try.func9, Try.ntmps9
      go_wp2_with (first | (go_at_call 12; (with_reducible refine (awake_any _).mono ?_); rintro e w1 ⟨rfl, hb⟩; replace hL := bstep hL hb; clear hb) | (go_at_call 13; (with_reducible refine (HG _).mono ?_); rintro e w2 ⟨rfl, rfl⟩) | (go_at_call 18; (with_reducible refine (HC _ hL).mono ?_); rintro e w3 ⟨rfl, hb⟩; replace hL := bstep hL hb; clear hb) | (go_at_call 35; (with_reducible refine (HS _ hL).mono ?_); rintro e w4 ⟨rfl, hb⟩; replace hL := bstep hL hb; clear hb) | (go_at_call 36; (with_reducible refine (HP _ hL).mono ?_); rintro e w5 ⟨rfl, hb⟩; replace hL := bstep hL hb; clear hb))
      go_ret
      exact ⟨rfl, hL⟩
    · obtain ⟨k, rfl, k0, k8, l200, hok⟩ := vld_ok hv
      have HC := fun W (h : Below w.heap.size w W) => close_ok k l _ W (hs.below h) hv
      have HS := fun W (h : Below w.heap.size w W) => scen_ok k l _ W (hs.below h) hv
      have HP := fun W (h : Below w.heap.size w W) => spans_ok k l _ W (hs.below h) hv
      by_cases hsat : Sat k (matN l)
      · have HSAT := Lib.hid hsat
        have HOK := Lib.hid hok
        have HRS := Lib.hid hs
        clear hs hgl hg hv hok hsat
        go_enter Try.func9, Try.ntmps9
        go_upto_region 8 with (first | (go_at_call 12; (with_reducible refine (awake_any _).mono ?_); rintro e w1 ⟨rfl, hb⟩; replace hL := bstep hL hb; clear hb) | (go_at_call 13; (with_reducible refine (HG _).mono ?_); rintro e w2 ⟨rfl, rfl⟩) | (go_at_call 36; (with_reducible refine (HP _ hL).mono ?_); intro e w3 hsp; obtain ⟨hb, hsp⟩ := hsp; obtain ⟨Y, sv, hY, hYl, rfl, hPs⟩ := hsp.resolve_right (fun h => h.1 HSAT.out); obtain ⟨sa, sc, hsv⟩ := hPs.form; rw [spnL_len] at hsv; subst hsv; have HY := Lib.hid hY; have HYL := Lib.hid hYl; replace hL := bstep hL hb; clear hb hsp hY hYl) | (go_at_call 35; (with_reducible refine (HS _ hL).mono ?_); rintro e w4 ⟨v4, ok, rfl, hsc⟩; obtain rfl : ok = true := hsc.sat.2 HSAT.out; obtain ⟨B, R, X, c4, rfl, hX, hSX, hXl⟩ := hsc.2.1 rfl; have HSX := Lib.hid hSX; have HXL := Lib.hid hXl; replace hPs := hPs.below hsc.1; replace hL := bstep hL hsc.1; clear hsc hSX hXl) | (go_at_call 18; (with_reducible refine (HC _ hL).mono ?_); intro e w5 hco; obtain ⟨B2, R2, C, rfl, hC, hBd, hall, hb⟩ := hco.yes HSX.out HXL.out; have HBD := Lib.hid hBd; have HCA := Lib.hid hall; replace hPs := hPs.below hb; replace hX := hX.below hb; replace hL := bstep hL hb; clear hco hb hBd hall))
        have hh : holdsN l (spnL Y k) = true := holds_of (spnL_len Y k) (spnL_valid HY.out k8) (fun a b ha hb => spnL_rel HY.out k8 ha hb) HOK.out (((le_mat HY.out l mat0 HOK.out).1 HYL.out).2)
        have HNH := fun W (h : Below w.heap.size w W) (hp : Ps W (.slice sa k sc) (spnL Y k)) => nholds_any l (spnL Y k) _ _ W (HRS.out.below h) hp
        have HRH := fun W (h : Below w.heap.size w W) (hp : Ps W (.slice sa k sc) (spnL Y k)) => rholds_any l (spnL Y k) _ _ W (HRS.out.below h) hp
        rw [hh] at HNH HRH
        clear hh HP HC HS HG
        go_upto_region 12 with (first | (go_at_call 33; (with_reducible refine (HNH _ hL hPs).mono ?_); rintro e w6 ⟨rfl, hb⟩; replace hPs := hPs.below hb; replace hX := hX.below hb; replace hC := hC.below hb; replace hL := bstep hL hb; clear hb) | (go_at_call 30; (with_reducible refine (HRH _ hL hPs).mono ?_); rintro e w7 ⟨rfl, hb⟩; replace hPs := hPs.below hb; replace hX := hX.below hb; replace hC := hC.below hb; replace hL := bstep hL hb; clear hb) | (go_at_call 34; (with_reducible refine (lmatrix_any k B c4 R X _ (by omega) hX).mono ?_); rintro e w8 ⟨rfl, hb⟩; replace hPs := hPs.below hb; replace hX := hX.below hb; replace hC := hC.below hb; replace hL := bstep hL hb; clear hb) | (go_at_call 34; (with_reducible refine (lmatrix_any k B2 k R2 C _ (by omega) hC).mono ?_); rintro e w9 ⟨rfl, hb⟩; replace hPs := hPs.below hb; replace hX := hX.below hb; replace hC := hC.below hb; replace hL := bstep hL hb; clear hb))
        clear HNH HRH
        obtain ⟨W0, rfl⟩ : ∃ x, x = w9 := ⟨w9, rfl⟩
        obtain ⟨gs, os, cs', e, hcl⟩ := hPs.get (by rw [spnL_len]; omega)
        rw [spnL_len] at e
        cases e
        have HCL := Lib.hid hcl
        have HX := Lib.hid hX
        have HCM := Lib.hid hC
        have HL := Lib.hid hL
        have hwN : IntKind.i64.wrap (2 * (k : Int)) = 2 * (k : Int) := IntWalk.i64_in _ (by omega)
        have hwM : IntKind.i64.wrap (2 * (k : Int) - 1) = 2 * (k : Int) - 1 := IntWalk.i64_in _ (by omega)
        clear hcl hPs hX hC hL
        go_wp2
        go_loopw [11, 89] (fun rv iv wr => ∃ i : Nat, i ≤ k ∧ iv = .int .i64 (i : Int) ∧ Rf W0 wr rv (sgl X k i 0)) (fun _ iv _ => k - (RowKit.intOf iv).toNat)
        case atStart => exact ⟨0, Nat.zero_le _, rfl, Rf.nil W0⟩
        case round =>
          obtain ⟨i, hi, rfl, hR⟩ := hrel
          by_cases hik : i < k
          · have i0 : (0 : Int) ≤ (i : Int) := by omega
            have i1 : (i : Int) < (k : Int) := by omega
            obtain ⟨hPi, f0, f1⟩ := spn_at HY.out hik
            obtain ⟨p0, p1⟩ := HCL.out i _ hPi
            have p0 := Go.Proofs.Ytoadihclmnjjnaa.Sl.cell_kept p0 hR.2
            have p1 := Go.Proofs.Ytoadihclmnjjnaa.Sl.cell_kept p1 hR.2
            generalize hPe : (spnL Y k).getD i (0, 0) = P at *
            obtain ⟨pf, pt⟩ := P
            dsimp only at f0 f1 p0 p1
            have g0 : decide (pf < 0) = false := by simp; omega
            have g1 : decide (2 * (k : Int) - 1 < pt) = false := by simp; omega
            have HPI := Lib.hid hPi
            have HPE := Lib.hid hPe
            clear hPi hPe f0 f1
            go_upto_region 18 with fail
            clear g0 g1 p0 p1
            go_wp2
            go_loopw [11, 110] (fun rv jv wr => ∃ j : Nat, j ≤ k ∧ jv = .int .i64 (j : Int) ∧ Rf W0 wr rv (sgl X k i j)) (fun _ jv _ => k - (RowKit.intOf jv).toNat)
            case atStart => exact ⟨0, Nat.zero_le _, rfl, hR⟩
            case round =>
              clear hR
              obtain ⟨j, hj, rfl, hR⟩ := hrel
              by_cases hjk : j < k
              · have j0 : (0 : Int) ≤ (j : Int) := by omega
                have j1 : (j : Int) < (k : Int) := by omega
                obtain ⟨r, hr, hre⟩ := HSX.out.1 i j hik hjk
                have hxlt := sc_lt HSX.out hik hjk
                have HSN := fun W => singles_any (X i j) hxlt W
                rw [show singF (X i j) = [⟨r, hr⟩] by rw [hre]; exact singF_one ⟨r, hr⟩] at HSN
                obtain ⟨ci, hci, d1⟩ := (HX.out.below hR.2).cap hik
                have d2 := (HX.out.below hR.2).cell hik hjk
                obtain ⟨cj, hcj, e1⟩ := (HCM.out.below hR.2).cap hik
                have e2 := (HCM.out.below hR.2).cell hik hjk
                obtain ⟨hPj, _, _⟩ := spn_at HY.out hjk
                obtain ⟨a0, a1⟩ := HCL.out i _ HPI.out
                obtain ⟨b0, b1⟩ := HCL.out j _ hPj
                have a0 := Go.Proofs.Ytoadihclmnjjnaa.Sl.cell_kept a0 hR.2
                have a1 := Go.Proofs.Ytoadihclmnjjnaa.Sl.cell_kept a1 hR.2
                have b0 := Go.Proofs.Ytoadihclmnjjnaa.Sl.cell_kept b0 hR.2
                have b1 := Go.Proofs.Ytoadihclmnjjnaa.Sl.cell_kept b1 hR.2
                have hv := spnL_valid HY.out k8
                have hlt : ofN (spnL Y k) i j < 13 := ofN_lt hv (by rw [spnL_len]; exact hik) (by rw [spnL_len]; exact hjk)
                have hof : ofZ ((spnL Y k).getD i (0, 0)).1 ((spnL Y k).getD i (0, 0)).2 ((spnL Y k).getD j (0, 0)).1 ((spnL Y k).getD j (0, 0)).2 = ((ofN (spnL Y k) i j : Nat) : Int) := by
                  have b := ofZ_bd _ _ _ _ (hv i (by rw [spnL_len]; exact hik)) (hv j (by rw [spnL_len]; exact hjk))
                  unfold ofN
                  omega
                have hYr := spnL_rel HY.out k8 hik hjk
                have hCy := HCA.out Y HY.out HYL.out i j hik hjk
                rw [hYr] at hCy
                rw [HPE.out] at hof
                generalize ofN (spnL Y k) i j = t at *
                generalize (spnL Y k).getD j (0, 0) = Q at *
                obtain ⟨qf, qt⟩ := Q
                dsimp only at a0 a1 b0 b1 hof
                have HOF := fun W => Iv.of_any pf pt qf qt W
                rw [hof] at HOF
                have hp1 := wrap_pw t (by omega)
                have hbN : bits .andNot .i64 ((X i j : Nat) : Int) ((C i j : Nat) : Int) = 0 := bits_andN (HCA.out X HSX.out HXL.out i j hik hjk)
                have hne : 2 ^ t &&& C i j ≠ 0 := fun h => by
                  have h2 : (2 ^ t &&& C i j).testBit t = true := by rw [Nat.testBit_and, Nat.testBit_two_pow_self, hCy t Nat.testBit_two_pow_self]; rfl
                  rw [h, Nat.zero_testBit] at h2
                  cases h2
                have hbA : bits .and .i64 ((pw t : Nat) : Int) ((C i j : Nat) : Int) = ((2 ^ t &&& C i j : Nat) : Int) := Bt.bits_and _ _ (by have := pow_lt t (by omega); unfold pw; omega) (by have := HBD.out i j hik hjk; omega)
                obtain ⟨u, hu⟩ : ∃ u : Int, u = ((2 ^ t &&& C i j : Nat) : Int) := ⟨_, rfl⟩
                have gu : (u == 0) = false := by rw [hu]; simp; omega
                rw [← hu] at hbA
                have t0 : (0 : Int) ≤ (t : Int) := by omega
                have t1 : (t : Int) < 13 := by omega
                have HPL := Lib.hid (show pairL X i j = ⟨(i : Int), (j : Int), ((X i j : Nat) : Int)⟩ from rfl)
                have hlen : (sgl X k i j).length ≤ 1000000 := by
                  rw [sgl_len]
                  have h1 : i * k ≤ 8 * 8 := Nat.mul_le_mul (by omega) k8
                  omega
                generalize X i j = x at *
                generalize C i j = y at *
                have HR := Lib.hid hR
                clear hPj hv hlt hof hYr hCy hne hu hre hxlt hR
                go_upto_region 21 with fail
                refine wp_region_held_drew (S := fun _ => True) (by kernel_rfl) trivial (fun hHeld => ?_)
                (refine wpAnyH_take (i := 0) (v := ?tkv0_1) rfl (by kernel_rfl) (by kernel_rfl) (by kernel_rfl) (fun _ _ _ h => h) (Or.inl ⟨by rfl, ?tky0_1⟩) (by assumption) ?tkr0_1; case tky0_1 => (intro V hV; (try dsimp only at hV); go_simp; (try with_reducible rfl)); try simp only [Act.put, List.setIfInBounds_toArray, List.set_cons_zero, List.set_cons_succ])
                (refine wpAnyH_take (i := 1) (v := ?tkv1_2) rfl (by kernel_rfl) (by kernel_rfl) (by kernel_rfl) (fun _ _ _ h => h) (Or.inl ⟨by rfl, ?tky1_2⟩) (by assumption) ?tkr1_2; case tky1_2 => (intro V hV; (try dsimp only at hV); go_simp; (try with_reducible rfl)); try simp only [Act.put, List.setIfInBounds_toArray, List.set_cons_zero, List.set_cons_succ])
                (refine wpAnyH_take (i := 4) (v := ?tkv4_3) rfl (by kernel_rfl) (by kernel_rfl) (by kernel_rfl) (fun _ _ _ h => h) (Or.inl ⟨by rfl, ?tky4_3⟩) (by assumption) ?tkr4_3; case tky4_3 => (intro V hV; (try dsimp only at hV); go_simp; (try with_reducible rfl)); try simp only [Act.put, List.setIfInBounds_toArray, List.set_cons_zero, List.set_cons_succ])
                (refine wpAnyH_ready (rs := [2]) (by kernel_rfl) (by simp) ?_; refine AllReadyH.cons rfl (fun K hK => ?_) AllReadyH.nil; (try go_simp); refine hK.out _ _ (by (exact trivial)) (fun hHeld => ?_); clear hK K; try simp only [Act.put, List.setIfInBounds_toArray, List.set_cons_zero, List.set_cons_succ])
                (refine wpAnyH_ready (rs := [3]) (by kernel_rfl) (by simp) ?_; refine AllReadyH.cons rfl (fun K hK => ?_) AllReadyH.nil; (try go_simp); refine hK.out _ _ (by (exact trivial)) (fun hHeld => ?_); clear hK K; try simp only [Act.put, List.setIfInBounds_toArray, List.set_cons_zero, List.set_cons_succ])
                (refine wpAnyH_ready (rs := [5]) (by kernel_rfl) (by simp) ?_; refine AllReadyH.cons rfl (fun K hK => ?_) AllReadyH.nil; (try go_simp); refine hK.out _ _ (by (exact trivial)) (fun hHeld => ?_); clear hK K; try simp only [Act.put, List.setIfInBounds_toArray, List.set_cons_zero, List.set_cons_succ])
                (refine wpAnyH_ready (rs := [6]) (by kernel_rfl) (by simp) ?_; refine AllReadyH.cons rfl (fun K hK => ?_) AllReadyH.nil; (try go_simp); refine hK.out _ _ (by (exact trivial)) (fun hHeld => ?_); clear hK K; try simp only [Act.put, List.setIfInBounds_toArray, List.set_cons_zero, List.set_cons_succ])
                (refine wpAnyH_ready (rs := [7]) (by kernel_rfl) (by simp) ?_; refine AllReadyH.cons rfl (fun K hK => ?_) AllReadyH.nil; (try go_simp); (go_at_call 37; (with_reducible refine (HSN _).mono ?_); rintro e w5 ⟨v5, rfl, hsl, hb5⟩; obtain ⟨g5, o5, c5, rfl, _⟩ := hsl.open (by simp); replace hb5 := below_undrew hb5; clear hsl); refine hK.out _ _ (by (exact trivial)) (fun hHeld => ?_); clear hK K; try simp only [Act.put, List.setIfInBounds_toArray, List.set_cons_zero, List.set_cons_succ])
                (refine wpAnyH_ready (rs := [8]) (by kernel_rfl) (by simp) ?_; refine AllReadyH.cons rfl (fun K hK => ?_) AllReadyH.nil; (try go_simp); refine hK.out _ _ (by (exact trivial)) (fun hHeld => ?_); clear hK K; try simp only [Act.put, List.setIfInBounds_toArray, List.set_cons_zero, List.set_cons_succ])
                (refine wpAnyH_ready (rs := [9]) (by kernel_rfl) (by simp) ?_; refine AllReadyH.cons rfl (fun K hK => ?_) AllReadyH.nil; (try go_simp); refine hK.out _ _ (by (exact trivial)) (fun hHeld => ?_); clear hK K; try simp only [Act.put, List.setIfInBounds_toArray, List.set_cons_zero, List.set_cons_succ])
                (refine wpAnyH_ready (rs := [10]) (by kernel_rfl) (by simp) ?_; refine AllReadyH.cons rfl (fun K hK => ?_) AllReadyH.nil; (try go_simp); refine hK.out _ _ (by (exact trivial)) (fun hHeld => ?_); clear hK K; try simp only [Act.put, List.setIfInBounds_toArray, List.set_cons_zero, List.set_cons_succ])
                refine wpAnyH_any _ _ _ _ ?_
                refine rest_quiet 11 _ (by kernel_rfl) ?_
                simp only [List.drop_succ_cons, List.drop_zero]
                have z0 := cell_regrown (Go.Proofs.Ytoadihclmnjjnaa.Sl.cell_kept d1 hb5)
                have z1 := cell_regrown (Go.Proofs.Ytoadihclmnjjnaa.Sl.cell_kept d2 hb5)
                have z2 := cell_regrown (Go.Proofs.Ytoadihclmnjjnaa.Sl.cell_kept e1 hb5)
                have z3 := cell_regrown (Go.Proofs.Ytoadihclmnjjnaa.Sl.cell_kept e2 hb5)
                have z4 := cell_regrown (Go.Proofs.Ytoadihclmnjjnaa.Sl.cell_kept a0 hb5)
                have z5 := cell_regrown (Go.Proofs.Ytoadihclmnjjnaa.Sl.cell_kept a1 hb5)
                have z6 := cell_regrown (Go.Proofs.Ytoadihclmnjjnaa.Sl.cell_kept b0 hb5)
                have z7 := cell_regrown (Go.Proofs.Ytoadihclmnjjnaa.Sl.cell_kept b1 hb5)
                have HD1 := Lib.hid (Go.Proofs.Ytoadihclmnjjnaa.Sl.cell_kept d1 hb5)
                have HD2 := Lib.hid (Go.Proofs.Ytoadihclmnjjnaa.Sl.cell_kept d2 hb5)
                have HB5 := Lib.hid hb5
                clear d1 d2 e1 e2 a0 a1 b0 b1 hb5
                repeat (go_big_quiet_step (first | (go_at_call 31; with_reducible exact Calls.regrown_of (HOF _))))
                refine wpQuiet_nil ?_
                intro w9 hb9
                clear z0 z1 z2 z3 z4 z5 z6 z7
                have d1 := Go.Proofs.Ytoadihclmnjjnaa.Sl.cell_kept HD1.out hb9
                have d2 := Go.Proofs.Ytoadihclmnjjnaa.Sl.cell_kept HD2.out hb9
                have hR9 := (HR.out.below (HB5.out)).below hb9
                clear hb9
                go_wp2_with (at_builtin; refine wp_rel hR9 rfl (.tmp 162) (.tmp 173) rfl rfl 30 rfl (by simp) ⟨(i : Int), (j : Int), ((x : Nat) : Int)⟩ hlen ?_; intro v6 w6 hR6)
                have HR6 := Lib.hid (show Rf W0 w6 v6 (sgl X k i (j + 1)) by rw [← sgl_next, HPL.out]; exact hR6)
                clear hR6 hR9
                go_roundw
                case rel => exact ⟨j + 1, by omega, by go_num, HR6.out⟩
                case measure => simp [RowKit.intOf]; omega
              · obtain rfl : k = j := by omega
                have HR6 := Lib.hid (show Rf W0 wr _ (sgl X k (i + 1) 0) by rw [← sgl_row]; exact hR)
                clear hR
                go_wp2
                go_roundw
                case rel => exact ⟨i + 1, by omega, by go_num, HR6.out⟩
                case measure => simp [RowKit.intOf]; omega
          · obtain rfl : k = i := by omega
            have hlen : (sgl X k k 0).length ≤ 1000000 := by
              rw [sgl_len]
              have h1 : k * k ≤ 8 * 8 := Nat.mul_le_mul k8 k8
              omega
            have hRs := hR.rs hlen
            have HRs := Lib.hid hRs
            have HP2 := spans_ok k (sgl X k k 0) _ _ hRs (sgl_vld HSX.out k0 k8)
            have HLW := Lib.hid (bstep HL.out hR.2)
            have HST := Lib.hid (sgl_sat HSX.out)
            have HAG := Lib.hid (fun Y2 (h : Sc k Y2) (h2 : LeM k Y2 (matN (sgl X k k 0))) => again HSX.out h k8 HOK.out HXL.out h2)
            have HNA := fun (Y2 : Mt) (sv : Value) W (h : Below w.heap.size w W) (hp : Ps W sv (spnL Y2 k)) => rholds_any l (spnL Y2 k) _ sv W (HRS.out.below h) hp
            have HNB := fun (Y2 : Mt) (sv rv : Value) W (h : Rs W rv (sgl X k k 0)) (hp : Ps W sv (spnL Y2 k)) => rholds_any (sgl X k k 0) (spnL Y2 k) rv sv W h hp
            clear hR hRs
            go_upto_region 27 with (go_at_call 36; (with_reducible refine HP2.mono ?_); intro e w3 hsp; obtain ⟨hb, hsp⟩ := hsp; obtain ⟨Y2, sv2, hY2, hYl2, rfl, hPs2⟩ := hsp.resolve_right (fun h => h.1 HST.out); obtain ⟨ha1, ha2⟩ := HAG.out Y2 hY2 hYl2; have hNA := HNA Y2 sv2; have hNB := HNB Y2 sv2; rw [ha1] at hNA; rw [ha2] at hNB; have hL3 := bstep HLW.out hb; have hR3 := HRs.out.below hb; clear hb hsp hY2 hYl2 ha1 ha2)
            clear HNA HNB HP2
            go_wp2_with (first | (go_at_call 30; (with_reducible refine (hNA _ hL3 hPs2).mono ?_); rintro e w7 ⟨rfl, hb⟩; replace hPs2 := hPs2.below hb; replace hR3 := hR3.below hb; replace hL3 := bstep hL3 hb; clear hb) | (go_at_call 30; (with_reducible refine (hNB _ _ hR3 hPs2).mono ?_); rintro e w8 ⟨rfl, hb⟩; replace hL3 := bstep hL3 hb; clear hb))
            go_ret
            exact ⟨rfl, hL3⟩
      · have HSAT := Lib.hid hsat
        have HP2 := fun W (h : Below w.heap.size w W) => (HP W h).mono (R' := fun e w' => e = .returned (.tuple #[.slice none 0 0, .int .i64 17]) ∧ Below W.heap.size W w') (by
          rintro e w' ⟨hb, ⟨X, v, h1, h2, _, _⟩ | ⟨_, rfl⟩⟩
          · exact (hsat ⟨X, h1, h2⟩).elim
          · exact ⟨rfl, hb⟩)
        have HS2 := fun W (h : Below w.heap.size w W) => (HS W h).mono (R' := fun e w' => e = .returned (.tuple #[.slice none 0 0, .int .i64 17]) ∧ Below W.heap.size W w') (by
          rintro e w' ⟨v, ok, rfl, hsc⟩
          obtain rfl : ok = false := Bool.eq_false_iff.2 (fun h => hsat (hsc.sat.1 h))
          obtain ⟨rfl, _⟩ := hsc.2.2 rfl
          exact ⟨rfl, hsc.1⟩)
        clear hs hgl hg hv hok hsat HS HP
        go_enter Try.func9, Try.ntmps9
        go_wp2_with (first | (go_at_call 12; (with_reducible refine (awake_any _).mono ?_); rintro e w1 ⟨rfl, hb⟩; replace hL := bstep hL hb; clear hb) | (go_at_call 13; (with_reducible refine (HG _).mono ?_); rintro e w2 ⟨rfl, rfl⟩) | (go_at_call 18; (with_reducible refine (HC _ hL).mono ?_); intro e w3 hco; obtain ⟨ca, cm, cc, cx, rfl, hb⟩ := hco.form; clear hco; replace hL := bstep hL hb; clear hb) | (go_at_call 35; (with_reducible refine (HS2 _ hL).mono ?_); rintro e w4 ⟨rfl, hb⟩; replace hL := bstep hL hb; clear hb) | (go_at_call 36; (with_reducible refine (HP2 _ hL).mono ?_); rintro e w5 ⟨rfl, hb⟩; replace hL := bstep hL hb; clear hb))
        go_ret
        exact ⟨rfl, hL⟩
  · rw [hgl] at HG
    clear hs hgl hg
    go_enter Try.func9, Try.ntmps9
    go_wp2_with (first | (go_at_call 12; (with_reducible refine (awake_any _).mono ?_); rintro e w1 ⟨rfl, hb⟩; replace hL := bstep hL hb; clear hb) | (go_at_call 13; (with_reducible refine (HG _).mono ?_); rintro e w2 ⟨rfl, rfl⟩))
    go_ret
    exact ⟨rfl, hL⟩
end Go.Proofs.Ytoadihclmnjjnaa.Nw
