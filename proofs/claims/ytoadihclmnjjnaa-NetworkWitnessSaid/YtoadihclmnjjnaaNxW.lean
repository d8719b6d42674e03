/-
  Networks: Spans (layer 46).
-/
import Derived.Test.YtoadihclmnjjnaaNxV
import Derived.Test.YtoadihclmnjjnaaNwX
import Derived.Test.YtoadihclmnjjnaaLast
set_option linter.unusedSimpArgs false
set_option linter.unusedVariables false
set_option maxRecDepth 100000
namespace Go.Proofs.Ytoadihclmnjjnaa.Nw
open Go Go.RowKit Go.ChangeShapes Go.WideShapes Go.Proofs.Ytoadihclmnjjnaa.Sl Go.Proofs.Ytoadihclmnjjnaa.Al Go.Lib
open Go.Proofs.Ytoadihclmnjjnaa.Iv (validB ofZ sgn)

theorem cellsP_set2 : ∀ (A : List (Int × Int)) (k : Nat) (p : Int × Int), k < A.length → cellsP (A.set k p) = ((cellsP A).set (k * 2) (.int .i64 p.1)).set (k * 2 + 1) (.int .i64 p.2)
  | [], k, p, h => by simp at h
  | q :: A, 0, p, h => rfl
  | q :: A, k + 1, p, h => by
    have e : ∀ (x : Int × Int) (L : List (Int × Int)), cellsP (x :: L) = .int .i64 x.1 :: .int .i64 x.2 :: cellsP L := fun _ _ => rfl
    rw [List.set_cons_succ, e, e, cellsP_set2 A k p (by simpa using h), show (k + 1) * 2 = k * 2 + 1 + 1 by omega, show k * 2 + 1 + 1 + 1 = (k * 2 + 1) + 1 + 1 by omega]
    rfl
theorem heap_set2 (w : World) (g i : Nat) (l : List Value) (t : TypeId) (v : Value) (hg : w.heap[g]? = some (.cells l.toArray t (0, 0))) : (w.setCell ⟨g, i, none⟩ v).heap[g]? = some (.cells (l.set i v).toArray t (0, 0)) := by
  rw [heap_setCell_same w g i _ t v hg]
  simp
theorem heap_span2 {w : World} {T k : Nat} {A : List (Int × Int)} {t : TypeId} (h : w.heap[T]? = some (.cells (cellsP A).toArray t (0, 0))) (hk : k < A.length) (x y : Int) :
    ((w.setCell ⟨T, k * 2, none⟩ (.int .i64 x)).setCell ⟨T, k * 2 + 1, none⟩ (.int .i64 y)).heap[T]? = some (.cells (cellsP (A.set k (x, y))).toArray t (0, 0)) := by
  rw [cellsP_set2 A k (x, y) hk]
  exact heap_set2 _ _ _ _ _ _ (heap_set2 _ _ _ _ _ _ h)
theorem ps_block2 {w : World} {T cap : Nat} {A : List (Int × Int)} {t : TypeId} (h : w.heap[T]? = some (.cells (cellsP A).toArray t (0, 0))) (hl : A.length ≤ 9223372036854775807) : Ps w (.slice (some ⟨T, 0, none⟩) A.length cap) A := by
  refine ⟨Sl.mk (cellsP_len A) (fun j u hu => ?_), hl⟩
  rw [Nat.zero_add, cell_of_row _ _ j _ _ _ h]
  simpa using hu
theorem mk_spans8 (n : Nat) (h0 : 0 < n) (hn : n ≤ 8) (w : World) : (Instr.makeSlice 46 (.int .i64 (n : Int)) (.int .i64 (n : Int))).run Try.prog w = .ok (.slice (some ⟨w.heap.size, 0, none⟩) n n) (w.alloc (.cells (cellsP (List.replicate n (0, 0))).toArray 48)) := by
  obtain ⟨i0, hi, hz0, hz1, hz2⟩ := info_parts info_span
  have h := run_make (P := Try.prog) w 46 48 i0 (.agg #[.int .i64 0, .int .i64 0]) Try.underlying46 hi hz0 .i64 .i64 n n (by omega) (Int.le_refl _) (by rw [hz2]; omega) (by omega)
  rw [Int.toNat_natCast, hz1] at h
  rw [h]
  congr 2
  rcases (show n = 1 ∨ n = 2 ∨ n = 3 ∨ n = 4 ∨ n = 5 ∨ n = 6 ∨ n = 7 ∨ n = 8 by omega) with rfl | rfl | rfl | rfl | rfl | rfl | rfl | rfl <;> kernel_rfl
/-- No end ahead of o equals the end p. -/
def frs (X : Mt) (o p : Nat) : Bool := (List.range o).all fun k => !(sgE X k p == 0)
/-- How many ends (equal ones count once) ahead of p lie below q. -/
def cntP (X : Mt) (p q : Nat) : Nat := (List.range p).countP fun k => frs X k k && decide (0 < sgE X k q)
def rank (X : Mt) (n q : Nat) : Nat := cntP X (2 * n) q
def spnL (X : Mt) (n : Nat) : List (Int × Int) := (List.range n).map fun i => (((rank X n (2 * i) : Nat) : Int), ((rank X n (2 * i + 1) : Nat) : Int))
theorem frs_succ (X : Mt) (o p : Nat) : frs X (o + 1) p = (frs X o p && !(sgE X o p == 0)) := by unfold frs; rw [List.range_succ, List.all_append]; simp
theorem cntP_succ (X : Mt) (p q : Nat) : cntP X (p + 1) q = cntP X p q + if (frs X p p && decide (0 < sgE X p q)) = true then 1 else 0 := by unfold cntP; rw [List.range_succ, List.countP_append]; simp [List.countP_cons]
theorem cntP_le (X : Mt) (p q : Nat) : cntP X p q ≤ p := by
  have := List.countP_le_length (p := fun k => frs X k k && decide (0 < sgE X k q)) (l := List.range p)
  rw [List.length_range] at this
  exact this
theorem spnL_len (X : Mt) (n : Nat) : (spnL X n).length = n := by simp [spnL]
theorem spnL_ext {X : Mt} {n : Nat} {A : List (Int × Int)} (hA : A.length = n) (h : ∀ k, k < n → A[k]? = some (((rank X n (2 * k) : Nat) : Int), ((rank X n (2 * k + 1) : Nat) : Int))) : A = spnL X n := by
  apply List.ext_getElem?
  intro k
  by_cases hk : k < n
  · rw [h k hk]
    unfold spnL
    rw [List.getElem?_map, List.getElem?_range hk]; rfl
  · rw [List.getElem?_eq_none (by omega), List.getElem?_eq_none (by rw [spnL_len]; omega)]
theorem ScE.form {n : Nat} {l : List Rl} {w w' : World} {v : Value} {ok : Bool} (h : ScE n l w v ok w') : ∃ a m c, v = .slice a m c := by
  cases ok
  · exact ⟨none, 0, 0, (h.2.2 rfl).1⟩
  · obtain ⟨B, R, X, c, e, _⟩ := h.2.1 rfl
    exact ⟨_, _, _, e⟩
/-- What Spans leaves behind, for a valid network. -/
def SpE (n : Nat) (l : List Rl) (w : World) (e : Ending) (w' : World) : Prop := Below w.heap.size w w' ∧ ((∃ X v, Sc n X ∧ LeM n X (matN l) ∧ e = .returned (.tuple #[v, .int .i64 0]) ∧ Ps w' v (spnL X n)) ∨ (¬ Sat n (matN l) ∧ e = .returned (.tuple #[.slice none 0 0, .int .i64 17])))
theorem spans_bad (n : Int) (l : List Rl) (s : Value) (w : World) (hs : Rs w s l) (hv : vldN n l = false) : Calls Try.prog 36 #[.int .i64 n, s] w fun e w' => e = .returned (.tuple #[.slice none 0 0, .int .i64 1]) ∧ Below w.heap.size w w' := by
  have HSB := scen_bad n l s w hs hv
  clear hs hv
  go_enter Try.func36, Try.ntmps36
  go_wp2_with (go_at_call 35; (with_reducible refine HSB.mono ?_); rintro e w1 ⟨rfl, hb1⟩)
  go_ret2
  exact ⟨rfl, hb1.alloc hb1.size _⟩
set_option maxHeartbeats 8000000 in
theorem spans_ok (n : Nat) (l : List Rl) (s : Value) (w : World) (hs : Rs w s l) (hv : vldN (n : Int) l = true) : Calls Try.prog 36 #[.int .i64 (n : Int), s] w (SpE n l w) := by
  obtain ⟨k, hk, n0, n8, _, _⟩ := vld_ok hv
  obtain rfl : n = k := by omega
  have HSC := scen_ok n l s w hs hv
  clear hs hv hk
  go_enter Try.func36, Try.ntmps36
  go_upto_region 2 with (go_at_call 35; (with_reducible refine HSC.mono ?_); rintro e w1 ⟨v, ok, rfl, hsc⟩; obtain ⟨va, vm, vc, rfl⟩ := hsc.form; obtain ⟨hb1, hyes, hno⟩ := hsc; obtain ⟨x, hx⟩ : ∃ x : Int, x = if ok = true then 0 else 17 := ⟨_, rfl⟩; rw [← hx]; have HYES := Lib.hid hyes; have HNO := Lib.hid hno; have HX0 := Lib.hid hx; clear hyes hno hx)
  cases ok
  · obtain ⟨hve, hns⟩ := HNO.out rfl
    cases hve
    obtain rfl : x = 17 := HX0.out
    have HNS := Lib.hid hns
    clear HNO HYES hns HX0
    go_wp2
    go_ret2
    exact ⟨hb1.alloc hb1.size _, Or.inr ⟨HNS.out, rfl⟩⟩
  · obtain ⟨B, R, X, c, hve, hX, hSc, hLe⟩ := HYES.out rfl
    simp only [Value.slice.injEq] at hve
    obtain rfl : some (⟨B, 0, none⟩ : Addr) = va := hve.1.symm
    obtain rfl : n = vm := hve.2.1.symm
    obtain rfl : c = vc := hve.2.2.symm
    clear hve
    obtain rfl : x = 0 := HX0.out
    obtain ⟨W2, hW2⟩ : ∃ W2, W2 = w1.alloc (.cells #[.slice (some ⟨B, 0, none⟩) n c] 32) := ⟨_, rfl⟩
    have hb2 : Below w.heap.size w W2 := by rw [hW2]; exact hb1.alloc hb1.size _
    have hX2 : Mx W2 B R n X := by rw [hW2]; exact hX.below ((Below.refl _ _).alloc (Nat.le_refl _) _)
    have cM : W2.cell? ⟨w1.heap.size, 0, none⟩ = some (.slice (some ⟨B, 0, none⟩) n c) := by rw [hW2, cell_of_row _ _ 0 _ _ _ (heap_alloc_new w1 _)]; rfl
    rw [← hW2]
    generalize w1.heap.size = BM at *
    have HX := Lib.hid hX2
    have HSC2 := Lib.hid hSc
    have HLE := Lib.hid hLe
    have HB2 := Lib.hid hb2
    have HCM := Lib.hid cM
    clear HYES HNO HX0 hX hSc hLe hW2 hX2 hb1 hb2 cM HSC
    obtain ⟨N, hN⟩ : ∃ N, N = 2 * n := ⟨_, rfl⟩
    have hwN : IntKind.i64.wrap (2 * (n : Int)) = (N : Int) := by rw [IntKind.wrap_i64]; omega
    have HMI := fun W => mk_ints N (by omega) W
    have HMS := fun W => mk_spans8 n n0 n8 W
    have HN := Lib.hid hN
    have hN16 : (N : Int) ≤ 16 := by omega
    clear hN
    go_wp2
    have hR0 : Rw (W2.alloc (.cells (Array.replicate N (.int .i64 0)) 3)) W2.heap.size N (fun k => if k < 0 then rank X n k else 0) := ⟨_, _, heap_alloc_new W2 _, fun j hj => by simp [hj]⟩
    have hL0 : Below W2.heap.size W2 (W2.alloc (.cells (Array.replicate N (.int .i64 0)) 3)) := (Below.refl _ _).alloc (Nat.le_refl _) _
    generalize W2.alloc (.cells (Array.replicate N (.int .i64 0)) 3) = W3 at *
    generalize hT : W2.heap.size = T at *
    have HSAME := Lib.hid (fun (W : World) (h : Below T W2 W) (p q : Nat) (hp : p < N) (hq : q < N) => same_any BM n B c p q R X W n8 (HX.out.below (by rw [hT]; exact h)) HSC2.out (Go.Proofs.Ytoadihclmnjjnaa.Sl.cell_kept HCM.out (by rw [hT]; exact h)) (by rw [← HN.out]; exact hp) (by rw [← HN.out]; exact hq))
    have HBEL := Lib.hid (fun (W : World) (h : Below T W2 W) (p q : Nat) (hp : p < N) (hq : q < N) => below_any BM n B c p q R X W n8 (HX.out.below (by rw [hT]; exact h)) HSC2.out (Go.Proofs.Ytoadihclmnjjnaa.Sl.cell_kept HCM.out (by rw [hT]; exact h)) (by rw [← HN.out]; exact hp) (by rw [← HN.out]; exact hq))
    have HR0 := Lib.hid hR0
    clear hR0
    go_loopw [33] (fun qv wr => ∃ q : Nat, q ≤ N ∧ qv = .int .i64 (q : Int) ∧ Hid (Rw wr T N (fun k => if k < q then rank X n k else 0)) ∧ Below T W2 wr) (fun qv _ => N - (RowKit.intOf qv).toNat)
    case atStart => exact ⟨0, Nat.zero_le _, rfl, HR0, hL0⟩
    case round =>
      clear hL0 HR0
      obtain ⟨q, hq, rfl, hR, hL⟩ := hrel
      by_cases hqN : q < N
      · have q0 : (0 : Int) ≤ (q : Int) := by omega
        have q1 : (q : Int) < (N : Int) := by omega
        go_wp2
        go_loopw [38] (fun pv wr => ∃ p : Nat, p ≤ N ∧ pv = .int .i64 (p : Int) ∧ Hid (Rw wr T N (fun k => if k < q then rank X n k else if k = q then cntP X p q else 0)) ∧ Below T W2 wr) (fun pv _ => N - (RowKit.intOf pv).toNat)
        case atStart => exact ⟨0, Nat.zero_le _, rfl, Lib.hid (hR.out.congr rfl (fun j hj => by
          by_cases e : j < q
          · rw [if_pos e, if_pos e]
          · rw [if_neg e, if_neg e]
            split <;> rfl)), hL⟩
        case round =>
          clear hL hR
          obtain ⟨p, hp, rfl, hR, hL⟩ := hrel
          by_cases hpN : p < N
          · have p0 : (0 : Int) ≤ (p : Int) := by omega
            have p1 : (p : Int) < (N : Int) := by omega
            go_wp2
            go_loopw [13, 42] (fun fv ov wr => ∃ o : Nat, o ≤ p ∧ fv = .bool (frs X o p) ∧ ov = .int .i64 (o : Int) ∧ Hid (Rw wr T N (fun k => if k < q then rank X n k else if k = q then cntP X p q else 0)) ∧ Below T W2 wr) (fun _ ov _ => p - (RowKit.intOf ov).toNat)
            case atStart => exact ⟨0, Nat.zero_le _, rfl, rfl, hR, hL⟩
            case round =>
              clear hL hR
              obtain ⟨o, ho, rfl, rfl, hR, hL⟩ := hrel
              by_cases hop : o < p
              · have hst := Lib.hid (frs_succ X o p)
                have HS := HSAME.out wr hL o p (by omega) hpN
                cases hf : frs X o p
                · have hf2 := Lib.hid (show frs X (o + 1) p = false by rw [hst.out, hf]; rfl)
                  clear hf HS
                  go_wp2
                  go_roundw
                  case rel => exact ⟨o + 1, by omega, by rw [hf2.out], by go_num, hR, hL⟩
                  case measure => simp [RowKit.intOf]; omega
                · have hf2 := Lib.hid (show frs X (o + 1) p = !(sgE X o p == 0) by rw [hst.out, hf]; rfl)
                  clear hf
                  generalize (sgE X o p == 0) = z at *
                  go_wp2_with (go_at_call 77; (with_reducible refine HS.mono ?_); rintro e w6 ⟨rfl, hb6⟩)
                  go_roundw
                  case rel => exact ⟨o + 1, by omega, by rw [hf2.out], by go_num, Lib.hid (hR.out.congr (hb6.block T hR.out.lt) (fun _ _ => rfl)), hL.trans (hb6.mono (by have := hL.size; omega))⟩
                  case measure => simp [RowKit.intOf]; omega
              · obtain rfl : p = o := by omega
                have hcs := cntP_succ X p q
                have hcl := cntP_le X p q
                cases hf : frs X p p
                · rw [hf] at hcs
                  have HCS := Lib.hid (show cntP X (p + 1) q = cntP X p q by rw [hcs]; simp)
                  clear hf hcs
                  go_wp2
                  go_roundw
                  case rel => exact ⟨p + 1, by omega, by go_num, Lib.hid (by rw [HCS.out]; exact hR.out), hL⟩
                  case measure => simp [RowKit.intOf]; omega
                · rw [hf] at hcs
                  have HB := HBEL.out wr hL p q hpN hqN
                  cases hz : decide (0 < sgE X p q)
                  · rw [hz] at hcs HB
                    have HCS := Lib.hid (show cntP X (p + 1) q = cntP X p q by rw [hcs]; simp)
                    clear hf hcs hz
                    go_wp2_with (go_at_call 75; (with_reducible refine HB.mono ?_); rintro e w6 ⟨rfl, hb6⟩)
                    go_roundw
                    case rel => exact ⟨p + 1, by omega, by go_num, Lib.hid (by rw [HCS.out]; exact hR.out.congr (hb6.block T hR.out.lt) (fun _ _ => rfl)), hL.trans (hb6.mono (by have := hL.size; omega))⟩
                    case measure => simp [RowKit.intOf]; omega
                  · rw [hz] at hcs HB
                    have HCS := Lib.hid (show cntP X (p + 1) q = cntP X p q + 1 by rw [hcs]; simp)
                    clear hf hcs hz
                    generalize cntP X p q = cn at *
                    have hcw : IntKind.i64.wrap ((cn : Int) + 1) = ((cn + 1 : Nat) : Int) := by rw [IntKind.wrap_i64]; omega
                    go_upto_region 20 with (go_at_call 75; (with_reducible refine HB.mono ?_); rintro e w6 ⟨rfl, hb6⟩)
                    have hR6 := hR.out.congr (hb6.block T hR.out.lt) (f' := fun k => if k < q then rank X n k else if k = q then cn else 0) (fun _ _ => rfl)
                    have hL6 := hL.trans (hb6.mono (B' := T) (by have := hL.size; omega))
                    have d1 := hR6.cell hqN
                    rw [if_neg (by omega), if_pos rfl] at d1
                    have f1 := hR6.frozen q
                    have HR6 := Lib.hid hR6
                    clear hR6 hR hL hb6
                    go_wp2
                    go_roundw
                    case rel => exact ⟨p + 1, by omega, by go_num, Lib.hid ((HR6.out.set hqN (cn + 1)).congr rfl (fun j hj => by
                      by_cases e : j = q
                      · subst e
                        rw [if_neg (by omega), if_pos rfl, if_pos rfl, HCS.out]
                      · simp only [e, if_false])), hL6.setCell (p := ⟨T, q, none⟩) (Nat.le_refl _) _⟩
                    case measure => simp [RowKit.intOf]; omega
          · obtain rfl : N = p := by omega
            go_wp2
            go_roundw
            case rel => exact ⟨q + 1, by omega, by go_num, Lib.hid (hR.out.congr rfl (fun j hj => by
              by_cases e : j < q
              · rw [if_pos e, if_pos (by omega)]
              · by_cases e2 : j = q
                · subst e2
                  rw [if_neg e, if_pos rfl, if_pos (by omega)]
                  unfold rank
                  rw [← HN.out]
                · rw [if_neg e, if_neg e2, if_neg (by omega)])), hL⟩
            case measure => simp [RowKit.intOf]; omega
      · obtain rfl : N = q := by omega
        have hRr := hR.out.congr rfl (f' := fun k => rank X n k) (fun j hj => by rw [if_pos hj])
        have HRr := Lib.hid hRr
        clear hR hRr HSAME HBEL HMI
        go_wp2
        have hA0 : (wr.alloc (.cells (cellsP (List.replicate n (0, 0))).toArray 48)).heap[wr.heap.size]? = some (.cells (cellsP (List.replicate n (0, 0))).toArray 48 (0, 0)) := heap_alloc_new wr _
        have hL1 : Below wr.heap.size wr (wr.alloc (.cells (cellsP (List.replicate n (0, 0))).toArray 48)) := (Below.refl _ _).alloc (Nat.le_refl _) _
        generalize wr.alloc (.cells (cellsP (List.replicate n (0, 0))).toArray 48) = W4 at *
        obtain ⟨W5, rfl⟩ : ∃ x, x = wr := ⟨wr, rfl⟩
        generalize hT2 : W5.heap.size = T2 at *
        have HA0 := Lib.hid hA0
        have HL5 := Lib.hid hL
        clear hA0 hL
        go_loopw [73] (fun iv wr => ∃ i : Nat, i ≤ n ∧ iv = .int .i64 (i : Int) ∧ Below T2 W5 wr ∧ Hid (∃ A : List (Int × Int), A.length = n ∧ (∀ k, k < i → A[k]? = some (((rank X n (2 * k) : Nat) : Int), ((rank X n (2 * k + 1) : Nat) : Int))) ∧ wr.heap[T2]? = some (.cells (cellsP A).toArray 48 (0, 0)))) (fun iv _ => n - (RowKit.intOf iv).toNat)
        case atStart => exact ⟨0, Nat.zero_le _, rfl, hL1, Lib.hid ⟨_, by simp, fun k hk => by omega, HA0.out⟩⟩
        case round =>
          clear hL1
          obtain ⟨i, hi, rfl, hL1, hA⟩ := hrel
          obtain ⟨A, hAl, hAk, hAh⟩ := hA.out
          clear hA
          by_cases hin : i < n
          · have i0 : (0 : Int) ≤ (i : Int) := by omega
            have i1 : (i : Int) < (n : Int) := by omega
            obtain ⟨u, hu⟩ : ∃ u, u = 2 * i := ⟨_, rfl⟩
            obtain ⟨v, hv⟩ : ∃ v, v = 2 * i + 1 := ⟨_, rfl⟩
            have huN : u < N := by have := HN.out; omega
            have hvN : v < N := by have := HN.out; omega
            have hm0 : IntKind.i64.wrap (2 * (i : Int)) = (u : Int) := by rw [IntKind.wrap_i64]; omega
            have hm1 : IntKind.i64.wrap ((u : Int) + 1) = (v : Int) := by rw [IntKind.wrap_i64]; omega
            have u0 : (0 : Int) ≤ (u : Int) := by omega
            have u1 : (u : Int) < (N : Int) := by omega
            have v0 : (0 : Int) ≤ (v : Int) := by omega
            have v1 : (v : Int) < (N : Int) := by omega
            have lT : T < T2 := by rw [← hT2]; exact HRr.out.lt
            have hRw := HRr.out.congr (hL1.block T lT) (f' := fun k => rank X n k) (fun _ _ => rfl)
            have c0 := hRw.cell huN
            have c1 := hRw.cell hvN
            have hak : A[i]? = some (A.getD i (0, 0)) := by rw [List.getD_eq_getElem?_getD, List.getElem?_eq_getElem (by omega)]; rfl
            obtain ⟨b0, b1⟩ := cellsP_at A i _ hak
            have t0 : wr.cell? ⟨T2, i * 2, none⟩ = some (.int .i64 (A.getD i (0, 0)).1) := by rw [cell_of_row _ _ (i * 2) _ _ _ hAh]; simpa using b0
            have t1 : wr.cell? ⟨T2, i * 2 + 1, none⟩ = some (.int .i64 (A.getD i (0, 0)).2) := by rw [cell_of_row _ _ (i * 2 + 1) _ _ _ hAh]; simpa using b1
            have f0 := frozen_of_row wr T2 (i * 2) _ _ hAh
            have f1 := frozen_of_row wr T2 (i * 2 + 1) _ _ hAh
            generalize A.getD i (0, 0) = P at t0 t1
            have lT2 : T2 < wr.heap.size := (Array.getElem?_eq_some_iff.1 hAh).1
            have HNX := Lib.hid (show (A.set i (((rank X n u : Nat) : Int), ((rank X n v : Nat) : Int))).length = n ∧ ∀ k, k < i + 1 → (A.set i (((rank X n u : Nat) : Int), ((rank X n v : Nat) : Int)))[k]? = some (((rank X n (2 * k) : Nat) : Int), ((rank X n (2 * k + 1) : Nat) : Int)) from ⟨by rw [List.length_set]; exact hAl, fun k hk => by
              rw [List.getElem?_set]
              by_cases e : i = k
              · subst e
                rw [if_pos rfl, if_pos (by omega), hu, hv]
              · rw [if_neg e]
                exact hAk k (by omega)⟩)
            have HAh := Lib.hid hAh
            have HAl := Lib.hid (show i < A.length by omega)
            generalize rank X n u = x at *
            generalize rank X n v = y at *
            go_upto_region 27 with fail
            have z0 := cell_regrown c0
            have z1 := cell_regrown c1
            have HT := Lib.hid (show wr.cell? ⟨T2, i * 2, none⟩ = _ ∧ wr.cell? ⟨T2, i * 2 + 1, none⟩ = _ ∧ wr.frozen? ⟨T2, i * 2, none⟩ = false ∧ wr.frozen? ⟨T2, i * 2 + 1, none⟩ = false from ⟨t0, t1, f0, f1⟩)
            clear hAl hAk hAh hak b0 b1 hRw c0 c1 t0 t1 f0 f1 hu hv
            refine Lst.wp_region_below_lastN 15 rfl rfl (by kernel_rfl) (by kernel_rfl) (by kernel_rfl) ?_
            simp only [List.take_succ_cons, List.take_zero]
            repeat (go_big_quiet_step (fail))
            refine wpQuiet_nil ?_
            intro w9 hb9
            refine ⟨by rfl, ?_⟩
            have t0 := Go.Proofs.Ytoadihclmnjjnaa.Sl.cell_kept HT.out.1 hb9
            have t1 := Go.Proofs.Ytoadihclmnjjnaa.Sl.cell_kept HT.out.2.1 hb9
            have f0 : w9.frozen? ⟨T2, i * 2, none⟩ = false := (hb9.frozen (p := ⟨T2, i * 2, none⟩) lT2).trans HT.out.2.2.1
            have f1 : w9.frozen? ⟨T2, i * 2 + 1, none⟩ = false := (hb9.frozen (p := ⟨T2, i * 2 + 1, none⟩) lT2).trans HT.out.2.2.2
            clear z0 z1
            go_simp
            have hh9 := (hb9.block T2 lT2).trans HAh.out
            have hhW := heap_span2 hh9 HAl.out (x : Int) (y : Int)
            have hLW : Below T2 W5 ((w9.setCell ⟨T2, i * 2, none⟩ (.int .i64 (x : Int))).setCell ⟨T2, i * 2 + 1, none⟩ (.int .i64 (y : Int))) := ((hL1.trans (hb9.mono (Nat.le_of_lt lT2))).setCell (p := ⟨T2, i * 2, none⟩) (Nat.le_refl _) _).setCell (p := ⟨T2, i * 2 + 1, none⟩) (Nat.le_refl _) _
            have HHW := Lib.hid hhW
            clear t0 t1 f0 f1 hh9 hb9 hhW
            generalize ((w9.setCell ⟨T2, i * 2, none⟩ (.int .i64 (x : Int))).setCell ⟨T2, i * 2 + 1, none⟩ (.int .i64 (y : Int))) = W9 at *
            go_wp2
            go_roundw
            case rel => exact ⟨i + 1, by omega, by go_num, hLW, Lib.hid ⟨_, HNX.out.1, HNX.out.2, HHW.out⟩⟩
            case measure => simp [RowKit.intOf]; omega
          · obtain rfl : n = i := by omega
            have HF := Lib.hid (show A = spnL X n from spnL_ext hAl hAk)
            have HH := Lib.hid hAh
            have HAL := Lib.hid hAl
            clear hAl hAk hAh
            go_wp2
            go_ret2
            refine ⟨?_, Or.inl ⟨X, _, HSC2.out, HLE.out, rfl, ?_⟩⟩
            · exact bstep (bstep HB2.out (by rw [hT]; exact HL5.out)) (by rw [hT2]; exact hL1)
            · have h9 := ps_block2 (cap := n) HH.out (by rw [HAL.out]; omega)
              rw [HF.out, spnL_len] at h9
              exact h9
end Go.Proofs.Ytoadihclmnjjnaa.Nw
