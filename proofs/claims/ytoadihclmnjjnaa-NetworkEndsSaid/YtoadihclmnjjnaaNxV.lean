/-
  Networks: the closures of Spans (layer 46): how two ends are ordered.
-/
import Derived.Test.YtoadihclmnjjnaaNxU
set_option linter.unusedSimpArgs false
set_option linter.unusedVariables false
set_option maxRecDepth 100000
namespace Go.Proofs.Ytoadihclmnjjnaa.Nw
open Go Go.RowKit Go.ChangeShapes Go.WideShapes Go.Proofs.Ytoadihclmnjjnaa.Sl Go.Proofs.Ytoadihclmnjjnaa.Al Go.Lib
open Go.Proofs.Ytoadihclmnjjnaa.Iv (validB ofZ sgn)

/-- The sign of the end q less the end p: (2 i: From of the interval i; 2 i + 1: To). -/
def sgE (X : Mt) (p q : Nat) : Int := sgT (X (p / 2) (q / 2)).log2 (p % 2 * 2 + q % 2)
theorem singF_one : ∀ r : Fin 13, singF (2 ^ r.val) = [r] := by decide
theorem run_ix98 (r k : Nat) (h : k < 4) (w : World) : (Instr.index 98 (.agg (sgA r)) (.int .i64 (k : Int))).run Try.prog w = .ok (.int .i64 (sgT r k)) w := by
  have h2 : ((k : Int) < 4) := by omega
  have h3 : ((0 : Int) ≤ k) := by omega
  have hv : (sgA r)[k]? = some (.int .i64 (sgT r k)) := by
    rcases (show k = 0 ∨ k = 1 ∨ k = 2 ∨ k = 3 by omega) with rfl | rfl | rfl | rfl <;> rfl
  simp [Instr.index, asIntOf, run_underlying Try.underlying98, part, Result.andThen, h2, h3, h, hv]
set_option maxHeartbeats 8000000 in
theorem below_any (BM n B c p q : Nat) (R : Nat → Nat) (X : Mt) (w : World) (hn8 : n ≤ 8) (hX : Mx w B R n X) (hs : Sc n X) (cM : w.cell? ⟨BM, 0, none⟩ = some (.slice (some ⟨B, 0, none⟩) n c)) (hp : p < 2 * n) (hq : q < 2 * n) :
    Calls Try.prog 75 #[.int .i64 (p : Int), .int .i64 (q : Int), .pointer (some ⟨BM, 0, none⟩)] w fun e w' => e = .returned (.bool (decide (0 < sgE X p q))) ∧ Below w.heap.size w w' := by
  have hp2 : p / 2 < n := by omega
  have hq2 : q / 2 < n := by omega
  obtain ⟨r, hr, e⟩ := hs.1 (p / 2) (q / 2) hp2 hq2
  obtain ⟨ci, hci, d1⟩ := hX.cap hp2
  have d2 := hX.cell hp2 hq2
  rw [e, show (2 ^ r : Nat) = pw r from rfl] at d2
  have hsg : sgE X p q = sgT r (p % 2 * 2 + q % 2) := by unfold sgE; rw [e, Nat.log2_two_pow]
  rw [hsg]
  have HSN := fun W => singles_any (pw r) (pow13_lt r hr) W
  rw [show singF (pw r) = [⟨r, hr⟩] from singF_one ⟨r, hr⟩] at HSN
  have HSG := fun W => signs_any r hr W
  have HIX := fun W => run_ix98 r (p % 2 * 2 + q % 2) (by omega) W
  rw [show ((p % 2 * 2 + q % 2 : Nat) : Int) = (p : Int) % 2 * 2 + (q : Int) % 2 by omega] at HIX
  generalize sgT r (p % 2 * 2 + q % 2) = x at HIX ⊢
  have t1 : IntKind.i64.wrap ((p : Int).tdiv 2) = ((p / 2 : Nat) : Int) := by rw [Int.tdiv_eq_ediv_of_nonneg (by omega), IntKind.wrap_i64]; omega
  have t2 : IntKind.i64.wrap ((q : Int).tdiv 2) = ((q / 2 : Nat) : Int) := by rw [Int.tdiv_eq_ediv_of_nonneg (by omega), IntKind.wrap_i64]; omega
  have p0 : (0 : Int) ≤ ((p / 2 : Nat) : Int) := by omega
  have p1 : ((p / 2 : Nat) : Int) < (n : Int) := by omega
  have q0 : (0 : Int) ≤ ((q / 2 : Nat) : Int) := by omega
  have q1 : ((q / 2 : Nat) : Int) < (n : Int) := by omega
  clear hX hs hsg e
  go_enter Try.func75, Try.ntmps75
  go_wp2_with (first | (go_at_call 37; (with_reducible refine (HSN _).mono ?_); rintro e w1 ⟨v, rfl, hsl, hb1⟩; obtain ⟨g, off, c', rfl, hc⟩ := hsl.open (by simp); have z : w1.cell? ⟨g, off, none⟩ = some (.int .i64 (r : Int)) := hc 0 _ rfl; clear hc hsl) | (go_at_call 76; (with_reducible refine (HSG _).mono ?_); rintro e w2 ⟨rfl, hb2⟩))
  go_ret
  exact ⟨rfl, bstep hb1 hb2⟩
set_option maxHeartbeats 8000000 in
theorem same_any (BM n B c p q : Nat) (R : Nat → Nat) (X : Mt) (w : World) (hn8 : n ≤ 8) (hX : Mx w B R n X) (hs : Sc n X) (cM : w.cell? ⟨BM, 0, none⟩ = some (.slice (some ⟨B, 0, none⟩) n c)) (hp : p < 2 * n) (hq : q < 2 * n) :
    Calls Try.prog 77 #[.int .i64 (p : Int), .int .i64 (q : Int), .pointer (some ⟨BM, 0, none⟩)] w fun e w' => e = .returned (.bool (sgE X p q == 0)) ∧ Below w.heap.size w w' := by
  have hp2 : p / 2 < n := by omega
  have hq2 : q / 2 < n := by omega
  obtain ⟨r, hr, e⟩ := hs.1 (p / 2) (q / 2) hp2 hq2
  obtain ⟨ci, hci, d1⟩ := hX.cap hp2
  have d2 := hX.cell hp2 hq2
  rw [e, show (2 ^ r : Nat) = pw r from rfl] at d2
  have hsg : sgE X p q = sgT r (p % 2 * 2 + q % 2) := by unfold sgE; rw [e, Nat.log2_two_pow]
  rw [hsg]
  have HSN := fun W => singles_any (pw r) (pow13_lt r hr) W
  rw [show singF (pw r) = [⟨r, hr⟩] from singF_one ⟨r, hr⟩] at HSN
  have HSG := fun W => signs_any r hr W
  have HIX := fun W => run_ix98 r (p % 2 * 2 + q % 2) (by omega) W
  rw [show ((p % 2 * 2 + q % 2 : Nat) : Int) = (p : Int) % 2 * 2 + (q : Int) % 2 by omega] at HIX
  generalize sgT r (p % 2 * 2 + q % 2) = x at HIX ⊢
  have t1 : IntKind.i64.wrap ((p : Int).tdiv 2) = ((p / 2 : Nat) : Int) := by rw [Int.tdiv_eq_ediv_of_nonneg (by omega), IntKind.wrap_i64]; omega
  have t2 : IntKind.i64.wrap ((q : Int).tdiv 2) = ((q / 2 : Nat) : Int) := by rw [Int.tdiv_eq_ediv_of_nonneg (by omega), IntKind.wrap_i64]; omega
  have p0 : (0 : Int) ≤ ((p / 2 : Nat) : Int) := by omega
  have p1 : ((p / 2 : Nat) : Int) < (n : Int) := by omega
  have q0 : (0 : Int) ≤ ((q / 2 : Nat) : Int) := by omega
  have q1 : ((q / 2 : Nat) : Int) < (n : Int) := by omega
  clear hX hs hsg e
  go_enter Try.func77, Try.ntmps77
  go_wp2_with (first | (go_at_call 37; (with_reducible refine (HSN _).mono ?_); rintro e w1 ⟨v, rfl, hsl, hb1⟩; obtain ⟨g, off, c', rfl, hc⟩ := hsl.open (by simp); have z : w1.cell? ⟨g, off, none⟩ = some (.int .i64 (r : Int)) := hc 0 _ rfl; clear hc hsl) | (go_at_call 76; (with_reducible refine (HSG _).mono ?_); rintro e w2 ⟨rfl, hb2⟩))
  go_ret
  exact ⟨rfl, bstep hb1 hb2⟩
end Go.Proofs.Ytoadihclmnjjnaa.Nw
