/-
  The walks of the reference of layer 11: Singles, Inverse, Convex.
-/
import Derived.Test.YtoadihclmnjjnaaCmp
import Derived.Test.YtoadihclmnjjnaaEq
set_option linter.unusedSimpArgs false
set_option linter.unusedVariables false
set_option maxRecDepth 100000
namespace Go.Proofs.Ytoadihclmnjjnaa.Al
open Go Go.RowKit Go.Proofs.Ytoadihclmnjjnaa.Bt Go.Proofs.Ytoadihclmnjjnaa.Sl

theorem rinverse_none (s : Int) (w : World) (h : isSetB s = false) : Calls Try.prog 64 #[.int .i64 s] w fun e w' => e = .returned (.int .i64 (-1)) ∧ Below w.heap.size w w' := by
  go_enter Try.func64, Try.ntmps64
  go_wp2_with (go_at_call 56; ((with_reducible refine (rIsSet_any s _).mono ?_); rintro e w1 ⟨rfl, rfl⟩))
  go_ret
  exact ⟨rfl, by go_grown⟩
theorem rinverse_set (m : Nat) (hm : m < 8192) (w : World) : Calls Try.prog 64 #[.int .i64 (m : Int)] w fun e w' => e = .returned (.int .i64 ((invN m : Nat) : Int)) ∧ Below w.heap.size w w' := by
  have his : isSetB (m : Int) = true := by simp [isSetB]; omega
  have hfin : invTo (singTo m 13) = invN m := rfl
  go_enter Try.func64, Try.ntmps64
  go_wp2_with (go_at_call 56; ((with_reducible refine (rIsSet_any (m : Int) _).mono ?_); rintro e w1 ⟨rfl, rfl⟩))
  go_loopw [3, 4] (fun o i wr => ∃ k : Nat, k ≤ 13 ∧ i = .int .i64 k ∧ o = .int .i64 ((invTo (singTo m k) : Nat) : Int) ∧ w = wr) (fun _ i _ => 13 - (intOf i).toNat)
  case atStart => exact ⟨0, by omega, rfl, rfl, rfl⟩
  case round =>
    obtain ⟨k, hk, rfl, rfl, rfl⟩ := hrel
    by_cases hlt : k < 13
    · have g1 : decide ((k : Int) ≤ 12) = true := by simp; omega
      have hs := singTo_step m k hlt
      have hh := rhas_any m k hm (by omega)
      have hw12 : IntKind.i64.wrap (12 - (k : Int)) = 12 - (k : Int) := IntWalk.i64_in _ (by omega)
      have i0 : (0 : Int) ≤ (k : Int) := by omega
      have i1 : (k : Int) ≤ 12 := by omega
      have hp := wrap_pw (12 - k) (by omega)
      cases hb : m.testBit k
      · rw [hb, if_neg (by simp), List.append_nil] at hs
        rw [hb] at hh
        have HS := Lib.hid hs
        clear hs
        go_wp2_with (go_at_call 90; ((with_reducible refine (hh _).mono ?_); rintro e w1 ⟨rfl, rfl⟩))
        go_roundw
        case rel => exact ⟨k + 1, by omega, by go_num, by rw [HS.out], by trivial⟩
        case measure => simp [intOf]; omega
      · rw [hb, if_pos rfl] at hs
        rw [hb] at hh
        have ho : bits .or .i64 ((invTo (singTo m k) : Nat) : Int) ((pw (12 - k) : Nat) : Int) = ((invTo (singTo m (k + 1)) : Nat) : Int) := by
          rw [bits_or _ _ (by have := invTo_lt (singTo m k); omega) (by have := pow_lt (12 - k) (by omega); unfold pw; omega), hs, invTo_snoc]; rfl
        have HS := Lib.hid hs
        clear hs
        go_wp2_with (go_at_call 90; ((with_reducible refine (hh _).mono ?_); rintro e w1 ⟨rfl, rfl⟩))
        go_roundw
        case rel => exact ⟨k + 1, by omega, by go_num, rfl, by trivial⟩
        case measure => simp [intOf]; omega
    · obtain rfl : k = 13 := by omega
      rw [hfin]
      go_wp2
      go_ret
      exact ⟨rfl, Below.refl _ _⟩
theorem rinvs_any (a : Int) (w : World) : Calls Try.prog 64 #[.int .i64 a] w fun e w' => e = .returned (.int .i64 (invB a)) ∧ Below w.heap.size w w' := by
  unfold invB
  cases h1 : isSetB a
  · exact rinverse_none a w h1
  obtain ⟨x, rfl⟩ : ∃ x : Nat, a = x := ⟨a.toNat, by simp [isSetB] at h1; omega⟩
  exact rinverse_set x (by simp [isSetB] at h1; omega) w

def rlo (pre : List (Fin 13)) (i : Nat) : Nat := pre.foldl (fun o r => min o (en r.val i)) 6
def rhi (pre : List (Fin 13)) (i : Nat) : Nat := pre.foldl (fun o r => max o (en r.val i)) 0
theorem rlo_snoc (pre : List (Fin 13)) (x : Fin 13) (i : Nat) : rlo (pre ++ [x]) i = min (rlo pre i) (en x.val i) := by simp [rlo]
theorem rhi_snoc (pre : List (Fin 13)) (x : Fin 13) (i : Nat) : rhi (pre ++ [x]) i = max (rhi pre i) (en x.val i) := by simp [rhi]
def rBox (m r : Nat) : Bool := decide (rlo (singF m) 0 ≤ en r 0) && decide (en r 0 ≤ rhi (singF m) 0) && decide (rlo (singF m) 1 ≤ en r 1) && decide (en r 1 ≤ rhi (singF m) 1)
theorem en_bd : ∀ r < 13, ∀ i < 2, 1 ≤ en r i ∧ en r i ≤ 5 := by decide
theorem rlo_cons (x : Fin 13) (l : List (Fin 13)) (i : Nat) (hi : i < 2) : rlo (x :: l) i = lo (x :: l) i := by
  have := en_bd x.val x.isLt i hi
  unfold rlo lo
  rw [List.foldl_cons, List.foldl_cons, show min 6 (en x.val i) = min 5 (en x.val i) by omega]
theorem rhi_cons (x : Fin 13) (l : List (Fin 13)) (i : Nat) (hi : i < 2) : rhi (x :: l) i = Al.hi (x :: l) i := by
  have := en_bd x.val x.isLt i hi
  unfold rhi Al.hi
  rw [List.foldl_cons, List.foldl_cons, show max 0 (en x.val i) = max 1 (en x.val i) by omega]
theorem rBox_eq (m r : Nat) (hr : r < 13) : rBox m r = inBox m r := by
  unfold rBox inBox
  cases h : singF m with
  | nil =>
    have b0 := en_bd r hr 0 (by omega)
    have e1 : decide (rlo [] 0 ≤ en r 0) = false := decide_eq_false (show ¬ 6 ≤ en r 0 by omega)
    have e2 : (decide (lo [] 0 ≤ en r 0) && decide (en r 0 ≤ Al.hi [] 0)) = false := by
      show (decide (5 ≤ en r 0) && decide (en r 0 ≤ 1)) = false
      rcases (by omega : en r 0 < 5 ∨ 1 < en r 0) with h | h
      · rw [decide_eq_false (show ¬ 5 ≤ en r 0 by omega)]; rfl
      · rw [decide_eq_false (show ¬ en r 0 ≤ 1 by omega), Bool.and_false]
    rw [e1, e2]
    simp
  | cons x l => rw [rlo_cons x l 0 (by omega), rlo_cons x l 1 (by omega), rhi_cons x l 0 (by omega), rhi_cons x l 1 (by omega)]

end Go.Proofs.Ytoadihclmnjjnaa.Al
