/-
  Networks: two matrices compared (slices.Equal, EqualFunc) (layer 46).
-/
import Derived.Test.YtoadihclmnjjnaaNxD
import Derived.Test.YtoadihclmnjjnaaShelf
set_option linter.unusedSimpArgs false
set_option linter.unusedVariables false
set_option maxRecDepth 100000
namespace Go.Proofs.Ytoadihclmnjjnaa.Nw
open Go Go.RowKit Go.ChangeShapes Go.WideShapes Go.Proofs.Ytoadihclmnjjnaa.Sl Go.Lib

theorem equal_rows (n : Nat) (g g2 c c2 : Nat) (f : Nat → Nat) (w : World) (hn : n ≤ 1000000) (ha : Rw w g n f) (hb : Rw w g2 n f) :
    Calls Try.prog 25 #[.slice (some ⟨g, 0, none⟩) n c, .slice (some ⟨g2, 0, none⟩) n c2] w fun e w' => e = .returned (.bool true) ∧ Below w.heap.size w w' := by
  have hL : ((List.range n).map fun j => ((f j : Nat) : Int)).length = n := by simp
  have hg : ∀ j, j < n → ((List.range n).map fun j => ((f j : Nat) : Int)).getD j 0 = ((f j : Nat) : Int) := by
    intro j hj
    rw [List.getD_eq_getElem?_getD, List.getElem?_map, List.getElem?_range hj]; rfl
  refine (Try.slices_Equal_int g 0 n c g2 0 n c2 _ _ w (Nat.le_of_eq hL.symm) (Nat.le_of_eq hL.symm) (by omega) (by omega) (fun j hj => ?_) (fun j hj => ?_)).mono ?_
  · rw [hL] at hj
    rw [hg j hj, Nat.zero_add]; exact ha.cell hj
  · rw [hL] at hj
    rw [hg j hj, Nat.zero_add]; exact hb.cell hj
  · rintro e w' ⟨rfl, q, rfl⟩
    exact ⟨by simp, bdrewN (Below.refl _ _) q⟩

theorem clos_eq (n : Nat) (g g2 c c2 : Nat) (f : Nat → Nat) (w : World) (hn : n ≤ 1000000) (ha : Rw w g n f) (hb : Rw w g2 n f) :
    Calls Try.prog 24 #[.slice (some ⟨g, 0, none⟩) n c, .slice (some ⟨g2, 0, none⟩) n c2] w fun e w' => e = .returned (.bool true) ∧ Below w.heap.size w w' := by
  have H := equal_rows n g g2 c c2 f w hn ha hb
  clear ha hb
  go_enter Try.func24, Try.ntmps24
  go_wp2_with (go_at_call 25; (with_reducible refine H.mono ?_); rintro e w1 ⟨rfl, hL⟩)
  go_ret
  exact ⟨rfl, hL⟩
set_option maxHeartbeats 4000000 in
theorem eq_mats (n B B2 c c2 : Nat) (R R2 : Nat → Nat) (M : Mt) (w : World) (hn : n ≤ 1000000) (ha : Mx w B R n M) (hb : Mx w B2 R2 n M) :
    Calls Try.prog 23 #[.slice (some ⟨B, 0, none⟩) n c, .slice (some ⟨B2, 0, none⟩) n c2, .func (.func 24) #[] #[]] w fun e w' => e = .returned (.bool true) ∧ Below w.heap.size w w' := by
  have HA := Lib.hid ha
  have HB := Lib.hid hb
  clear ha hb
  go_enter Try.func23, Try.ntmps23
  go_wp2
  go_loopw [17] (fun i wr => ∃ k : Nat, k ≤ n ∧ i = .int .i64 k ∧ Below w.heap.size w wr) (fun i _ => n - (RowKit.intOf i).toNat)
  case atStart => exact ⟨0, Nat.zero_le _, rfl, Below.refl _ _⟩
  case round =>
    obtain ⟨k, hk, rfl, hL⟩ := hrel
    by_cases hlt : k < n
    · obtain ⟨d, hd, a0⟩ := (HA.out.below hL).cap hlt
      obtain ⟨d2, hd2, b0⟩ := (HB.out.below hL).cap hlt
      have HC := fun W (h : Below w.heap.size w W) => clos_eq n (R k) (R2 k) d d2 (M k) W hn ((HA.out.below h).row k hlt) ((HB.out.below h).row k hlt)
      have k0 : (0 : Int) ≤ (k : Int) := by omega
      have k1 : (k : Int) < (n : Int) := by omega
      generalize R k = r at *
      generalize R2 k = r2 at *
      go_wp2_with (go_at_call 24; (with_reducible refine (HC _ hL).mono ?_); rintro e w1 ⟨rfl, hb⟩; have hL2 := bstep hL hb; clear hb)
      go_roundw
      case rel => exact ⟨k + 1, by omega, by go_num, hL2⟩
      case measure => simp [RowKit.intOf]; omega
    · go_wp2
      go_ret
      exact ⟨rfl, hL⟩
end Go.Proofs.Ytoadihclmnjjnaa.Nw
