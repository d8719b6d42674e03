/-
  The walk of ValueTotal.
-/
import Derived.Test.YtgfppajbegcaeaaDoorVlT
set_option linter.unusedSimpArgs false
set_option linter.unusedVariables false
namespace Go.Proofs.YtgfppajbegcaeaaDoor.Va
open Go.RowKit Go.ChangeShapes Go.WideShapes Go.Proofs.YtgfppajbegcaeaaDoor.Sl

theorem concat_v (a b c : List V3) (va vb vc : Value) (H : Nat) (w : World) (ha : Vs w va a) (hb : Vs w vb b) (hc : Vs w vc c) (la : a.length ≤ 50) (lb : b.length ≤ 50) (lc : c.length ≤ 50)
    (h0 : w.cell? ⟨H, 0, none⟩ = some va) (h1 : w.cell? ⟨H, 1, none⟩ = some vb) (h2 : w.cell? ⟨H, 2, none⟩ = some vc) :
    Calls Tryd.prog 19 #[.slice (some ⟨H, 0, none⟩) 3 3] w fun e w' => ∃ v, e = .returned v ∧ Vs w' v (a ++ b ++ c) ∧ Below w.heap.size w w' :=
  (concat_any a b c va vb vc H w ha hb hc la lb lc h0 h1 h2).mono fun e w' ⟨v, h1, h2⟩ => ⟨v, h1, h2.vs, h2.2⟩
set_option maxRecDepth 20000 in
theorem vt_long1 (a1 a2 a3 : Option Addr) (n1 n2 n3 c1 c2 c3 : Nat) (m : Int) (w : World) (hm : w.cell? ⟨0, 0, none⟩ = some (.int .i64 m)) (h : (50 : Int) < (n1 : Int)) :
    Calls Tryd.prog 4 #[.slice a1 n1 c1, .slice a2 n2 c2, .slice a3 n3 c3] w fun e w' => e = .returned (.bool true) ∧ Below w.heap.size w w' := by
  have HW := fun (W : World) (h : Below w.heap.size w W) => awake_any m W (Go.Proofs.YtgfppajbegcaeaaDoor.Sl.cell_kept hm h)
  go_enter Tryd.func4, Tryd.ntmps4
  go_wp2_with (go_at_call 10; (first | (with_reducible refine (HW _ hL).mono ?_; rintro e w9 ⟨rfl, hb⟩; replace hL := bstep hL hb; clear hb) | (with_reducible refine (HW _ (Below.refl _ _)).mono ?_; rintro e w1 ⟨rfl, hL⟩)))
  go_ret
  exact ⟨rfl, hL⟩
set_option maxRecDepth 20000 in
theorem vt_long2 (a1 a2 a3 : Option Addr) (n1 n2 n3 c1 c2 c3 : Nat) (m : Int) (w : World) (hm : w.cell? ⟨0, 0, none⟩ = some (.int .i64 m)) (h1 : (n1 : Int) ≤ 50) (h : (50 : Int) < (n2 : Int)) :
    Calls Tryd.prog 4 #[.slice a1 n1 c1, .slice a2 n2 c2, .slice a3 n3 c3] w fun e w' => e = .returned (.bool true) ∧ Below w.heap.size w w' := by
  have HW := fun (W : World) (h : Below w.heap.size w W) => awake_any m W (Go.Proofs.YtgfppajbegcaeaaDoor.Sl.cell_kept hm h)
  go_enter Tryd.func4, Tryd.ntmps4
  go_wp2_with (go_at_call 10; (first | (with_reducible refine (HW _ hL).mono ?_; rintro e w9 ⟨rfl, hb⟩; replace hL := bstep hL hb; clear hb) | (with_reducible refine (HW _ (Below.refl _ _)).mono ?_; rintro e w1 ⟨rfl, hL⟩)))
  go_ret
  exact ⟨rfl, hL⟩
set_option maxRecDepth 20000 in
theorem vt_long3 (a1 a2 a3 : Option Addr) (n1 n2 n3 c1 c2 c3 : Nat) (m : Int) (w : World) (hm : w.cell? ⟨0, 0, none⟩ = some (.int .i64 m)) (h1 : (n1 : Int) ≤ 50) (h2 : (n2 : Int) ≤ 50) (h : (50 : Int) < (n3 : Int)) :
    Calls Tryd.prog 4 #[.slice a1 n1 c1, .slice a2 n2 c2, .slice a3 n3 c3] w fun e w' => e = .returned (.bool true) ∧ Below w.heap.size w w' := by
  have HW := fun (W : World) (h : Below w.heap.size w W) => awake_any m W (Go.Proofs.YtgfppajbegcaeaaDoor.Sl.cell_kept hm h)
  go_enter Tryd.func4, Tryd.ntmps4
  go_wp2_with (go_at_call 10; (first | (with_reducible refine (HW _ hL).mono ?_; rintro e w9 ⟨rfl, hb⟩; replace hL := bstep hL hb; clear hb) | (with_reducible refine (HW _ (Below.refl _ _)).mono ?_; rintro e w1 ⟨rfl, hL⟩)))
  go_ret
  exact ⟨rfl, hL⟩
set_option maxRecDepth 20000 in
set_option maxHeartbeats 2000000 in
theorem vt_go (a b c : List V3) (a1 a2 a3 : Option Addr) (n1 n2 n3 c1 c2 c3 : Nat) (m : Int) (w : World) (hm : w.cell? ⟨0, 0, none⟩ = some (.int .i64 m)) (h1 : (n1 : Int) ≤ 50) (h2 : (n2 : Int) ≤ 50) (h3 : (n3 : Int) ≤ 50)
    (e1 : n1 = a.length) (e2 : n2 = b.length) (e3 : n3 = c.length) (ha : Vs w (.slice a1 n1 c1) a) (hb : Vs w (.slice a2 n2 c2) b) (hc : Vs w (.slice a3 n3 c3) c) :
    Calls Tryd.prog 4 #[.slice a1 n1 c1, .slice a2 n2 c2, .slice a3 n3 c3] w fun e w' => e = .returned (.bool true) ∧ Below w.heap.size w w' := by
  have HW := fun (W : World) (h : Below w.heap.size w W) => awake_any m W (Go.Proofs.YtgfppajbegcaeaaDoor.Sl.cell_kept hm h)
  have HCC := fun (W W2 : World) (h : Below W.heap.size W W2) (h0 : Below w.heap.size w W) (hH : W2.heap[W.heap.size]? = some (Obj.cells #[.slice a1 n1 c1, .slice a2 n2 c2, .slice a3 n3 c3] 22 (0, 0))) =>
    concat_v a b c _ _ _ W.heap.size W2 (ha.below (bstep h0 h)) (hb.below (bstep h0 h)) (hc.below (bstep h0 h)) (by omega) (by omega) (by omega) (box_cell hH 0 _ rfl) (box_cell hH 1 _ rfl) (box_cell hH 2 _ rfl)
  have HCF := fun (W : World) (v : Value) (h : Vs W v (a ++ b ++ c)) => has_tot (a ++ b ++ c) v W (by simp; omega) h
  have HO1 := fun (W : World) (h : Below w.heap.size w W) => order_lists a b _ _ W (by omega) (by omega) (ha.below h) (hb.below h)
  have HO2 := fun (W : World) (h : Below w.heap.size w W) => order_lists b c _ _ W (by omega) (by omega) (hb.below h) (hc.below h)
  have HO3 := fun (W : World) (h : Below w.heap.size w W) => order_lists a c _ _ W (by omega) (by omega) (ha.below h) (hc.below h)
  have HO4 := fun (W : World) (h : Below w.heap.size w W) => order_lists b a _ _ W (by omega) (by omega) (hb.below h) (ha.below h)
  have HS := fun (W : World) (h : Below w.heap.size w W) => same_any a b _ _ W (by omega) (by omega) (ha.below h) (hb.below h)
  clear ha hb hc e1 e2 e3
  cases hv : allV (a ++ b ++ c)
  · rw [hv] at HCF
    clear HO1 HO2 HO3 HO4 HS hv
    go_enter Tryd.func4, Tryd.ntmps4
    go_wp2_with (first | (go_at_call 10; (first | (with_reducible refine (HW _ hL).mono ?_; rintro e w9 ⟨rfl, hb⟩; replace hL := bstep hL hb; clear hb) | (with_reducible refine (HW _ (Below.refl _ _)).mono ?_; rintro e w1 ⟨rfl, hL⟩))) | (go_at_call 19; (with_reducible refine (HCC _ _ (by go_grown) hL (heap_alloc_new _ _)).mono ?_); rintro e w2 ⟨v, rfl, hv, hb⟩; replace hL := bstep hL (bstep (by go_grown) hb); clear hb) | (go_at_call 18; (with_reducible refine (HCF _ _ hv).mono ?_); rintro e w3 ⟨rfl, hb⟩; replace hL := bstep hL hb; clear hb hv))
    go_ret
    exact ⟨rfl, hL⟩
  · rw [hv] at HCF
    have hall : allV a = true ∧ allV b = true ∧ allV c = true := by
      unfold allV at hv ⊢
      rw [List.all_append, List.all_append, Bool.and_eq_true, Bool.and_eq_true] at hv
      exact ⟨hv.1.1, hv.1.2, hv.2⟩
    unfold cmpLs at HO1 HO2 HO3 HO4
    rw [hall.1, hall.2.1, Bool.and_self, if_pos rfl] at HO1 HO4
    rw [hall.2.1, hall.2.2, Bool.and_self, if_pos rfl] at HO2
    rw [hall.1, hall.2.2, Bool.and_self, if_pos rfl] at HO3
    have q1 := ordL_cmp.rng a b
    have q2 := ordL_cmp.rng b c
    have q3 := ordL_cmp.rng a c
    have q4 := ordL_cmp.total a b c
    have q5 : decide (a = b) = decide (ordL a b = 0) := by
      congr 1
      exact propext (ordL_cmp.eq a b).symm
    rw [ordL_cmp.anti a b] at HO4
    rw [q5] at HS
    clear hall hv q5
    generalize ordL a b = x at HO1 HO4 HS q1 q4
    generalize ordL b c = y at HO2 q2 q4
    generalize ordL a c = z at HO3 q3 q4
    have Q4 := Lib.hid q4
    have Q1 := Lib.hid q1
    have Q2 := Lib.hid q2
    have Q3 := Lib.hid q3
    clear q1 q2 q3 q4
    go_enter Tryd.func4, Tryd.ntmps4
    go_upto_region 3 with (first | (go_at_call 10; (first | (with_reducible refine (HW _ hL).mono ?_; rintro e w9 ⟨rfl, hb⟩; replace hL := bstep hL hb; clear hb) | (with_reducible refine (HW _ (Below.refl _ _)).mono ?_; rintro e w1 ⟨rfl, hL⟩))) | (go_at_call 19; (with_reducible refine (HCC _ _ (by go_grown) hL (heap_alloc_new _ _)).mono ?_); rintro e w2 ⟨v, rfl, hv, hb⟩; replace hL := bstep hL (bstep (by go_grown) hb); clear hb) | (go_at_call 18; (with_reducible refine (HCF _ _ hv).mono ?_); rintro e w3 ⟨rfl, hb⟩; replace hL := bstep hL hb; clear hb hv))
    go_upto_region 4 with (go_at_call 22; (first | (with_reducible refine (HO1 _ hL).mono ?_; rintro e w4 ⟨rfl, hb⟩; replace hL := bstep hL hb; clear hb) | (with_reducible refine (HO2 _ hL).mono ?_; rintro e w5 ⟨rfl, hb⟩; replace hL := bstep hL hb; clear hb) | (with_reducible refine (HO3 _ hL).mono ?_; rintro e w6 ⟨rfl, hb⟩; replace hL := bstep hL hb; clear hb)))
    clear HW HCC HCF HO1 HO2 HO3
    rcases Q1.out with rfl | rfl | rfl
    · rw [show (-(-1 : Int)) = 1 from rfl] at HO4
      rw [(by decide : decide ((-1 : Int) = 0) = false)] at HS
      rcases Q2.out with rfl | rfl | rfl
      · rcases Q3.out with rfl | rfl | rfl
        · clear Q1 Q2 Q3 Q4
          go_wp2_with (first | (go_at_call 22; (with_reducible refine (HO4 _ hL).mono ?_); rintro e w7 ⟨rfl, hb⟩; replace hL := bstep hL hb; clear hb) | (go_at_call 23; (with_reducible refine (HS _ hL).mono ?_); rintro e w8 ⟨rfl, hb⟩; replace hL := bstep hL hb; clear hb))
          go_ret
          exact ⟨rfl, hL⟩
        · exfalso; have := Q4.out; omega
        · exfalso; have := Q4.out; omega
      · rcases Q3.out with rfl | rfl | rfl
        · clear Q1 Q2 Q3 Q4
          go_wp2_with (first | (go_at_call 22; (with_reducible refine (HO4 _ hL).mono ?_); rintro e w7 ⟨rfl, hb⟩; replace hL := bstep hL hb; clear hb) | (go_at_call 23; (with_reducible refine (HS _ hL).mono ?_); rintro e w8 ⟨rfl, hb⟩; replace hL := bstep hL hb; clear hb))
          go_ret
          exact ⟨rfl, hL⟩
        · exfalso; have := Q4.out; omega
        · exfalso; have := Q4.out; omega
      · rcases Q3.out with rfl | rfl | rfl
        · clear Q1 Q2 Q3 Q4
          go_wp2_with (first | (go_at_call 22; (with_reducible refine (HO4 _ hL).mono ?_); rintro e w7 ⟨rfl, hb⟩; replace hL := bstep hL hb; clear hb) | (go_at_call 23; (with_reducible refine (HS _ hL).mono ?_); rintro e w8 ⟨rfl, hb⟩; replace hL := bstep hL hb; clear hb))
          go_ret
          exact ⟨rfl, hL⟩
        · clear Q1 Q2 Q3 Q4
          go_wp2_with (first | (go_at_call 22; (with_reducible refine (HO4 _ hL).mono ?_); rintro e w7 ⟨rfl, hb⟩; replace hL := bstep hL hb; clear hb) | (go_at_call 23; (with_reducible refine (HS _ hL).mono ?_); rintro e w8 ⟨rfl, hb⟩; replace hL := bstep hL hb; clear hb))
          go_ret
          exact ⟨rfl, hL⟩
        · clear Q1 Q2 Q3 Q4
          go_wp2_with (first | (go_at_call 22; (with_reducible refine (HO4 _ hL).mono ?_); rintro e w7 ⟨rfl, hb⟩; replace hL := bstep hL hb; clear hb) | (go_at_call 23; (with_reducible refine (HS _ hL).mono ?_); rintro e w8 ⟨rfl, hb⟩; replace hL := bstep hL hb; clear hb))
          go_ret
          exact ⟨rfl, hL⟩
    · rw [show (-(0 : Int)) = 0 from rfl] at HO4
      rw [(by decide : decide ((0 : Int) = 0) = true)] at HS
      rcases Q2.out with rfl | rfl | rfl
      · rcases Q3.out with rfl | rfl | rfl
        · clear Q1 Q2 Q3 Q4
          go_wp2_with (first | (go_at_call 22; (with_reducible refine (HO4 _ hL).mono ?_); rintro e w7 ⟨rfl, hb⟩; replace hL := bstep hL hb; clear hb) | (go_at_call 23; (with_reducible refine (HS _ hL).mono ?_); rintro e w8 ⟨rfl, hb⟩; replace hL := bstep hL hb; clear hb))
          go_ret
          exact ⟨rfl, hL⟩
        · exfalso; have := Q4.out; omega
        · exfalso; have := Q4.out; omega
      · rcases Q3.out with rfl | rfl | rfl
        · clear Q1 Q2 Q3 Q4
          go_wp2_with (first | (go_at_call 22; (with_reducible refine (HO4 _ hL).mono ?_); rintro e w7 ⟨rfl, hb⟩; replace hL := bstep hL hb; clear hb) | (go_at_call 23; (with_reducible refine (HS _ hL).mono ?_); rintro e w8 ⟨rfl, hb⟩; replace hL := bstep hL hb; clear hb))
          go_ret
          exact ⟨rfl, hL⟩
        · clear Q1 Q2 Q3 Q4
          go_wp2_with (first | (go_at_call 22; (with_reducible refine (HO4 _ hL).mono ?_); rintro e w7 ⟨rfl, hb⟩; replace hL := bstep hL hb; clear hb) | (go_at_call 23; (with_reducible refine (HS _ hL).mono ?_); rintro e w8 ⟨rfl, hb⟩; replace hL := bstep hL hb; clear hb))
          go_ret
          exact ⟨rfl, hL⟩
        · exfalso; have := Q4.out; omega
      · rcases Q3.out with rfl | rfl | rfl
        · clear Q1 Q2 Q3 Q4
          go_wp2_with (first | (go_at_call 22; (with_reducible refine (HO4 _ hL).mono ?_); rintro e w7 ⟨rfl, hb⟩; replace hL := bstep hL hb; clear hb) | (go_at_call 23; (with_reducible refine (HS _ hL).mono ?_); rintro e w8 ⟨rfl, hb⟩; replace hL := bstep hL hb; clear hb))
          go_ret
          exact ⟨rfl, hL⟩
        · clear Q1 Q2 Q3 Q4
          go_wp2_with (first | (go_at_call 22; (with_reducible refine (HO4 _ hL).mono ?_); rintro e w7 ⟨rfl, hb⟩; replace hL := bstep hL hb; clear hb) | (go_at_call 23; (with_reducible refine (HS _ hL).mono ?_); rintro e w8 ⟨rfl, hb⟩; replace hL := bstep hL hb; clear hb))
          go_ret
          exact ⟨rfl, hL⟩
        · clear Q1 Q2 Q3 Q4
          go_wp2_with (first | (go_at_call 22; (with_reducible refine (HO4 _ hL).mono ?_); rintro e w7 ⟨rfl, hb⟩; replace hL := bstep hL hb; clear hb) | (go_at_call 23; (with_reducible refine (HS _ hL).mono ?_); rintro e w8 ⟨rfl, hb⟩; replace hL := bstep hL hb; clear hb))
          go_ret
          exact ⟨rfl, hL⟩
    · rw [show (-(1 : Int)) = -1 from rfl] at HO4
      rw [(by decide : decide ((1 : Int) = 0) = false)] at HS
      rcases Q2.out with rfl | rfl | rfl
      · rcases Q3.out with rfl | rfl | rfl
        · clear Q1 Q2 Q3 Q4
          go_wp2_with (first | (go_at_call 22; (with_reducible refine (HO4 _ hL).mono ?_); rintro e w7 ⟨rfl, hb⟩; replace hL := bstep hL hb; clear hb) | (go_at_call 23; (with_reducible refine (HS _ hL).mono ?_); rintro e w8 ⟨rfl, hb⟩; replace hL := bstep hL hb; clear hb))
          go_ret
          exact ⟨rfl, hL⟩
        · clear Q1 Q2 Q3 Q4
          go_wp2_with (first | (go_at_call 22; (with_reducible refine (HO4 _ hL).mono ?_); rintro e w7 ⟨rfl, hb⟩; replace hL := bstep hL hb; clear hb) | (go_at_call 23; (with_reducible refine (HS _ hL).mono ?_); rintro e w8 ⟨rfl, hb⟩; replace hL := bstep hL hb; clear hb))
          go_ret
          exact ⟨rfl, hL⟩
        · clear Q1 Q2 Q3 Q4
          go_wp2_with (first | (go_at_call 22; (with_reducible refine (HO4 _ hL).mono ?_); rintro e w7 ⟨rfl, hb⟩; replace hL := bstep hL hb; clear hb) | (go_at_call 23; (with_reducible refine (HS _ hL).mono ?_); rintro e w8 ⟨rfl, hb⟩; replace hL := bstep hL hb; clear hb))
          go_ret
          exact ⟨rfl, hL⟩
      · rcases Q3.out with rfl | rfl | rfl
        · clear Q1 Q2 Q3 Q4
          go_wp2_with (first | (go_at_call 22; (with_reducible refine (HO4 _ hL).mono ?_); rintro e w7 ⟨rfl, hb⟩; replace hL := bstep hL hb; clear hb) | (go_at_call 23; (with_reducible refine (HS _ hL).mono ?_); rintro e w8 ⟨rfl, hb⟩; replace hL := bstep hL hb; clear hb))
          go_ret
          exact ⟨rfl, hL⟩
        · clear Q1 Q2 Q3 Q4
          go_wp2_with (first | (go_at_call 22; (with_reducible refine (HO4 _ hL).mono ?_); rintro e w7 ⟨rfl, hb⟩; replace hL := bstep hL hb; clear hb) | (go_at_call 23; (with_reducible refine (HS _ hL).mono ?_); rintro e w8 ⟨rfl, hb⟩; replace hL := bstep hL hb; clear hb))
          go_ret
          exact ⟨rfl, hL⟩
        · clear Q1 Q2 Q3 Q4
          go_wp2_with (first | (go_at_call 22; (with_reducible refine (HO4 _ hL).mono ?_); rintro e w7 ⟨rfl, hb⟩; replace hL := bstep hL hb; clear hb) | (go_at_call 23; (with_reducible refine (HS _ hL).mono ?_); rintro e w8 ⟨rfl, hb⟩; replace hL := bstep hL hb; clear hb))
          go_ret
          exact ⟨rfl, hL⟩
      · rcases Q3.out with rfl | rfl | rfl
        · clear Q1 Q2 Q3 Q4
          go_wp2_with (first | (go_at_call 22; (with_reducible refine (HO4 _ hL).mono ?_); rintro e w7 ⟨rfl, hb⟩; replace hL := bstep hL hb; clear hb) | (go_at_call 23; (with_reducible refine (HS _ hL).mono ?_); rintro e w8 ⟨rfl, hb⟩; replace hL := bstep hL hb; clear hb))
          go_ret
          exact ⟨rfl, hL⟩
        · clear Q1 Q2 Q3 Q4
          go_wp2_with (first | (go_at_call 22; (with_reducible refine (HO4 _ hL).mono ?_); rintro e w7 ⟨rfl, hb⟩; replace hL := bstep hL hb; clear hb) | (go_at_call 23; (with_reducible refine (HS _ hL).mono ?_); rintro e w8 ⟨rfl, hb⟩; replace hL := bstep hL hb; clear hb))
          go_ret
          exact ⟨rfl, hL⟩
        · clear Q1 Q2 Q3 Q4
          go_wp2_with (first | (go_at_call 22; (with_reducible refine (HO4 _ hL).mono ?_); rintro e w7 ⟨rfl, hb⟩; replace hL := bstep hL hb; clear hb) | (go_at_call 23; (with_reducible refine (HS _ hL).mono ?_); rintro e w8 ⟨rfl, hb⟩; replace hL := bstep hL hb; clear hb))
          go_ret
          exact ⟨rfl, hL⟩
theorem valueTotal_walk (va : Value) (a : List V3) (vb : Value) (b : List V3) (vc : Value) (c : List V3) (m : Int) (w : World) (hm : w.cell? ⟨0, 0, none⟩ = some (.int .i64 m)) (hs : Vs w va a) (hl : a.length ≤ 9223372036854775807) (hg : ∀ u ∈ a, GoodV u) (hs2 : Vs w vb b) (hl2 : b.length ≤ 9223372036854775807) (hg2 : ∀ u ∈ b, GoodV u) (hs3 : Vs w vc c) (hl3 : c.length ≤ 9223372036854775807) (hg3 : ∀ u ∈ c, GoodV u) :
    Calls Tryd.prog 4 #[va, vb, vc] w fun e w' => e = .returned (.bool true) ∧ Below w.heap.size w w' := by
  obtain ⟨a1, c1, rfl⟩ := hs.form
  obtain ⟨a2, c2, rfl⟩ := hs2.form
  obtain ⟨a3, c3, rfl⟩ := hs3.form
  by_cases h1 : 50 < a.length
  · exact vt_long1 a1 a2 a3 _ _ _ c1 c2 c3 m w hm (by omega)
  by_cases h2 : 50 < b.length
  · exact vt_long2 a1 a2 a3 _ _ _ c1 c2 c3 m w hm (by omega) (by omega)
  by_cases h3 : 50 < c.length
  · exact vt_long3 a1 a2 a3 _ _ _ c1 c2 c3 m w hm (by omega) (by omega) (by omega)
  exact vt_go a b c a1 a2 a3 _ _ _ c1 c2 c3 m w hm (by omega) (by omega) (by omega) rfl rfl rfl hs hs2 hs3
end Go.Proofs.YtgfppajbegcaeaaDoor.Va
