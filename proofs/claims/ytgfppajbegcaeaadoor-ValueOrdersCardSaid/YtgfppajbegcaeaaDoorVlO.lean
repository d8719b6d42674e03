/-
  The walk of ValueOrders.
-/
import Derived.Test.YtgfppajbegcaeaaDoorVaZ
import Derived.Test.YtgfppajbegcaeaaDoorVaD
import Derived.Test.YtgfppajbegcaeaaDoorVaC
import Derived.Test.YtgfppajbegcaeaaDoorVop
import Derived.Lib.QuietBelow
import Derived.Deep.Cut
set_option linter.unusedSimpArgs false
set_option linter.unusedVariables false
namespace Go.Proofs.YtgfppajbegcaeaaDoor.Va
open Go.RowKit Go.ChangeShapes Go.WideShapes Go.Proofs.YtgfppajbegcaeaaDoor.Sl

set_option maxRecDepth 20000 in
theorem vo_long (a1 a2 : Option Addr) (n k c1 c2 : Nat) (m : Int) (w : World) (hm : w.cell? ⟨0, 0, none⟩ = some (.int .i64 m)) (h : (50 : Int) < (n : Int)) :
    Calls Tryd.prog 9 #[.slice a1 n c1, .slice a2 k c2] w fun e w' => e = .returned (.bool true) ∧ Below w.heap.size w w' := by
  have HW := fun (W : World) (h : Below w.heap.size w W) => awake_any m W (Go.Proofs.YtgfppajbegcaeaaDoor.Sl.cell_kept hm h)
  go_enter Tryd.func9, Tryd.ntmps9
  go_wp2_with (go_at_call 10; (first | (with_reducible refine (HW _ hL).mono ?_; rintro e w2 ⟨rfl, hb⟩; replace hL := bstep hL hb; clear hb) | (with_reducible refine (HW _ (Below.refl _ _)).mono ?_; rintro e w1 ⟨rfl, hL⟩)))
  go_ret
  exact ⟨rfl, hL⟩
set_option maxRecDepth 20000 in
theorem vo_long2 (a1 a2 : Option Addr) (n k c1 c2 : Nat) (m : Int) (w : World) (hm : w.cell? ⟨0, 0, none⟩ = some (.int .i64 m)) (h1 : (n : Int) ≤ 50) (h : (50 : Int) < (k : Int)) :
    Calls Tryd.prog 9 #[.slice a1 n c1, .slice a2 k c2] w fun e w' => e = .returned (.bool true) ∧ Below w.heap.size w w' := by
  have HW := fun (W : World) (h : Below w.heap.size w W) => awake_any m W (Go.Proofs.YtgfppajbegcaeaaDoor.Sl.cell_kept hm h)
  go_enter Tryd.func9, Tryd.ntmps9
  go_wp2_with (go_at_call 10; (first | (with_reducible refine (HW _ hL).mono ?_; rintro e w2 ⟨rfl, hb⟩; replace hL := bstep hL hb; clear hb) | (with_reducible refine (HW _ (Below.refl _ _)).mono ?_; rintro e w1 ⟨rfl, hL⟩)))
  go_ret
  exact ⟨rfl, hL⟩
theorem tb (w : World) (A B : Array Value) (t t2 : TypeId) {a0 a1 a2 b0 b1 b2 : Value} (h0 : A[0]? = some a0) (h1 : A[1]? = some a1) (h2 : A[2]? = some a2) (g0 : B[0]? = some b0) (g1 : B[1]? = some b1) (g2 : B[2]? = some b2) :
    Below w.heap.size w ((w.alloc (Obj.cells A t)).alloc (Obj.cells B t2)).drew ∧ ((w.alloc (Obj.cells A t)).alloc (Obj.cells B t2)).drew.cell? ⟨w.heap.size, 0, none⟩ = some a0 ∧ ((w.alloc (Obj.cells A t)).alloc (Obj.cells B t2)).drew.cell? ⟨w.heap.size, 1, none⟩ = some a1 ∧ ((w.alloc (Obj.cells A t)).alloc (Obj.cells B t2)).drew.cell? ⟨w.heap.size, 2, none⟩ = some a2 ∧
      ((w.alloc (Obj.cells A t)).alloc (Obj.cells B t2)).drew.cell? ⟨w.heap.size + 1, 0, none⟩ = some b0 ∧ ((w.alloc (Obj.cells A t)).alloc (Obj.cells B t2)).drew.cell? ⟨w.heap.size + 1, 1, none⟩ = some b1 ∧ ((w.alloc (Obj.cells A t)).alloc (Obj.cells B t2)).drew.cell? ⟨w.heap.size + 1, 2, none⟩ = some b2 := by
  have hb1 : Below w.heap.size w (w.alloc (.cells A t)) := (Below.refl _ _).alloc (Nat.le_refl _) _
  have hd : Below ((w.alloc (Obj.cells A t)).alloc (Obj.cells B t2)).heap.size ((w.alloc (Obj.cells A t)).alloc (Obj.cells B t2)) ((w.alloc (Obj.cells A t)).alloc (Obj.cells B t2)).drew := bdrew (Below.refl _ _)
  have k : ∀ j u, A[j]? = some u → ((w.alloc (Obj.cells A t)).alloc (Obj.cells B t2)).drew.cell? ⟨w.heap.size, j, none⟩ = some u := fun j u hu => Go.Proofs.YtgfppajbegcaeaaDoor.Sl.cell_kept (cell_alloc (box_cell (box_new w _ _) j u hu) _) hd
  have z : (w.alloc (.cells A t)).heap.size = w.heap.size + 1 := by simp
  have k2 : ∀ j u, B[j]? = some u → ((w.alloc (Obj.cells A t)).alloc (Obj.cells B t2)).drew.cell? ⟨w.heap.size + 1, j, none⟩ = some u := fun j u hu => by
    rw [← z]
    exact Go.Proofs.YtgfppajbegcaeaaDoor.Sl.cell_kept (box_cell (box_new _ _ _) j u hu) hd
  exact ⟨bstep (hb1.alloc hb1.size _) hd, k 0 _ h0, k 1 _ h1, k 2 _ h2, k2 0 _ g0, k2 1 _ g1, k2 2 _ g2⟩
set_option maxRecDepth 20000 in
set_option maxHeartbeats 2000000 in
theorem vo_go (a b : List V3) (a1 a2 : Option Addr) (n k c1 c2 : Nat) (m : Int) (w : World) (hm : w.cell? ⟨0, 0, none⟩ = some (.int .i64 m)) (h1 : (n : Int) ≤ 50) (h2 : (k : Int) ≤ 50)
    (e1 : n = a.length) (e2 : k = b.length) (ha : Vs w (.slice a1 n c1) a) (hb : Vs w (.slice a2 k c2) b) (hga : ∀ u ∈ a, GoodV u) (hgb : ∀ u ∈ b, GoodV u) :
    Calls Tryd.prog 9 #[.slice a1 n c1, .slice a2 k c2] w fun e w' => e = .returned (.bool true) ∧ Below w.heap.size w w' := by
  have HW := fun (W : World) (h : Below w.heap.size w W) => awake_any m W (Go.Proofs.YtgfppajbegcaeaaDoor.Sl.cell_kept hm h)
  have zA : SzL a := fun v hv => (hga v hv).2
  have zB : SzL b := fun v hv => (hgb v hv).2
  have HZ := Lib.hid (show SzL a ∧ SzL b from ⟨zA, zB⟩)
  have HS := Lib.hid (show Vs w (.slice a1 n c1) a ∧ Vs w (.slice a2 k c2) b from ⟨ha, hb⟩)
  have HE := Lib.hid (show n = a.length ∧ k = b.length from ⟨e1, e2⟩)
  clear hga hgb zA zB ha hb e1 e2
  go_enter Tryd.func9, Tryd.ntmps9
  go_upto_region 3 with (go_at_call 10; (with_reducible refine (HW _ (Below.refl _ _)).mono ?_); rintro e w1 ⟨rfl, hL⟩)
  clear HW
  go_wp2
  go_loopw [28] (fun i wr => ∃ j : Nat, j ≤ n ∧ j ≤ k ∧ i = .int .i64 j ∧ Below w.heap.size w wr) (fun i _ => 50 - (intOf i).toNat)
  case atStart => exact ⟨0, Nat.zero_le _, Nat.zero_le _, rfl, hL⟩
  case round =>
    clear hL
    obtain ⟨j, hj1, hj2, rfl, hL⟩ := hrel
    have nn : (0 : Int) ≤ (n : Int) := by omega
    have kk : (0 : Int) ≤ (k : Int) := by omega
    by_cases hlt : j < n ∧ j < k
    · obtain ⟨⟨x0, x1, x2⟩, hx⟩ : ∃ t, a[j]? = some t := ⟨_, List.getElem?_eq_getElem (by rw [← HE.out.1]; exact hlt.1)⟩
      obtain ⟨⟨y0, y1, y2⟩, hy⟩ : ∃ t, b[j]? = some t := ⟨_, List.getElem?_eq_getElem (by rw [← HE.out.2]; exact hlt.2)⟩
      obtain ⟨g1, o1, cp1, q1, hc1⟩ := HS.out.1.open (by rw [← HE.out.1]; omega)
      simp only [Value.slice.injEq] at q1
      obtain ⟨rfl, hq, rfl⟩ := q1
      clear hq
      obtain ⟨g2, o2, cp2, q2, hc2⟩ := HS.out.2.open (by rw [← HE.out.2]; omega)
      simp only [Value.slice.injEq] at q2
      obtain ⟨rfl, hq, rfl⟩ := q2
      clear hq
      obtain ⟨p0, p1, p2⟩ := vs_get hc1 hx
      obtain ⟨r0, r1, r2⟩ := vs_get hc2 hy
      replace p0 := Go.Proofs.YtgfppajbegcaeaaDoor.Sl.cell_kept p0 hL
      replace p1 := Go.Proofs.YtgfppajbegcaeaaDoor.Sl.cell_kept p1 hL
      replace p2 := Go.Proofs.YtgfppajbegcaeaaDoor.Sl.cell_kept p2 hL
      replace r0 := Go.Proofs.YtgfppajbegcaeaaDoor.Sl.cell_kept r0 hL
      replace r1 := Go.Proofs.YtgfppajbegcaeaaDoor.Sl.cell_kept r1 hL
      replace r2 := Go.Proofs.YtgfppajbegcaeaaDoor.Sl.cell_kept r2 hL
      have l1 := block_of_cell p0
      have l2 := block_of_cell r0
      have hsx : x2.size ≤ 9223372036854775807 := HZ.out.1 _ (List.mem_of_getElem? hx)
      have hsy : y2.size ≤ 9223372036854775807 := HZ.out.2 _ (List.mem_of_getElem? hy)
      have HV1 := fun W => valid_any (x0, x1, x2) W
      have HR1 := fun W => rvalid_any (x0, x1, x2) W hsx
      have HR2 := fun W => rvalid_any (y0, y1, y2) W hsy
      have HC := fun W => compare_any (x0, x1, x2) (y0, y1, y2) W
      have HRC := fun W => rcompare_any (x0, x1, x2) (y0, y1, y2) W hsx hsy
      have j0 : (0 : Int) ≤ (j : Int) := by omega
      have j1 : (j : Int) < (n : Int) := by omega
      have j2 : (j : Int) < (k : Int) := by omega
      clear hc1 hc2 hx hy
      have hz : cmpV (x0, x1, x2) (y0, y1, y2) = if validV (x0, x1, x2) && validV (y0, y1, y2) then ordV (x0, x1, x2) (y0, y1, y2) else 0 := rfl
      generalize cmpV (x0, x1, x2) (y0, y1, y2) = z at HC hz
      generalize validV (x0, x1, x2) = vx at HV1 HR1 hz
      generalize validV (y0, y1, y2) = vy at HR2 hz
      generalize ordV (x0, x1, x2) (y0, y1, y2) = q at HRC hz
      cases vx
      · obtain rfl : z = 0 := hz
        clear HRC
        go_upto_region 6 with fail
        go_region
        · obtain ⟨hbW, f0, f1, f2, f3, f4, f5⟩ := tb wr #[.int .i64 x0, .int .i64 x1, .string x2] #[.int .i64 y0, .int .i64 y1, .string y2] 32 32 rfl rfl rfl rfl rfl rfl
          generalize ((wr.alloc (Obj.cells #[.int .i64 x0, .int .i64 x1, .string x2] 32)).alloc (Obj.cells #[.int .i64 y0, .int .i64 y1, .string y2] 32)).drew = W at hbW f0 f1 f2 f3 f4 f5 ⊢
          replace hL := bstep hL hbW
          clear hbW
          generalize wr.heap.size + 1 = Q2 at f0 f1 f2 f3 f4 f5 ⊢
          generalize wr.heap.size = P2 at f0 f1 f2 f3 f4 f5 ⊢
          go_upto_region 10 with (first | (go_at_call 34; (first | (with_reducible refine (HR1 _).mono ?_) | (with_reducible refine (HR2 _).mono ?_)); rintro e w5 ⟨rfl, hb⟩; replace hL := bstep hL hb; replace f0 := Go.Proofs.YtgfppajbegcaeaaDoor.Sl.cell_kept f0 hb; replace f1 := Go.Proofs.YtgfppajbegcaeaaDoor.Sl.cell_kept f1 hb; replace f2 := Go.Proofs.YtgfppajbegcaeaaDoor.Sl.cell_kept f2 hb; replace f3 := Go.Proofs.YtgfppajbegcaeaaDoor.Sl.cell_kept f3 hb; replace f4 := Go.Proofs.YtgfppajbegcaeaaDoor.Sl.cell_kept f4 hb; replace f5 := Go.Proofs.YtgfppajbegcaeaaDoor.Sl.cell_kept f5 hb; clear hb) | (go_at_call 35; (with_reducible refine (HRC _).mono ?_); rintro e w5 ⟨rfl, hb⟩; replace hL := bstep hL hb; replace f0 := Go.Proofs.YtgfppajbegcaeaaDoor.Sl.cell_kept f0 hb; replace f1 := Go.Proofs.YtgfppajbegcaeaaDoor.Sl.cell_kept f1 hb; replace f2 := Go.Proofs.YtgfppajbegcaeaaDoor.Sl.cell_kept f2 hb; replace f3 := Go.Proofs.YtgfppajbegcaeaaDoor.Sl.cell_kept f3 hb; replace f4 := Go.Proofs.YtgfppajbegcaeaaDoor.Sl.cell_kept f4 hb; replace f5 := Go.Proofs.YtgfppajbegcaeaaDoor.Sl.cell_kept f5 hb; clear hb))
          have k0 := cell_regrown f0
          have k1 := cell_regrown f1
          have k2 := cell_regrown f2
          have k3 := cell_regrown f3
          have k4 := cell_regrown f4
          have k5 := cell_regrown f5
          refine wp_region_quiet_below (by kernel_rfl) (by kernel_rfl) ?_
          repeat (go_big_quiet_step (first | (go_at_call 21; with_reducible exact Calls.regrown_of (HV1 _)) | (go_at_call 34; with_reducible exact Calls.regrown_of (HR1 _)) | (go_at_call 32; with_reducible exact Calls.regrown_of (HC _))))
          refine wpQuiet_nil ?_
          intro _ hw9
          obtain ⟨⟨dq, osq⟩, hw9⟩ := hw9
          subst hw9
          have hL2 := bstep hL (below_regrown _ dq osq)
          clear hL
          go_wp2
          go_roundw
          case rel => exact ⟨j + 1, by omega, by omega, by go_num, hL2⟩
          case measure => simp [intOf]; omega
        · obtain ⟨hbW, f0, f1, f2, f3, f4, f5⟩ := tb wr #[.int .i64 y0, .int .i64 y1, .string y2] #[.int .i64 x0, .int .i64 x1, .string x2] 32 32 rfl rfl rfl rfl rfl rfl
          generalize ((wr.alloc (Obj.cells #[.int .i64 y0, .int .i64 y1, .string y2] 32)).alloc (Obj.cells #[.int .i64 x0, .int .i64 x1, .string x2] 32)).drew = W at hbW f0 f1 f2 f3 f4 f5 ⊢
          replace hL := bstep hL hbW
          clear hbW
          generalize wr.heap.size + 1 = Q2 at f0 f1 f2 f3 f4 f5 ⊢
          generalize wr.heap.size = P2 at f0 f1 f2 f3 f4 f5 ⊢
          go_upto_region 10 with (first | (go_at_call 34; (first | (with_reducible refine (HR1 _).mono ?_) | (with_reducible refine (HR2 _).mono ?_)); rintro e w5 ⟨rfl, hb⟩; replace hL := bstep hL hb; replace f0 := Go.Proofs.YtgfppajbegcaeaaDoor.Sl.cell_kept f0 hb; replace f1 := Go.Proofs.YtgfppajbegcaeaaDoor.Sl.cell_kept f1 hb; replace f2 := Go.Proofs.YtgfppajbegcaeaaDoor.Sl.cell_kept f2 hb; replace f3 := Go.Proofs.YtgfppajbegcaeaaDoor.Sl.cell_kept f3 hb; replace f4 := Go.Proofs.YtgfppajbegcaeaaDoor.Sl.cell_kept f4 hb; replace f5 := Go.Proofs.YtgfppajbegcaeaaDoor.Sl.cell_kept f5 hb; clear hb) | (go_at_call 35; (with_reducible refine (HRC _).mono ?_); rintro e w5 ⟨rfl, hb⟩; replace hL := bstep hL hb; replace f0 := Go.Proofs.YtgfppajbegcaeaaDoor.Sl.cell_kept f0 hb; replace f1 := Go.Proofs.YtgfppajbegcaeaaDoor.Sl.cell_kept f1 hb; replace f2 := Go.Proofs.YtgfppajbegcaeaaDoor.Sl.cell_kept f2 hb; replace f3 := Go.Proofs.YtgfppajbegcaeaaDoor.Sl.cell_kept f3 hb; replace f4 := Go.Proofs.YtgfppajbegcaeaaDoor.Sl.cell_kept f4 hb; replace f5 := Go.Proofs.YtgfppajbegcaeaaDoor.Sl.cell_kept f5 hb; clear hb))
          have k0 := cell_regrown f0
          have k1 := cell_regrown f1
          have k2 := cell_regrown f2
          have k3 := cell_regrown f3
          have k4 := cell_regrown f4
          have k5 := cell_regrown f5
          refine wp_region_quiet_below (by kernel_rfl) (by kernel_rfl) ?_
          repeat (go_big_quiet_step (first | (go_at_call 21; with_reducible exact Calls.regrown_of (HV1 _)) | (go_at_call 34; with_reducible exact Calls.regrown_of (HR1 _)) | (go_at_call 32; with_reducible exact Calls.regrown_of (HC _))))
          refine wpQuiet_nil ?_
          intro _ hw9
          obtain ⟨⟨dq, osq⟩, hw9⟩ := hw9
          subst hw9
          have hL2 := bstep hL (below_regrown _ dq osq)
          clear hL
          go_wp2
          go_roundw
          case rel => exact ⟨j + 1, by omega, by omega, by go_num, hL2⟩
          case measure => simp [intOf]; omega
      · cases vy
        · obtain rfl : z = 0 := hz
          clear HRC
          go_upto_region 6 with fail
          go_region
          · obtain ⟨hbW, f0, f1, f2, f3, f4, f5⟩ := tb wr #[.int .i64 x0, .int .i64 x1, .string x2] #[.int .i64 y0, .int .i64 y1, .string y2] 32 32 rfl rfl rfl rfl rfl rfl
            generalize ((wr.alloc (Obj.cells #[.int .i64 x0, .int .i64 x1, .string x2] 32)).alloc (Obj.cells #[.int .i64 y0, .int .i64 y1, .string y2] 32)).drew = W at hbW f0 f1 f2 f3 f4 f5 ⊢
            replace hL := bstep hL hbW
            clear hbW
            generalize wr.heap.size + 1 = Q2 at f0 f1 f2 f3 f4 f5 ⊢
            generalize wr.heap.size = P2 at f0 f1 f2 f3 f4 f5 ⊢
            go_upto_region 10 with (first | (go_at_call 34; (first | (with_reducible refine (HR1 _).mono ?_) | (with_reducible refine (HR2 _).mono ?_)); rintro e w5 ⟨rfl, hb⟩; replace hL := bstep hL hb; replace f0 := Go.Proofs.YtgfppajbegcaeaaDoor.Sl.cell_kept f0 hb; replace f1 := Go.Proofs.YtgfppajbegcaeaaDoor.Sl.cell_kept f1 hb; replace f2 := Go.Proofs.YtgfppajbegcaeaaDoor.Sl.cell_kept f2 hb; replace f3 := Go.Proofs.YtgfppajbegcaeaaDoor.Sl.cell_kept f3 hb; replace f4 := Go.Proofs.YtgfppajbegcaeaaDoor.Sl.cell_kept f4 hb; replace f5 := Go.Proofs.YtgfppajbegcaeaaDoor.Sl.cell_kept f5 hb; clear hb) | (go_at_call 35; (with_reducible refine (HRC _).mono ?_); rintro e w5 ⟨rfl, hb⟩; replace hL := bstep hL hb; replace f0 := Go.Proofs.YtgfppajbegcaeaaDoor.Sl.cell_kept f0 hb; replace f1 := Go.Proofs.YtgfppajbegcaeaaDoor.Sl.cell_kept f1 hb; replace f2 := Go.Proofs.YtgfppajbegcaeaaDoor.Sl.cell_kept f2 hb; replace f3 := Go.Proofs.YtgfppajbegcaeaaDoor.Sl.cell_kept f3 hb; replace f4 := Go.Proofs.YtgfppajbegcaeaaDoor.Sl.cell_kept f4 hb; replace f5 := Go.Proofs.YtgfppajbegcaeaaDoor.Sl.cell_kept f5 hb; clear hb))
            have k0 := cell_regrown f0
            have k1 := cell_regrown f1
            have k2 := cell_regrown f2
            have k3 := cell_regrown f3
            have k4 := cell_regrown f4
            have k5 := cell_regrown f5
            refine wp_region_quiet_below (by kernel_rfl) (by kernel_rfl) ?_
            repeat (go_big_quiet_step (first | (go_at_call 21; with_reducible exact Calls.regrown_of (HV1 _)) | (go_at_call 34; with_reducible exact Calls.regrown_of (HR1 _)) | (go_at_call 32; with_reducible exact Calls.regrown_of (HC _))))
            refine wpQuiet_nil ?_
            intro _ hw9
            obtain ⟨⟨dq, osq⟩, hw9⟩ := hw9
            subst hw9
            have hL2 := bstep hL (below_regrown _ dq osq)
            clear hL
            go_wp2
            go_roundw
            case rel => exact ⟨j + 1, by omega, by omega, by go_num, hL2⟩
            case measure => simp [intOf]; omega
          · obtain ⟨hbW, f0, f1, f2, f3, f4, f5⟩ := tb wr #[.int .i64 y0, .int .i64 y1, .string y2] #[.int .i64 x0, .int .i64 x1, .string x2] 32 32 rfl rfl rfl rfl rfl rfl
            generalize ((wr.alloc (Obj.cells #[.int .i64 y0, .int .i64 y1, .string y2] 32)).alloc (Obj.cells #[.int .i64 x0, .int .i64 x1, .string x2] 32)).drew = W at hbW f0 f1 f2 f3 f4 f5 ⊢
            replace hL := bstep hL hbW
            clear hbW
            generalize wr.heap.size + 1 = Q2 at f0 f1 f2 f3 f4 f5 ⊢
            generalize wr.heap.size = P2 at f0 f1 f2 f3 f4 f5 ⊢
            go_upto_region 10 with (first | (go_at_call 34; (first | (with_reducible refine (HR1 _).mono ?_) | (with_reducible refine (HR2 _).mono ?_)); rintro e w5 ⟨rfl, hb⟩; replace hL := bstep hL hb; replace f0 := Go.Proofs.YtgfppajbegcaeaaDoor.Sl.cell_kept f0 hb; replace f1 := Go.Proofs.YtgfppajbegcaeaaDoor.Sl.cell_kept f1 hb; replace f2 := Go.Proofs.YtgfppajbegcaeaaDoor.Sl.cell_kept f2 hb; replace f3 := Go.Proofs.YtgfppajbegcaeaaDoor.Sl.cell_kept f3 hb; replace f4 := Go.Proofs.YtgfppajbegcaeaaDoor.Sl.cell_kept f4 hb; replace f5 := Go.Proofs.YtgfppajbegcaeaaDoor.Sl.cell_kept f5 hb; clear hb) | (go_at_call 35; (with_reducible refine (HRC _).mono ?_); rintro e w5 ⟨rfl, hb⟩; replace hL := bstep hL hb; replace f0 := Go.Proofs.YtgfppajbegcaeaaDoor.Sl.cell_kept f0 hb; replace f1 := Go.Proofs.YtgfppajbegcaeaaDoor.Sl.cell_kept f1 hb; replace f2 := Go.Proofs.YtgfppajbegcaeaaDoor.Sl.cell_kept f2 hb; replace f3 := Go.Proofs.YtgfppajbegcaeaaDoor.Sl.cell_kept f3 hb; replace f4 := Go.Proofs.YtgfppajbegcaeaaDoor.Sl.cell_kept f4 hb; replace f5 := Go.Proofs.YtgfppajbegcaeaaDoor.Sl.cell_kept f5 hb; clear hb))
            have k0 := cell_regrown f0
            have k1 := cell_regrown f1
            have k2 := cell_regrown f2
            have k3 := cell_regrown f3
            have k4 := cell_regrown f4
            have k5 := cell_regrown f5
            refine wp_region_quiet_below (by kernel_rfl) (by kernel_rfl) ?_
            repeat (go_big_quiet_step (first | (go_at_call 21; with_reducible exact Calls.regrown_of (HV1 _)) | (go_at_call 34; with_reducible exact Calls.regrown_of (HR1 _)) | (go_at_call 32; with_reducible exact Calls.regrown_of (HC _))))
            refine wpQuiet_nil ?_
            intro _ hw9
            obtain ⟨⟨dq, osq⟩, hw9⟩ := hw9
            subst hw9
            have hL2 := bstep hL (below_regrown _ dq osq)
            clear hL
            go_wp2
            go_roundw
            case rel => exact ⟨j + 1, by omega, by omega, by go_num, hL2⟩
            case measure => simp [intOf]; omega
        · obtain rfl : z = q := hz
          go_upto_region 6 with fail
          go_region
          · obtain ⟨hbW, f0, f1, f2, f3, f4, f5⟩ := tb wr #[.int .i64 x0, .int .i64 x1, .string x2] #[.int .i64 y0, .int .i64 y1, .string y2] 32 32 rfl rfl rfl rfl rfl rfl
            generalize ((wr.alloc (Obj.cells #[.int .i64 x0, .int .i64 x1, .string x2] 32)).alloc (Obj.cells #[.int .i64 y0, .int .i64 y1, .string y2] 32)).drew = W at hbW f0 f1 f2 f3 f4 f5 ⊢
            replace hL := bstep hL hbW
            clear hbW
            generalize wr.heap.size + 1 = Q2 at f0 f1 f2 f3 f4 f5 ⊢
            generalize wr.heap.size = P2 at f0 f1 f2 f3 f4 f5 ⊢
            go_upto_region 10 with (first | (go_at_call 34; (first | (with_reducible refine (HR1 _).mono ?_) | (with_reducible refine (HR2 _).mono ?_)); rintro e w5 ⟨rfl, hb⟩; replace hL := bstep hL hb; replace f0 := Go.Proofs.YtgfppajbegcaeaaDoor.Sl.cell_kept f0 hb; replace f1 := Go.Proofs.YtgfppajbegcaeaaDoor.Sl.cell_kept f1 hb; replace f2 := Go.Proofs.YtgfppajbegcaeaaDoor.Sl.cell_kept f2 hb; replace f3 := Go.Proofs.YtgfppajbegcaeaaDoor.Sl.cell_kept f3 hb; replace f4 := Go.Proofs.YtgfppajbegcaeaaDoor.Sl.cell_kept f4 hb; replace f5 := Go.Proofs.YtgfppajbegcaeaaDoor.Sl.cell_kept f5 hb; clear hb) | (go_at_call 35; (with_reducible refine (HRC _).mono ?_); rintro e w5 ⟨rfl, hb⟩; replace hL := bstep hL hb; replace f0 := Go.Proofs.YtgfppajbegcaeaaDoor.Sl.cell_kept f0 hb; replace f1 := Go.Proofs.YtgfppajbegcaeaaDoor.Sl.cell_kept f1 hb; replace f2 := Go.Proofs.YtgfppajbegcaeaaDoor.Sl.cell_kept f2 hb; replace f3 := Go.Proofs.YtgfppajbegcaeaaDoor.Sl.cell_kept f3 hb; replace f4 := Go.Proofs.YtgfppajbegcaeaaDoor.Sl.cell_kept f4 hb; replace f5 := Go.Proofs.YtgfppajbegcaeaaDoor.Sl.cell_kept f5 hb; clear hb))
            have k0 := cell_regrown f0
            have k1 := cell_regrown f1
            have k2 := cell_regrown f2
            have k3 := cell_regrown f3
            have k4 := cell_regrown f4
            have k5 := cell_regrown f5
            refine wp_region_quiet_below (by kernel_rfl) (by kernel_rfl) ?_
            repeat (go_big_quiet_step (first | (go_at_call 21; with_reducible exact Calls.regrown_of (HV1 _)) | (go_at_call 34; with_reducible exact Calls.regrown_of (HR1 _)) | (go_at_call 32; with_reducible exact Calls.regrown_of (HC _))))
            refine wpQuiet_nil ?_
            intro _ hw9
            obtain ⟨⟨dq, osq⟩, hw9⟩ := hw9
            subst hw9
            have hL2 := bstep hL (below_regrown _ dq osq)
            clear hL
            go_wp2
            go_roundw
            case rel => exact ⟨j + 1, by omega, by omega, by go_num, hL2⟩
            case measure => simp [intOf]; omega
          · obtain ⟨hbW, f0, f1, f2, f3, f4, f5⟩ := tb wr #[.int .i64 y0, .int .i64 y1, .string y2] #[.int .i64 x0, .int .i64 x1, .string x2] 32 32 rfl rfl rfl rfl rfl rfl
            generalize ((wr.alloc (Obj.cells #[.int .i64 y0, .int .i64 y1, .string y2] 32)).alloc (Obj.cells #[.int .i64 x0, .int .i64 x1, .string x2] 32)).drew = W at hbW f0 f1 f2 f3 f4 f5 ⊢
            replace hL := bstep hL hbW
            clear hbW
            generalize wr.heap.size + 1 = Q2 at f0 f1 f2 f3 f4 f5 ⊢
            generalize wr.heap.size = P2 at f0 f1 f2 f3 f4 f5 ⊢
            go_upto_region 10 with (first | (go_at_call 34; (first | (with_reducible refine (HR1 _).mono ?_) | (with_reducible refine (HR2 _).mono ?_)); rintro e w5 ⟨rfl, hb⟩; replace hL := bstep hL hb; replace f0 := Go.Proofs.YtgfppajbegcaeaaDoor.Sl.cell_kept f0 hb; replace f1 := Go.Proofs.YtgfppajbegcaeaaDoor.Sl.cell_kept f1 hb; replace f2 := Go.Proofs.YtgfppajbegcaeaaDoor.Sl.cell_kept f2 hb; replace f3 := Go.Proofs.YtgfppajbegcaeaaDoor.Sl.cell_kept f3 hb; replace f4 := Go.Proofs.YtgfppajbegcaeaaDoor.Sl.cell_kept f4 hb; replace f5 := Go.Proofs.YtgfppajbegcaeaaDoor.Sl.cell_kept f5 hb; clear hb) | (go_at_call 35; (with_reducible refine (HRC _).mono ?_); rintro e w5 ⟨rfl, hb⟩; replace hL := bstep hL hb; replace f0 := Go.Proofs.YtgfppajbegcaeaaDoor.Sl.cell_kept f0 hb; replace f1 := Go.Proofs.YtgfppajbegcaeaaDoor.Sl.cell_kept f1 hb; replace f2 := Go.Proofs.YtgfppajbegcaeaaDoor.Sl.cell_kept f2 hb; replace f3 := Go.Proofs.YtgfppajbegcaeaaDoor.Sl.cell_kept f3 hb; replace f4 := Go.Proofs.YtgfppajbegcaeaaDoor.Sl.cell_kept f4 hb; replace f5 := Go.Proofs.YtgfppajbegcaeaaDoor.Sl.cell_kept f5 hb; clear hb))
            have k0 := cell_regrown f0
            have k1 := cell_regrown f1
            have k2 := cell_regrown f2
            have k3 := cell_regrown f3
            have k4 := cell_regrown f4
            have k5 := cell_regrown f5
            refine wp_region_quiet_below (by kernel_rfl) (by kernel_rfl) ?_
            repeat (go_big_quiet_step (first | (go_at_call 21; with_reducible exact Calls.regrown_of (HV1 _)) | (go_at_call 34; with_reducible exact Calls.regrown_of (HR1 _)) | (go_at_call 32; with_reducible exact Calls.regrown_of (HC _))))
            refine wpQuiet_nil ?_
            intro _ hw9
            obtain ⟨⟨dq, osq⟩, hw9⟩ := hw9
            subst hw9
            have hL2 := bstep hL (below_regrown _ dq osq)
            clear hL
            go_wp2
            go_roundw
            case rel => exact ⟨j + 1, by omega, by omega, by go_num, hL2⟩
            case measure => simp [intOf]; omega
    · have HRA := fun (W : World) (h : Below w.heap.size w W) => rall_any a _ W (by have := HE.out; omega) HZ.out.1 (HS.out.1.below h)
      have HRB := fun (W : World) (h : Below w.heap.size w W) => rall_any b _ W (by have := HE.out; omega) HZ.out.2 (HS.out.2.below h)
      have HRO := fun (W : World) (h : Below w.heap.size w W) => rorder_any a b _ _ W (by have := HE.out; omega) (by have := HE.out; omega) HZ.out.1 HZ.out.2 (HS.out.1.below h) (HS.out.2.below h)
      have HO := fun (W : World) (h : Below w.heap.size w W) => order_lists a b _ _ W (by have := HE.out; omega) (by have := HE.out; omega) (HS.out.1.below h) (HS.out.2.below h)
      have HSm := fun (W : World) (h : Below w.heap.size w W) => same_any a b _ _ W (by have := HE.out; omega) (by have := HE.out; omega) (HS.out.1.below h) (HS.out.2.below h)
      have HRS := fun (W : World) (h : Below w.heap.size w W) => rsame_any a b _ _ W (by have := HE.out; omega) (by have := HE.out; omega) (HS.out.1.below h) (HS.out.2.below h)
      have hz : cmpLs a b = if allV a && allV b then ordL a b else 0 := rfl
      generalize cmpLs a b = z at HO hz
      generalize allV a = va at HRA hz
      generalize allV b = vb at HRB hz
      generalize ordL a b = q at HRO hz
      generalize decide (a = b) = sm at HSm HRS
      cases va
      · obtain rfl : z = 0 := hz
        cases sm
        · go_wp2_with (first | (go_at_call 15; (first | (with_reducible refine (HRA _ hL).mono ?_) | (with_reducible refine (HRB _ hL).mono ?_)); rintro e w5 ⟨rfl, hb⟩; replace hL := bstep hL hb; clear hb) | (go_at_call 36; (with_reducible refine (HRO _ hL).mono ?_); rintro e w5 ⟨rfl, hb⟩; replace hL := bstep hL hb; clear hb) | (go_at_call 22; (with_reducible refine (HO _ hL).mono ?_); rintro e w5 ⟨rfl, hb⟩; replace hL := bstep hL hb; clear hb) | (go_at_call 23; (with_reducible refine (HSm _ hL).mono ?_); rintro e w5 ⟨rfl, hb⟩; replace hL := bstep hL hb; clear hb) | (go_at_call 37; (with_reducible refine (HRS _ hL).mono ?_); rintro e w5 ⟨rfl, hb⟩; replace hL := bstep hL hb; clear hb))
          go_ret
          exact ⟨by simp, hL⟩
        · go_wp2_with (first | (go_at_call 15; (first | (with_reducible refine (HRA _ hL).mono ?_) | (with_reducible refine (HRB _ hL).mono ?_)); rintro e w5 ⟨rfl, hb⟩; replace hL := bstep hL hb; clear hb) | (go_at_call 36; (with_reducible refine (HRO _ hL).mono ?_); rintro e w5 ⟨rfl, hb⟩; replace hL := bstep hL hb; clear hb) | (go_at_call 22; (with_reducible refine (HO _ hL).mono ?_); rintro e w5 ⟨rfl, hb⟩; replace hL := bstep hL hb; clear hb) | (go_at_call 23; (with_reducible refine (HSm _ hL).mono ?_); rintro e w5 ⟨rfl, hb⟩; replace hL := bstep hL hb; clear hb) | (go_at_call 37; (with_reducible refine (HRS _ hL).mono ?_); rintro e w5 ⟨rfl, hb⟩; replace hL := bstep hL hb; clear hb))
          go_ret
          exact ⟨by simp, hL⟩
      · cases vb
        · obtain rfl : z = 0 := hz
          cases sm
          · go_wp2_with (first | (go_at_call 15; (first | (with_reducible refine (HRA _ hL).mono ?_) | (with_reducible refine (HRB _ hL).mono ?_)); rintro e w5 ⟨rfl, hb⟩; replace hL := bstep hL hb; clear hb) | (go_at_call 36; (with_reducible refine (HRO _ hL).mono ?_); rintro e w5 ⟨rfl, hb⟩; replace hL := bstep hL hb; clear hb) | (go_at_call 22; (with_reducible refine (HO _ hL).mono ?_); rintro e w5 ⟨rfl, hb⟩; replace hL := bstep hL hb; clear hb) | (go_at_call 23; (with_reducible refine (HSm _ hL).mono ?_); rintro e w5 ⟨rfl, hb⟩; replace hL := bstep hL hb; clear hb) | (go_at_call 37; (with_reducible refine (HRS _ hL).mono ?_); rintro e w5 ⟨rfl, hb⟩; replace hL := bstep hL hb; clear hb))
            go_ret
            exact ⟨by simp, hL⟩
          · go_wp2_with (first | (go_at_call 15; (first | (with_reducible refine (HRA _ hL).mono ?_) | (with_reducible refine (HRB _ hL).mono ?_)); rintro e w5 ⟨rfl, hb⟩; replace hL := bstep hL hb; clear hb) | (go_at_call 36; (with_reducible refine (HRO _ hL).mono ?_); rintro e w5 ⟨rfl, hb⟩; replace hL := bstep hL hb; clear hb) | (go_at_call 22; (with_reducible refine (HO _ hL).mono ?_); rintro e w5 ⟨rfl, hb⟩; replace hL := bstep hL hb; clear hb) | (go_at_call 23; (with_reducible refine (HSm _ hL).mono ?_); rintro e w5 ⟨rfl, hb⟩; replace hL := bstep hL hb; clear hb) | (go_at_call 37; (with_reducible refine (HRS _ hL).mono ?_); rintro e w5 ⟨rfl, hb⟩; replace hL := bstep hL hb; clear hb))
            go_ret
            exact ⟨by simp, hL⟩
        · obtain rfl : z = q := hz
          cases sm
          · go_wp2_with (first | (go_at_call 15; (first | (with_reducible refine (HRA _ hL).mono ?_) | (with_reducible refine (HRB _ hL).mono ?_)); rintro e w5 ⟨rfl, hb⟩; replace hL := bstep hL hb; clear hb) | (go_at_call 36; (with_reducible refine (HRO _ hL).mono ?_); rintro e w5 ⟨rfl, hb⟩; replace hL := bstep hL hb; clear hb) | (go_at_call 22; (with_reducible refine (HO _ hL).mono ?_); rintro e w5 ⟨rfl, hb⟩; replace hL := bstep hL hb; clear hb) | (go_at_call 23; (with_reducible refine (HSm _ hL).mono ?_); rintro e w5 ⟨rfl, hb⟩; replace hL := bstep hL hb; clear hb) | (go_at_call 37; (with_reducible refine (HRS _ hL).mono ?_); rintro e w5 ⟨rfl, hb⟩; replace hL := bstep hL hb; clear hb))
            go_ret
            exact ⟨by simp, hL⟩
          · go_wp2_with (first | (go_at_call 15; (first | (with_reducible refine (HRA _ hL).mono ?_) | (with_reducible refine (HRB _ hL).mono ?_)); rintro e w5 ⟨rfl, hb⟩; replace hL := bstep hL hb; clear hb) | (go_at_call 36; (with_reducible refine (HRO _ hL).mono ?_); rintro e w5 ⟨rfl, hb⟩; replace hL := bstep hL hb; clear hb) | (go_at_call 22; (with_reducible refine (HO _ hL).mono ?_); rintro e w5 ⟨rfl, hb⟩; replace hL := bstep hL hb; clear hb) | (go_at_call 23; (with_reducible refine (HSm _ hL).mono ?_); rintro e w5 ⟨rfl, hb⟩; replace hL := bstep hL hb; clear hb) | (go_at_call 37; (with_reducible refine (HRS _ hL).mono ?_); rintro e w5 ⟨rfl, hb⟩; replace hL := bstep hL hb; clear hb))
            go_ret
            exact ⟨by simp, hL⟩
theorem valueOrders_walk (va : Value) (a : List V3) (vb : Value) (b : List V3) (m : Int) (w : World) (hm : w.cell? ⟨0, 0, none⟩ = some (.int .i64 m)) (hs : Vs w va a) (hl : a.length ≤ 9223372036854775807) (hg : ∀ u ∈ a, GoodV u) (hs2 : Vs w vb b) (hl2 : b.length ≤ 9223372036854775807) (hg2 : ∀ u ∈ b, GoodV u) :
    Calls Tryd.prog 9 #[va, vb] w fun e w' => e = .returned (.bool true) ∧ Below w.heap.size w w' := by
  obtain ⟨a1, c1, rfl⟩ := hs.form
  obtain ⟨a2, c2, rfl⟩ := hs2.form
  by_cases h1 : 50 < a.length
  · exact vo_long a1 a2 _ _ c1 c2 m w hm (by omega)
  by_cases h2 : 50 < b.length
  · exact vo_long2 a1 a2 _ _ c1 c2 m w hm (by omega) (by omega)
  exact vo_go a b a1 a2 _ _ c1 c2 m w hm (by omega) (by omega) rfl rfl hs hs2 hg hg2
end Go.Proofs.YtgfppajbegcaeaaDoor.Va
