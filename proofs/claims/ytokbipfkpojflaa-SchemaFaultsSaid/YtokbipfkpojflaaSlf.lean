/-
  The walk of the law SchemaFaults (layer 34).
-/
import Derived.Test.YtokbipfkpojflaaScG
import Derived.Test.YtokbipfkpojflaaSx
import Derived.Test.YtokbipfkpojflaaSop
set_option linter.unusedSimpArgs false
set_option linter.unusedVariables false
namespace Go.Proofs.Ytokbipfkpojflaa.Sc
open Go Go.RowKit Go.ChangeShapes Go.WideShapes Go.Proofs.Ytokbipfkpojflaa.Sl Go.Lib
open Go.Proofs.Ytokbipfkpojflaa.Va (Cl flatC Cs)

set_option maxRecDepth 20000 in
set_option maxHeartbeats 2000000 in
theorem schemaFaults_walk (v : Value) (l : List Sch) (w : World) (hs : LsAt w v l) (hl : l.length ≤ 9223372036854775807) (hg : ∀ s ∈ l, szS s) : Calls Try.prog 3 #[v] w fun e w' => e = .returned (.bool true) ∧ Below w.heap.size w w' := by
  have HG := fun W (h : Below w.heap.size w W) => great_any l v W (hs.below h)
  have HA := fun W (h : Below w.heap.size w W) => all_any l v W (hs.below h)
  have HRA := fun W (h : Below w.heap.size w W) => rall_any l v W (hs.below h)
  obtain ⟨a, c, rfl, _⟩ := Nest.form hs
  obtain ⟨n, hn⟩ : ∃ n, n = l.length := ⟨_, rfl⟩
  have HN := Lib.hid hn
  have HS := Lib.hid hs
  rw [← hn] at HG HA HRA hl ⊢
  cases hgl : grL l
  · have hn12 : n ≤ 12 := by
      unfold grL at hgl
      simp only [Bool.or_eq_false_iff, decide_eq_false_iff_not] at hgl
      omega
    rw [hgl] at HG
    generalize (allS l).1 = A1 at HA HRA
    generalize (allS l).2 = A2 at HA HRA
    clear hs hn hgl hg
    go_enter Try.func3, Try.ntmps3
    go_upto_region 5 with (first | (go_at_call 10; (with_reducible refine (awake_any _).mono ?_); rintro e w1 ⟨rfl, hb1⟩) | (go_at_call 11; (with_reducible refine (HG _ hb1).mono ?_); rintro e w2 ⟨rfl, hb2⟩; have hw2 := bstep hb1 hb2))
    go_wp2
    go_loopw [15] (fun i wr => ∃ k : Nat, k ≤ n ∧ i = .int .i64 k ∧ Below w.heap.size w wr) (fun i _ => n - (intOf i).toNat)
    case atStart => exact ⟨0, Nat.zero_le _, rfl, hw2⟩
    case round =>
      obtain ⟨k, hk, rfl, hR⟩ := hrel
      by_cases hlt : k < n
      · obtain ⟨g, off, cp, e1, hc⟩ := ls_get (HN.out ▸ HS.out) (by rw [← HN.out]; omega)
        simp only [Value.slice.injEq] at e1
        obtain ⟨rfl, _, rfl⟩ := e1
        obtain ⟨y, ht⟩ : ∃ t, l[k]? = some t := ⟨_, List.getElem?_eq_getElem (by rw [← HN.out]; exact hlt)⟩
        obtain ⟨b1, d1, b2, d2, hcs, hfs, z0, z1, z2, z3⟩ := hc k y ht
        have x0 := Go.Proofs.Ytokbipfkpojflaa.Sl.cell_kept z0 hR
        have x1 := Go.Proofs.Ytokbipfkpojflaa.Sl.cell_kept z1 hR
        have x2 := Go.Proofs.Ytokbipfkpojflaa.Sl.cell_kept z2 hR
        have x3 := Go.Proofs.Ytokbipfkpojflaa.Sl.cell_kept z3 hR
        have k0 : (0 : Int) ≤ (k : Int) := by omega
        have k1 : (k : Int) < (n : Int) := by omega
        have HV := fun W (h : Below w.heap.size w W) => valid_any y b1 b2 d1 d2 W (hcs.below h) (hfs.below (fun r x hx => hx.below h) h)
        have HRV := fun W (h : Below w.heap.size w W) => rvalid_any y b1 b2 d1 d2 W (hcs.below h) (hfs.below (fun r x hx => hx.below h) h)
        generalize vldS y = vy at HV HRV
        generalize y.cols.length = q1 at *
        generalize y.frn.length = q2 at *
        generalize y.name = nm at *
        generalize y.key = ky at *
        clear hc ht hcs hfs z0 z1 z2 z3
        go_upto_region 8 with fail
        obtain ⟨W2, hW2⟩ : ∃ W2, wr.alloc (.cells #[.string nm, .slice b1 q1 d1, .int .i64 ky, .slice b2 q2 d2] 28) = W2 := ⟨_, rfl⟩
        obtain ⟨hL2, hlt2, p0, p1, p2, p3⟩ := box4n hW2
        rw [hW2]
        clear hW2 x0 x1 x2 x3
        have hw3 := bstep hR hL2
        have g0 := cell_regrown p0
        have g1 := cell_regrown p1
        have g2 := cell_regrown p2
        have g3 := cell_regrown p3
        refine wp_region_quiet_below (by kernel_rfl) (by kernel_rfl) ?_
        repeat (go_big_quiet_step (first | (go_at_call 12; with_reducible exact Calls.regrown_of (HV _ (bstep hw3 (below_regrown _ _ _)))) | (go_at_call 13; with_reducible exact Calls.regrown_of (HRV _ (bstep hw3 (below_regrown _ _ _))))))
        refine wpQuiet_nil ?_
        intro _ hw9
        obtain ⟨⟨dq, osq⟩, hw9⟩ := hw9
        subst hw9
        have hL5 := bstep hw3 (below_regrown W2 dq osq)
        cases vy <;>
        · go_wp2
          go_roundw
          case rel => exact ⟨k + 1, by omega, by go_num, hL5⟩
          case measure => simp [intOf]; omega
      · go_wp2_with (first | (go_at_call 14; (with_reducible refine (HA _ hR).mono ?_); rintro e w3 ⟨rfl, hb3⟩; have hw3 := bstep hR hb3) | (go_at_call 15; (with_reducible refine (HRA _ hw3).mono ?_); rintro e w4 ⟨rfl, hb4⟩; have hw4 := bstep hw3 hb4))
        go_ret
        exact ⟨by first | rfl | simp, hw4⟩
  · rw [hgl] at HG
    clear hs hn hgl hg HA HRA
    go_enter Try.func3, Try.ntmps3
    go_wp2_with (first | (go_at_call 10; (with_reducible refine (awake_any _).mono ?_); rintro e w1 ⟨rfl, hb1⟩) | (go_at_call 11; (with_reducible refine (HG _ hb1).mono ?_); rintro e w2 ⟨rfl, hb2⟩; have hw2 := bstep hb1 hb2))
    go_ret
    exact ⟨rfl, hw2⟩
end Go.Proofs.Ytokbipfkpojflaa.Sc
