/-
  The walk of the law NetworkDecides (layer 46).
-/
import Derived.Test.YtoadihclmnjjnaaNxW
import Derived.Test.YtoadihclmnjjnaaNxG
import Derived.Test.YtoadihclmnjjnaaNwZ
set_option linter.unusedSimpArgs false
set_option linter.unusedVariables false
set_option maxRecDepth 100000
namespace Go.Proofs.Ytoadihclmnjjnaa.Nw
open Go Go.RowKit Go.ChangeShapes Go.WideShapes Go.Proofs.Ytoadihclmnjjnaa.Sl Go.Proofs.Ytoadihclmnjjnaa.Al Go.Lib

theorem rcon3 (n : Nat) (l : List Rl) (v : Value) (w : World) (hn : 0 < n) (hn8 : n ≤ 8) (hs : Rs w v l) (hl : l.length ≤ 1000000) (hok : ∀ r ∈ l, OkR n r) : Calls Try.prog 16 #[.int .i64 (n : Int), v] w (RnE (SatL n l) w) := by
  obtain ⟨ad, c, rfl⟩ := hs.form
  exact rconsistent_any n l ad _ c w hn hn8 rfl hs hl hok
/-- Spans, where the network can be satisfied, and where not. -/
theorem spans_yes {n : Nat} {l : List Rl} {s : Value} {w : World} (hsat : Sat n (matN l)) (h : Calls Try.prog 36 #[.int .i64 (n : Int), s] w (SpE n l w)) : Calls Try.prog 36 #[.int .i64 (n : Int), s] w fun e w' => ∃ a c, e = .returned (.tuple #[.slice a n c, .int .i64 0]) ∧ Below w.heap.size w w' := h.mono (by
  rintro e w' ⟨hb, ⟨X, v, _, _, rfl, hP⟩ | ⟨hn, _⟩⟩
  · obtain ⟨a, c, rfl⟩ := hP.form
    rw [spnL_len]
    exact ⟨a, c, rfl, hb⟩
  · exact (hn hsat).elim)
theorem spans_no {n : Nat} {l : List Rl} {s : Value} {w : World} (hsat : ¬ Sat n (matN l)) (h : Calls Try.prog 36 #[.int .i64 (n : Int), s] w (SpE n l w)) : Calls Try.prog 36 #[.int .i64 (n : Int), s] w fun e w' => e = .returned (.tuple #[.slice none 0 0, .int .i64 17]) ∧ Below w.heap.size w w' := h.mono (by
  rintro e w' ⟨hb, ⟨X, v, h1, h2, _, _⟩ | ⟨_, rfl⟩⟩
  · exact (hsat ⟨X, h1, h2⟩).elim
  · exact ⟨rfl, hb⟩)
theorem scen_yes {n : Nat} {l : List Rl} {s : Value} {w : World} (hsat : Sat n (matN l)) (h : Calls Try.prog 35 #[.int .i64 (n : Int), s] w fun e w' => ∃ v ok, e = .returned (.tuple #[v, .int .i64 (if ok = true then 0 else 17)]) ∧ ScE n l w v ok w') :
    Calls Try.prog 35 #[.int .i64 (n : Int), s] w fun e w' => ∃ B R X c, e = .returned (.tuple #[.slice (some ⟨B, 0, none⟩) n c, .int .i64 0]) ∧ Mx w' B R n X ∧ Sc n X ∧ LeM n X (matN l) ∧ Below w.heap.size w w' := h.mono (by
  rintro e w' ⟨v, ok, rfl, hsc⟩
  obtain rfl : ok = true := hsc.sat.2 hsat
  obtain ⟨B, R, X, c, rfl, h1, h2, h3⟩ := hsc.2.1 rfl
  exact ⟨B, R, X, c, rfl, h1, h2, h3, hsc.1⟩)
theorem scen_no {n : Nat} {l : List Rl} {s : Value} {w : World} (hsat : ¬ Sat n (matN l)) (h : Calls Try.prog 35 #[.int .i64 (n : Int), s] w fun e w' => ∃ v ok, e = .returned (.tuple #[v, .int .i64 (if ok = true then 0 else 17)]) ∧ ScE n l w v ok w') :
    Calls Try.prog 35 #[.int .i64 (n : Int), s] w fun e w' => e = .returned (.tuple #[.slice none 0 0, .int .i64 17]) ∧ Below w.heap.size w w' := h.mono (by
  rintro e w' ⟨v, ok, rfl, hsc⟩
  obtain rfl : ok = false := Bool.eq_false_iff.2 (fun h => hsat (hsc.sat.1 h))
  obtain ⟨rfl, _⟩ := hsc.2.2 rfl
  exact ⟨rfl, hsc.1⟩)
set_option maxHeartbeats 8000000 in
theorem networkDecides_walk (n : Int) (v : Value) (l : List Rl) (w : World) (hn : (Lit.int .i64 n).wf = true) (hs : Rs w v l) (hg : ∀ r ∈ l, FitR r) : Calls Try.prog 8 #[.int .i64 n, v] w fun e w' => e = .returned (.bool true) ∧ Below w.heap.size w w' := by
  obtain ⟨ad, c, rfl⟩ := hs.form
  obtain ⟨q, hq⟩ : ∃ q, q = l.length := ⟨_, rfl⟩
  have HQ := Lib.hid hq
  rw [← hq] at hs ⊢
  have HG := fun W => great_any n ad q c W
  have HRV := fun W (h : Below w.heap.size w W) => rvalid_any n l _ W (hs.below h)
  have hL := Below.refl w.heap.size w
  clear hq hn
  cases hgl : grN n q
  · rw [hgl] at HG
    cases hv : vldN n l
    · rw [hv] at HRV
      have HC := fun W (h : Below w.heap.size w W) => consistent_bad n l _ W (hs.below h) hv
      have HS := fun W (h : Below w.heap.size w W) => scen_bad n l _ W (hs.below h) hv
      have HP := fun W (h : Below w.heap.size w W) => spans_bad n l _ W (hs.below h) hv
      clear hs hgl hg hv
      go_enter Try.func8, Try.ntmps8
      go_wp2_with (first | (go_at_call 12; (with_reducible refine (awake_any _).mono ?_); rintro e w1 ⟨rfl, hb⟩; replace hL := bstep hL hb; clear hb) | (go_at_call 13; (with_reducible refine (HG _).mono ?_); rintro e w2 ⟨rfl, rfl⟩) | (go_at_call 32; (with_reducible refine (HC _ hL).mono ?_); rintro e w3 ⟨rfl, hb⟩; replace hL := bstep hL hb; clear hb) | (go_at_call 35; (with_reducible refine (HS _ hL).mono ?_); rintro e w4 ⟨rfl, hb⟩; replace hL := bstep hL hb; clear hb) | (go_at_call 36; (with_reducible refine (HP _ hL).mono ?_); rintro e w5 ⟨rfl, hb⟩; replace hL := bstep hL hb; clear hb) | (go_at_call 15; (with_reducible refine (HRV _ hL).mono ?_); rintro e w6 ⟨rfl, rfl⟩))
      go_ret
      exact ⟨rfl, hL⟩
    · rw [hv] at HRV
      obtain ⟨k, rfl, k0, k8, l200, hok⟩ := vld_ok hv
      have HSI := Lib.hid (sat_iff hok)
      have HR := fun W (h : Below w.heap.size w W) => rcon3 k l _ W k0 k8 (hs.below h) (by omega) hok
      by_cases hsat : Sat k (matN l)
      · have HC := fun W (h : Below w.heap.size w W) => consistent_ok k l _ W (hs.below h) hv
        have HS := fun W (h : Below w.heap.size w W) => scen_yes hsat (scen_ok k l _ W (hs.below h) hv)
        have HP := fun W (h : Below w.heap.size w W) => spans_yes hsat (spans_ok k l _ W (hs.below h) hv)
        have HSAT := Lib.hid hsat
        clear hs hgl hg hv hok hsat
        go_enter Try.func8, Try.ntmps8
        go_wp2_with (first | (go_at_call 12; (with_reducible refine (awake_any _).mono ?_); rintro e w1 ⟨rfl, hb⟩; replace hL := bstep hL hb; clear hb) | (go_at_call 13; (with_reducible refine (HG _).mono ?_); rintro e w2 ⟨rfl, rfl⟩) | (go_at_call 32; (with_reducible refine (HC _ hL).mono ?_); rintro e w3 ⟨b, rfl, hbi, hb⟩; obtain rfl : b = true := hbi.2 HSAT.out; replace hL := bstep hL hb; clear hb hbi) | (go_at_call 35; (with_reducible refine (HS _ hL).mono ?_); rintro e w4 ⟨B, R, X, c4, rfl, hX, _, _, hb⟩; replace hL := bstep hL hb; clear hb) | (go_at_call 36; (with_reducible refine (HP _ hL).mono ?_); rintro e w5 ⟨a5, c5, rfl, hb⟩; replace hX := hX.below hb; replace hL := bstep hL hb; clear hb) | (go_at_call 15; (with_reducible refine (HRV _ hL).mono ?_); rintro e w6 ⟨rfl, rfl⟩) | (go_at_call 16; (with_reducible refine (HR _ hL).mono ?_); rintro e w7 ⟨b, rfl, hbi, hb⟩; obtain rfl : b = true := hbi.2 (HSI.out.1 HSAT.out); replace hX := hX.below hb; replace hL := bstep hL hb; clear hb hbi) | (go_at_call 34; (with_reducible refine (lmatrix_any k B c4 R X _ (by omega) hX).mono ?_); rintro e w8 ⟨rfl, hb⟩; replace hL := bstep hL hb; clear hb))
        go_ret
        exact ⟨rfl, hL⟩
      · have HC := fun W (h : Below w.heap.size w W) => consistent_ok k l _ W (hs.below h) hv
        have HS := fun W (h : Below w.heap.size w W) => scen_no hsat (scen_ok k l _ W (hs.below h) hv)
        have HP := fun W (h : Below w.heap.size w W) => spans_no hsat (spans_ok k l _ W (hs.below h) hv)
        have HSAT := Lib.hid hsat
        clear hs hgl hg hv hok hsat
        go_enter Try.func8, Try.ntmps8
        go_wp2_with (first | (go_at_call 12; (with_reducible refine (awake_any _).mono ?_); rintro e w1 ⟨rfl, hb⟩; replace hL := bstep hL hb; clear hb) | (go_at_call 13; (with_reducible refine (HG _).mono ?_); rintro e w2 ⟨rfl, rfl⟩) | (go_at_call 32; (with_reducible refine (HC _ hL).mono ?_); rintro e w3 ⟨b, rfl, hbi, hb⟩; obtain rfl : b = false := Bool.eq_false_iff.2 (fun h => HSAT.out (hbi.1 h)); replace hL := bstep hL hb; clear hb hbi) | (go_at_call 35; (with_reducible refine (HS _ hL).mono ?_); rintro e w4 ⟨rfl, hb⟩; replace hL := bstep hL hb; clear hb) | (go_at_call 36; (with_reducible refine (HP _ hL).mono ?_); rintro e w5 ⟨rfl, hb⟩; replace hL := bstep hL hb; clear hb) | (go_at_call 15; (with_reducible refine (HRV _ hL).mono ?_); rintro e w6 ⟨rfl, rfl⟩) | (go_at_call 16; (with_reducible refine (HR _ hL).mono ?_); rintro e w7 ⟨b, rfl, hbi, hb⟩; obtain rfl : b = false := Bool.eq_false_iff.2 (fun h => HSAT.out (HSI.out.2 (hbi.1 h))); replace hL := bstep hL hb; clear hb hbi))
        go_ret
        exact ⟨rfl, hL⟩
  · rw [hgl] at HG
    clear hs hgl hg HRV
    go_enter Try.func8, Try.ntmps8
    go_wp2_with (first | (go_at_call 12; (with_reducible refine (awake_any _).mono ?_); rintro e w1 ⟨rfl, hb⟩; replace hL := bstep hL hb; clear hb) | (go_at_call 13; (with_reducible refine (HG _).mono ?_); rintro e w2 ⟨rfl, rfl⟩))
    go_ret
    exact ⟨rfl, hL⟩
end Go.Proofs.Ytoadihclmnjjnaa.Nw
