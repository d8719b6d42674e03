/-
  The walks of the reference of layer 11: Singles, Inverse, Convex.
-/
import Derived.Test.YtmkgddgdeffllaaCmp
import Derived.Test.YtmkgddgdeffllaaEq
set_option linter.unusedSimpArgs false
set_option linter.unusedVariables false
namespace Go.Proofs.Ytmkgddgdeffllaa.Al
open Go Go.RowKit Go.Proofs.Ytmkgddgdeffllaa.Bt Go.Proofs.Ytmkgddgdeffllaa.Sl

theorem rinverse_none (s : Int) (w : World) (h : isSetB s = false) : Calls Try.prog 28 #[.int .i64 s] w fun e w' => e = .returned (.int .i64 (-1)) ∧ Below w.heap.size w w' := by
  go_enter Try.func28, Try.ntmps28
  go_wp2_with (go_at_call 35; ((with_reducible refine (rIsSet_any s _).mono ?_); rintro e w1 ⟨rfl, rfl⟩))
  go_ret
  exact ⟨rfl, by go_grown⟩
theorem rinverse_set (m : Nat) (hm : m < 8192) (w : World) : Calls Try.prog 28 #[.int .i64 (m : Int)] w fun e w' => e = .returned (.int .i64 ((invN m : Nat) : Int)) ∧ Below w.heap.size w w' := by
  have his : isSetB (m : Int) = true := by simp [isSetB]; omega
  have hfin : invTo (singTo m 13) = invN m := rfl
  go_enter Try.func28, Try.ntmps28
  go_wp2_with (go_at_call 35; ((with_reducible refine (rIsSet_any (m : Int) _).mono ?_); rintro e w1 ⟨rfl, rfl⟩))
  go_loopw [3, 4] (fun o i wr => ∃ k : Nat, k ≤ 13 ∧ i = .int .i64 k ∧ o = .int .i64 ((invTo (singTo m k) : Nat) : Int) ∧ w = wr) (fun _ i _ => 13 - (intOf i).toNat)
  case atStart => exact ⟨0, by omega, rfl, rfl, rfl⟩
  case round =>
    obtain ⟨k, hk, rfl, rfl, rfl⟩ := hrel
    by_cases hlt : k < 13
    · have g1 : decide ((k : Int) ≤ 12) = true := by simp; omega
      have hs := singTo_step m k hlt
      have hh := rhas_any m k hm (by omega)
      have hw12 : IntKind.i64.wrap (12 - (k : Int)) = 12 - (k : Int) := IntWalk.i64_in _ (by omega)
      have i0 : (0 : Int) ≤ (k : Int) := by omega
      have i1 : (k : Int) ≤ 12 := by omega
      have hp := wrap_pw (12 - k) (by omega)
      cases hb : m.testBit k
      · rw [hb, if_neg (by simp), List.append_nil] at hs
        rw [hb] at hh
        have HS := Lib.hid hs
        clear hs
        go_wp2_with (go_at_call 37; ((with_reducible refine (hh _).mono ?_); rintro e w1 ⟨rfl, rfl⟩))
        go_roundw
        case rel => exact ⟨k + 1, by omega, by go_num, by rw [HS.out], by trivial⟩
        case measure => simp [intOf]; omega
      · rw [hb, if_pos rfl] at hs
        rw [hb] at hh
        have ho : bits .or .i64 ((invTo (singTo m k) : Nat) : Int) ((pw (12 - k) : Nat) : Int) = ((invTo (singTo m (k + 1)) : Nat) : Int) := by
          rw [bits_or _ _ (by have := invTo_lt (singTo m k); omega) (by have := pow_lt (12 - k) (by omega); unfold pw; omega), hs, invTo_snoc]; rfl
        have HS := Lib.hid hs
        clear hs
        go_wp2_with (go_at_call 37; ((with_reducible refine (hh _).mono ?_); rintro e w1 ⟨rfl, rfl⟩))
        go_roundw
        case rel => exact ⟨k + 1, by omega, by go_num, rfl, by trivial⟩
        case measure => simp [intOf]; omega
    · obtain rfl : k = 13 := by omega
      rw [hfin]
      go_wp2
      go_ret
      exact ⟨rfl, Below.refl _ _⟩
theorem rinvs_any (a : Int) (w : World) : Calls Try.prog 28 #[.int .i64 a] w fun e w' => e = .returned (.int .i64 (invB a)) ∧ Below w.heap.size w w' := by
  unfold invB
  cases h1 : isSetB a
  · exact rinverse_none a w h1
  obtain ⟨x, rfl⟩ : ∃ x : Nat, a = x := ⟨a.toNat, by simp [isSetB] at h1; omega⟩
  exact rinverse_set x (by simp [isSetB] at h1; omega) w

theorem rsingles_none (s : Int) (w : World) (h : isSetB s = false) : Calls Try.prog 30 #[.int .i64 s] w fun e w' => e = .returned (.slice none 0 0) ∧ Below w.heap.size w w' := by
  go_enter Try.func30, Try.ntmps30
  go_wp2
  go_loopw [3, 4] (fun v i wr => v = .slice none 0 0 ∧ i = .int .i64 0 ∧ w = wr) (fun _ _ _ => 0)
  case atStart => exact ⟨rfl, rfl, rfl⟩
  case round =>
    obtain ⟨rfl, rfl, rfl⟩ := hrel
    go_wp2_with (go_at_call 35; ((with_reducible refine (rIsSet_any s _).mono ?_); rintro e w1 ⟨rfl, rfl⟩))
    go_ret
    exact ⟨rfl, by go_grown⟩
set_option maxHeartbeats 1000000 in
theorem rsingles_set (m : Nat) (hm : m < 8192) (w : World) : Calls Try.prog 30 #[.int .i64 (m : Int)] w (SomeInts (singF m) w) := by
  obtain ⟨i0, hi, hz0, hz1, hz2⟩ := info_parts info_int
  have his : isSetB (m : Int) = true := by simp [isSetB]; omega
  go_enter Try.func30, Try.ntmps30
  go_wp2
  go_loopw [3, 4] (fun v i wr => ∃ k : Nat, k ≤ 13 ∧ i = .int .i64 k ∧ wr.ownsRow w.heap.size 3 1 v (singTo m k).length ((singTo m k).map relV) ∧ Below w.heap.size w wr) (fun _ i _ => 13 - (intOf i).toNat)
  case atStart => exact ⟨0, by omega, rfl, World.ownsRow_nil _ _ _ _, Below.refl _ _⟩
  case round =>
    obtain ⟨wo, rfl⟩ : ∃ wo : World, wo = wr := ⟨_, rfl⟩
    obtain ⟨k, hk, rfl, hown, hL⟩ := hrel
    by_cases hlt : k < 13
    · have g1 : decide ((k : Int) ≤ 12) = true := by simp; omega
      have hs := singTo_step m k hlt
      have hh := rhas_any m k hm (by omega)
      have hlen := singTo_len m k
      cases hb : m.testBit k
      · rw [hb, if_neg (by simp), List.append_nil] at hs
        rw [hb] at hh
        have HS := Lib.hid hs
        clear hs
        go_wp2_with (first | (go_at_call 37; ((with_reducible refine (hh _).mono ?_); rintro e w1 ⟨rfl, rfl⟩)) | (go_at_call 35; ((with_reducible refine (rIsSet_any (m : Int) _).mono ?_); rintro e w1 ⟨rfl, rfl⟩)))
        go_roundw
        case rel => exact ⟨k + 1, by omega, by go_num, by rw [HS.out]; exact hown, hL⟩
        case measure => simp [intOf]; omega
      · rw [hb, if_pos rfl] at hs
        rw [hb] at hh
        have HS := Lib.hid hs
        clear hs
        go_wp2_with (first | (go_at_call 37; ((with_reducible refine (hh _).mono ?_); rintro e w1 ⟨rfl, rfl⟩)) | (go_at_call 35; ((with_reducible refine (rIsSet_any (m : Int) _).mono ?_); rintro e w1 ⟨rfl, rfl⟩)) | (at_builtin; go_must (refine wpList_app1 hL rfl (.tmp 16) (.tmp 18) 38 rfl 3 Try.underlying38 hi hz0 hz1 hz2 rfl (by decide) u3 (singTo m k).length ((singTo m k).map relV) rfl [.int .i64 (k : Int)] 3 hown rfl (by simp) rfl (by intro u hu; simp at hu; rcases hu with rfl; rfl) (by unfold maxLen; omega) (by omega) ?_); intro g cap w1 hown1 hL1))
        go_roundw
        case rel =>
          have R : w1.ownsRow w.heap.size 3 1 (.slice (some ⟨g, 0, none⟩) ((singTo m k).length + 1) cap) (singTo m (k + 1)).length ((singTo m (k + 1)).map relV) := by
            rw [HS.out, List.map_append, List.length_append]
            exact hown1
          exact ⟨k + 1, by omega, by go_num, R, hL1⟩
        case measure => simp [intOf]; omega
    · obtain rfl : k = 13 := by omega
      have hSl : Sl wo u3 (singF m).length 1 ((singF m).map relV) := Sl.of_owns hown
      go_wp2_with (go_at_call 35; ((with_reducible refine (rIsSet_any (m : Int) _).mono ?_); rintro e w1 ⟨rfl, rfl⟩))
      go_ret
      exact ⟨_, rfl, hSl, hL⟩

def rlo (pre : List (Fin 13)) (i : Nat) : Nat := pre.foldl (fun o r => min o (en r.val i)) 6
def rhi (pre : List (Fin 13)) (i : Nat) : Nat := pre.foldl (fun o r => max o (en r.val i)) 0
theorem rlo_snoc (pre : List (Fin 13)) (x : Fin 13) (i : Nat) : rlo (pre ++ [x]) i = min (rlo pre i) (en x.val i) := by simp [rlo]
theorem rhi_snoc (pre : List (Fin 13)) (x : Fin 13) (i : Nat) : rhi (pre ++ [x]) i = max (rhi pre i) (en x.val i) := by simp [rhi]
def rBox (m r : Nat) : Bool := decide (rlo (singF m) 0 ≤ en r 0) && decide (en r 0 ≤ rhi (singF m) 0) && decide (rlo (singF m) 1 ≤ en r 1) && decide (en r 1 ≤ rhi (singF m) 1)
theorem en_bd : ∀ r < 13, ∀ i < 2, 1 ≤ en r i ∧ en r i ≤ 5 := by decide
theorem rlo_cons (x : Fin 13) (l : List (Fin 13)) (i : Nat) (hi : i < 2) : rlo (x :: l) i = lo (x :: l) i := by
  have := en_bd x.val x.isLt i hi
  unfold rlo lo
  rw [List.foldl_cons, List.foldl_cons, show min 6 (en x.val i) = min 5 (en x.val i) by omega]
theorem rhi_cons (x : Fin 13) (l : List (Fin 13)) (i : Nat) (hi : i < 2) : rhi (x :: l) i = Al.hi (x :: l) i := by
  have := en_bd x.val x.isLt i hi
  unfold rhi Al.hi
  rw [List.foldl_cons, List.foldl_cons, show max 0 (en x.val i) = max 1 (en x.val i) by omega]
theorem rBox_eq (m r : Nat) (hr : r < 13) : rBox m r = inBox m r := by
  unfold rBox inBox
  cases h : singF m with
  | nil =>
    have b0 := en_bd r hr 0 (by omega)
    have e1 : decide (rlo [] 0 ≤ en r 0) = false := decide_eq_false (show ¬ 6 ≤ en r 0 by omega)
    have e2 : (decide (lo [] 0 ≤ en r 0) && decide (en r 0 ≤ Al.hi [] 0)) = false := by
      show (decide (5 ≤ en r 0) && decide (en r 0 ≤ 1)) = false
      rcases (by omega : en r 0 < 5 ∨ 1 < en r 0) with h | h
      · rw [decide_eq_false (show ¬ 5 ≤ en r 0 by omega)]; rfl
      · rw [decide_eq_false (show ¬ en r 0 ≤ 1 by omega), Bool.and_false]
    rw [e1, e2]
    simp
  | cons x l => rw [rlo_cons x l 0 (by omega), rlo_cons x l 1 (by omega), rhi_cons x l 0 (by omega), rhi_cons x l 1 (by omega)]

theorem rconvex_none (s : Int) (w : World) (h : isSetB s = false) : Calls Try.prog 20 #[.int .i64 s] w fun e w' => e = .returned (.bool false) ∧ Below w.heap.size w w' := by
  go_enter Try.func20, Try.ntmps20
  go_wp2_with (go_at_call 35; ((with_reducible refine (rIsSet_any s _).mono ?_); rintro e w1 ⟨rfl, rfl⟩))
  go_ret
  exact ⟨rfl, by go_grown⟩
set_option maxRecDepth 100000 in
set_option maxHeartbeats 4000000 in
theorem rconvex_set (m : Nat) (hm : m < 8192) (w : World) : Calls Try.prog 20 #[.int .i64 (m : Int)] w fun e w' => e = .returned (.bool (cvx m)) ∧ Below w.heap.size w w' := by
  have his : isSetB (m : Int) = true := by simp [isSetB]; omega
  go_enter Try.func20, Try.ntmps20
  go_wp2_with (first | (go_at_call 35; ((with_reducible refine (rIsSet_any (m : Int) _).mono ?_); rintro e w1 ⟨rfl, rfl⟩)) | (go_at_call 30; (with_reducible refine (rsingles_set m hm _).mono ?_); rintro e w1 ⟨v, rfl, hSl, hL0⟩))
  obtain ⟨ad, cap, rfl⟩ := hSl.form
  have hlen : ∀ W : World, (Builtin.len_ #[38] 3 #[.slice ad (singF m).length cap]).run Try.prog W = .ok (.int .i64 ((singF m).length : Int)) W := fun W => run_len_slice (P := Try.prog) (w := W) 38 3 ad (singF m).length cap Try.underlying38
  have HL := Lib.hid (And.intro hSl hL0)
  clear hSl hL0
  go_loopw [3, 4, 5, 6, 8] (fun p q u v i wr => ∃ k : Nat, k ≤ (singF m).length ∧ i = .int .i64 k ∧ p = .int .i64 ((rlo ((singF m).take k) 0 : Nat) : Int) ∧ q = .int .i64 ((rhi ((singF m).take k) 0 : Nat) : Int) ∧ u = .int .i64 ((rlo ((singF m).take k) 1 : Nat) : Int) ∧ v = .int .i64 ((rhi ((singF m).take k) 1 : Nat) : Int) ∧ Sl wr (.slice ad (singF m).length cap) (singF m).length 1 ((singF m).map relV) ∧ Below w.heap.size w wr) (fun _ _ _ _ i _ => (singF m).length - (intOf i).toNat)
  case atStart => exact ⟨0, Nat.zero_le _, rfl, rfl, rfl, rfl, rfl, HL.out⟩
  case round =>
    clear HL w1
    obtain ⟨wo, rfl⟩ : ∃ wo : World, wo = wr := ⟨_, rfl⟩
    obtain ⟨k, hk, rfl, rfl, rfl, rfl, rfl, hSl, hL⟩ := hrel
    by_cases hlt : k < (singF m).length
    · obtain ⟨g, off, cap2, hv, hc⟩ := hSl.open (by omega)
      simp only [Value.slice.injEq, true_and] at hv
      obtain ⟨rfl, rfl⟩ := hv
      obtain ⟨x, hx⟩ : ∃ x, x = (singF m)[k] := ⟨_, rfl⟩
      have hcx : wo.cell? ⟨g, off + k, none⟩ = some (.int .i64 (x.val : Int)) := hc k _ (by rw [List.getElem?_map, List.getElem?_eq_getElem hlt, ← hx]; rfl)
      have htk : (singF m).take (k + 1) = (singF m).take k ++ [x] := by rw [List.take_succ_eq_append_getElem hlt, ← hx]
      have hk5 : decide ((k : Int) < ((singF m).length : Int)) = true := by simp; omega
      have hk6 : (k : Int) < ((singF m).length : Int) := by omega
      have hSL := Lib.hid hSl
      have HTK := Lib.hid htk
      clear hSl hc htk hx
      have hmn : ∀ a b : Nat, (if b < a then (b : Int) else (a : Int)) = ((min a b : Nat) : Int) := fun a b => by split <;> omega
      have hmx : ∀ a b : Nat, (if a < b then (b : Int) else (a : Int)) = ((max a b : Nat) : Int) := fun a b => by split <;> omega
      have HM := Lib.hid (And.intro hmn hmx)
      clear hmn hmx
      have hl13 : (singF m).length ≤ 13 := singTo_len m 13
      go_wp2_with (go_at_call 42; (with_reducible refine (rplaces_any x.val x.isLt _).mono ?_); rintro e w2 ⟨rfl, hb2⟩)
      go_roundw
      case rel => exact ⟨k + 1, by omega, by go_num, by rw [HTK.out, rlo_snoc, HM.out.1], by rw [HTK.out, rhi_snoc, HM.out.2], by rw [HTK.out, rlo_snoc, HM.out.1], by rw [HTK.out, rhi_snoc, HM.out.2], hSL.out.below hb2, Sl.bstep hL hb2⟩
      case measure => simp [intOf]; omega
    · obtain rfl : k = (singF m).length := by omega
      rw [List.take_of_length_le (Nat.le_refl _)]
      clear hSl
      have hk7 : ¬ ((singF m).length : Int) < ((singF m).length : Int) := by omega
      go_wp2
      clear hk7
      go_loopw [11] (fun i wr => ∃ r : Nat, r ≤ 13 ∧ i = .int .i64 r ∧ (∀ q < r, inBox m q = m.testBit q) ∧ Below w.heap.size w wr) (fun i _ => 13 - (intOf i).toNat)
      case atStart => exact ⟨0, by omega, rfl, fun q hq => absurd hq (by omega), hL⟩
      case round =>
        clear hL hk hlt
        obtain ⟨wp, rfl⟩ : ∃ wp : World, wp = wr := ⟨_, rfl⟩
        obtain ⟨r, hr, rfl, hq, hL⟩ := hrel
        by_cases hlt : r < 13
        · have r13 : decide ((r : Int) ≤ 12) = true := by simp; omega
          have hh := rhas_any m r hm (by omega)
          by_cases g1 : rlo (singF m) 0 ≤ en r 0
          · have d1 : decide (((rlo (singF m) 0 : Nat) : Int) ≤ ((en r 0 : Nat) : Int)) = true := by simp; omega
            by_cases g2 : en r 0 ≤ rhi (singF m) 0
            · have d2 : decide (((en r 0 : Nat) : Int) ≤ ((rhi (singF m) 0 : Nat) : Int)) = true := by simp; omega
              by_cases g3 : rlo (singF m) 1 ≤ en r 1
              · have d3 : decide (((rlo (singF m) 1 : Nat) : Int) ≤ ((en r 1 : Nat) : Int)) = true := by simp; omega
                by_cases g4 : en r 1 ≤ rhi (singF m) 1
                · have d4 : decide (((en r 1 : Nat) : Int) ≤ ((rhi (singF m) 1 : Nat) : Int)) = true := by simp; omega
                  have hin : rBox m r = true := by unfold rBox; simp [g1, g2, g3, g4]
                  cases hb : m.testBit r
                  · rw [hb] at hh
                    go_wp2_with (first | (go_at_call 42; (with_reducible refine (rplaces_any r hlt _).mono ?_); rintro e w2 ⟨rfl, hb2⟩) | (go_at_call 37; ((with_reducible refine (hh _).mono ?_); rintro e w1 ⟨rfl, rfl⟩)))
                    go_ret
                    exact ⟨by rw [cvx_no m r hlt (by rw [hb, ← rBox_eq m r hlt, hin]; decide)]; rfl, bstep hL hb2⟩
                  · rw [hb] at hh
                    go_wp2_with (first | (go_at_call 42; (with_reducible refine (rplaces_any r hlt _).mono ?_); rintro e w2 ⟨rfl, hb2⟩) | (go_at_call 37; ((with_reducible refine (hh _).mono ?_); rintro e w1 ⟨rfl, rfl⟩)))
                    go_roundw
                    case rel => exact ⟨r + 1, by omega, by go_num, fun q hq2 => by
                        by_cases e : q = r
                        · subst e; rw [hb, ← rBox_eq m q hlt]; exact hin
                        · exact hq q (by omega), bstep hL hb2⟩
                    case measure => simp [intOf]; omega
                · have d4 : decide (((en r 1 : Nat) : Int) ≤ ((rhi (singF m) 1 : Nat) : Int)) = false := by simp; omega
                  have hin : rBox m r = false := by unfold rBox; simp [g1, g2, g3, g4]
                  cases hb : m.testBit r
                  · rw [hb] at hh
                    go_wp2_with (first | (go_at_call 42; (with_reducible refine (rplaces_any r hlt _).mono ?_); rintro e w2 ⟨rfl, hb2⟩) | (go_at_call 37; ((with_reducible refine (hh _).mono ?_); rintro e w1 ⟨rfl, rfl⟩)))
                    go_roundw
                    case rel => exact ⟨r + 1, by omega, by go_num, fun q hq2 => by
                        by_cases e : q = r
                        · subst e; rw [hb, ← rBox_eq m q hlt]; exact hin
                        · exact hq q (by omega), bstep hL hb2⟩
                    case measure => simp [intOf]; omega
                  · rw [hb] at hh
                    go_wp2_with (first | (go_at_call 42; (with_reducible refine (rplaces_any r hlt _).mono ?_); rintro e w2 ⟨rfl, hb2⟩) | (go_at_call 37; ((with_reducible refine (hh _).mono ?_); rintro e w1 ⟨rfl, rfl⟩)))
                    go_ret
                    exact ⟨by rw [cvx_no m r hlt (by rw [hb, ← rBox_eq m r hlt, hin]; decide)]; rfl, bstep hL hb2⟩
              · have d3 : decide (((rlo (singF m) 1 : Nat) : Int) ≤ ((en r 1 : Nat) : Int)) = false := by simp; omega
                have hin : rBox m r = false := by unfold rBox; simp [g1, g2, g3]
                cases hb : m.testBit r
                · rw [hb] at hh
                  go_wp2_with (first | (go_at_call 42; (with_reducible refine (rplaces_any r hlt _).mono ?_); rintro e w2 ⟨rfl, hb2⟩) | (go_at_call 37; ((with_reducible refine (hh _).mono ?_); rintro e w1 ⟨rfl, rfl⟩)))
                  go_roundw
                  case rel => exact ⟨r + 1, by omega, by go_num, fun q hq2 => by
                      by_cases e : q = r
                      · subst e; rw [hb, ← rBox_eq m q hlt]; exact hin
                      · exact hq q (by omega), bstep hL hb2⟩
                  case measure => simp [intOf]; omega
                · rw [hb] at hh
                  go_wp2_with (first | (go_at_call 42; (with_reducible refine (rplaces_any r hlt _).mono ?_); rintro e w2 ⟨rfl, hb2⟩) | (go_at_call 37; ((with_reducible refine (hh _).mono ?_); rintro e w1 ⟨rfl, rfl⟩)))
                  go_ret
                  exact ⟨by rw [cvx_no m r hlt (by rw [hb, ← rBox_eq m r hlt, hin]; decide)]; rfl, bstep hL hb2⟩
            · have d2 : decide (((en r 0 : Nat) : Int) ≤ ((rhi (singF m) 0 : Nat) : Int)) = false := by simp; omega
              have hin : rBox m r = false := by unfold rBox; simp [g1, g2]
              cases hb : m.testBit r
              · rw [hb] at hh
                go_wp2_with (first | (go_at_call 42; (with_reducible refine (rplaces_any r hlt _).mono ?_); rintro e w2 ⟨rfl, hb2⟩) | (go_at_call 37; ((with_reducible refine (hh _).mono ?_); rintro e w1 ⟨rfl, rfl⟩)))
                go_roundw
                case rel => exact ⟨r + 1, by omega, by go_num, fun q hq2 => by
                    by_cases e : q = r
                    · subst e; rw [hb, ← rBox_eq m q hlt]; exact hin
                    · exact hq q (by omega), bstep hL hb2⟩
                case measure => simp [intOf]; omega
              · rw [hb] at hh
                go_wp2_with (first | (go_at_call 42; (with_reducible refine (rplaces_any r hlt _).mono ?_); rintro e w2 ⟨rfl, hb2⟩) | (go_at_call 37; ((with_reducible refine (hh _).mono ?_); rintro e w1 ⟨rfl, rfl⟩)))
                go_ret
                exact ⟨by rw [cvx_no m r hlt (by rw [hb, ← rBox_eq m r hlt, hin]; decide)]; rfl, bstep hL hb2⟩
          · have d1 : decide (((rlo (singF m) 0 : Nat) : Int) ≤ ((en r 0 : Nat) : Int)) = false := by simp; omega
            have hin : rBox m r = false := by unfold rBox; simp [g1]
            cases hb : m.testBit r
            · rw [hb] at hh
              go_wp2_with (first | (go_at_call 42; (with_reducible refine (rplaces_any r hlt _).mono ?_); rintro e w2 ⟨rfl, hb2⟩) | (go_at_call 37; ((with_reducible refine (hh _).mono ?_); rintro e w1 ⟨rfl, rfl⟩)))
              go_roundw
              case rel => exact ⟨r + 1, by omega, by go_num, fun q hq2 => by
                  by_cases e : q = r
                  · subst e; rw [hb, ← rBox_eq m q hlt]; exact hin
                  · exact hq q (by omega), bstep hL hb2⟩
              case measure => simp [intOf]; omega
            · rw [hb] at hh
              go_wp2_with (first | (go_at_call 42; (with_reducible refine (rplaces_any r hlt _).mono ?_); rintro e w2 ⟨rfl, hb2⟩) | (go_at_call 37; ((with_reducible refine (hh _).mono ?_); rintro e w1 ⟨rfl, rfl⟩)))
              go_ret
              exact ⟨by rw [cvx_no m r hlt (by rw [hb, ← rBox_eq m r hlt, hin]; decide)]; rfl, bstep hL hb2⟩
        · obtain rfl : r = 13 := by omega
          have hyes := cvx_yes m hq
          go_wp2
          go_ret
          exact ⟨by rw [hyes]; rfl, hL⟩
theorem rconvex_any (s : Int) (w : World) : Calls Try.prog 20 #[.int .i64 s] w fun e w' => e = .returned (.bool (cvxB s)) ∧ Below w.heap.size w w' := by
  unfold cvxB
  cases h : isSetB s
  · exact rconvex_none s w h
  obtain ⟨m, rfl⟩ : ∃ m : Nat, s = m := ⟨s.toNat, by simp [isSetB] at h; omega⟩
  exact rconvex_set m (by simp [isSetB] at h; omega) w
end Go.Proofs.Ytmkgddgdeffllaa.Al
