/-
  The walk of AllenParts.
-/
import Derived.Test.YtmkgddgdeffllaaPl5
import Derived.Test.YtmkgddgdeffllaaCps
set_option linter.unusedSimpArgs false
set_option linter.unusedVariables false
namespace Go.Proofs.Ytmkgddgdeffllaa.Al
open Go Go.RowKit Go.Proofs.Ytmkgddgdeffllaa.Bt Go.Proofs.Ytmkgddgdeffllaa.Sl
open Go.Proofs.Ytmkgddgdeffllaa.Iv (of_any valid_any ofZ validB lineB sgn_bd sgn_cases tab sgn)

theorem len_any (n cap : Nat) (ad : Option Addr) : ∀ W : World, (Builtin.len_ #[23] 3 #[.slice ad n cap]).run Try.prog W = .ok (.int .i64 (n : Int)) W := fun W => run_len_slice (P := Try.prog) (w := W) 23 3 ad n cap Try.underlying23
theorem poss_none {s a0 a1 lo hi : Int} (h : posB s a0 a1 lo hi = false) : poss s a0 a1 lo hi = [] := by unfold poss; rw [h]; rfl
set_option maxHeartbeats 4000000 in
theorem parts_bad (s a0 a1 lo hi : Int) (h : posB s a0 a1 lo hi = false) (w : World) :
    Calls Try.prog 8 #[.int .i64 s, .agg #[.int .i64 a0, .int .i64 a1], .int .i64 lo, .int .i64 hi] w fun e w' => e = .returned (.bool true) ∧ Below w.heap.size w w' := by
  have f1 := possible_any s a0 a1 lo hi
  rw [poss_none h] at f1
  have l0 : ∀ (ad : Option Addr) (cap : Nat) (W : World), (Builtin.len_ #[23] 3 #[.slice ad 0 cap]).run Try.prog W = .ok (.int .i64 0) W := fun ad cap W => len_any 0 cap ad W
  cases h1 : isSetB s
  · go_enter Try.func8, Try.ntmps8
    go_wp2_with (first | (go_at_call 11; (with_reducible refine (awake_any _).mono ?_); rintro e w1 ⟨rfl, hb⟩; have hL : Below w.heap.size w w1 := Sl.bstep (by go_grown) hb; have ca : w1.cell? ⟨w.heap.size, 0, none⟩ = some (.int .i64 a0) := Sl.cell_kept (by simp) hb; have cb : w1.cell? ⟨w.heap.size, 1, none⟩ = some (.int .i64 a1) := Sl.cell_kept (by simp) hb; clear hb) | (go_at_call 22; ((with_reducible refine (is_any s _).mono ?_); rintro e w1 ⟨rfl, rfl⟩)) | (go_at_call 17; (with_reducible refine (valid_any a0 a1 _).mono ?_); rintro e w1 ⟨rfl, hb⟩; replace hL := Sl.bstep hL hb; replace ca := Sl.cell_kept ca hb; replace cb := Sl.cell_kept cb hb; clear hb) | (go_at_call 23; (with_reducible refine (f1 _).mono ?_); rintro e w1 ⟨v, rfl, hsl, hb⟩; obtain ⟨ad, cap, rfl⟩ := hsl.form; replace hL := Sl.bstep hL hb; clear hb hsl))
    go_simp
    go_wp2
    go_ret
    exact ⟨rfl, hL⟩
  cases h2 : validB a0 a1
  · go_enter Try.func8, Try.ntmps8
    go_wp2_with (first | (go_at_call 11; (with_reducible refine (awake_any _).mono ?_); rintro e w1 ⟨rfl, hb⟩; have hL : Below w.heap.size w w1 := Sl.bstep (by go_grown) hb; have ca : w1.cell? ⟨w.heap.size, 0, none⟩ = some (.int .i64 a0) := Sl.cell_kept (by simp) hb; have cb : w1.cell? ⟨w.heap.size, 1, none⟩ = some (.int .i64 a1) := Sl.cell_kept (by simp) hb; clear hb) | (go_at_call 22; ((with_reducible refine (is_any s _).mono ?_); rintro e w1 ⟨rfl, rfl⟩)) | (go_at_call 17; (with_reducible refine (valid_any a0 a1 _).mono ?_); rintro e w1 ⟨rfl, hb⟩; replace hL := Sl.bstep hL hb; replace ca := Sl.cell_kept ca hb; replace cb := Sl.cell_kept cb hb; clear hb) | (go_at_call 23; (with_reducible refine (f1 _).mono ?_); rintro e w1 ⟨v, rfl, hsl, hb⟩; obtain ⟨ad, cap, rfl⟩ := hsl.form; replace hL := Sl.bstep hL hb; clear hb hsl))
    go_simp
    go_wp2
    go_ret
    exact ⟨rfl, hL⟩
  by_cases h3 : lo < -4398046511104
  · go_enter Try.func8, Try.ntmps8
    go_wp2_with (first | (go_at_call 11; (with_reducible refine (awake_any _).mono ?_); rintro e w1 ⟨rfl, hb⟩; have hL : Below w.heap.size w w1 := Sl.bstep (by go_grown) hb; have ca : w1.cell? ⟨w.heap.size, 0, none⟩ = some (.int .i64 a0) := Sl.cell_kept (by simp) hb; have cb : w1.cell? ⟨w.heap.size, 1, none⟩ = some (.int .i64 a1) := Sl.cell_kept (by simp) hb; clear hb) | (go_at_call 22; ((with_reducible refine (is_any s _).mono ?_); rintro e w1 ⟨rfl, rfl⟩)) | (go_at_call 17; (with_reducible refine (valid_any a0 a1 _).mono ?_); rintro e w1 ⟨rfl, hb⟩; replace hL := Sl.bstep hL hb; replace ca := Sl.cell_kept ca hb; replace cb := Sl.cell_kept cb hb; clear hb) | (go_at_call 23; (with_reducible refine (f1 _).mono ?_); rintro e w1 ⟨v, rfl, hsl, hb⟩; obtain ⟨ad, cap, rfl⟩ := hsl.form; replace hL := Sl.bstep hL hb; clear hb hsl))
    go_simp
    go_wp2
    go_ret
    exact ⟨rfl, hL⟩
  by_cases h4 : 4398046511104 < hi
  · go_enter Try.func8, Try.ntmps8
    go_wp2_with (first | (go_at_call 11; (with_reducible refine (awake_any _).mono ?_); rintro e w1 ⟨rfl, hb⟩; have hL : Below w.heap.size w w1 := Sl.bstep (by go_grown) hb; have ca : w1.cell? ⟨w.heap.size, 0, none⟩ = some (.int .i64 a0) := Sl.cell_kept (by simp) hb; have cb : w1.cell? ⟨w.heap.size, 1, none⟩ = some (.int .i64 a1) := Sl.cell_kept (by simp) hb; clear hb) | (go_at_call 22; ((with_reducible refine (is_any s _).mono ?_); rintro e w1 ⟨rfl, rfl⟩)) | (go_at_call 17; (with_reducible refine (valid_any a0 a1 _).mono ?_); rintro e w1 ⟨rfl, hb⟩; replace hL := Sl.bstep hL hb; replace ca := Sl.cell_kept ca hb; replace cb := Sl.cell_kept cb hb; clear hb) | (go_at_call 23; (with_reducible refine (f1 _).mono ?_); rintro e w1 ⟨v, rfl, hsl, hb⟩; obtain ⟨ad, cap, rfl⟩ := hsl.form; replace hL := Sl.bstep hL hb; clear hb hsl))
    go_simp
    go_wp2
    go_ret
    exact ⟨rfl, hL⟩
  by_cases h5 : hi ≤ lo
  · go_enter Try.func8, Try.ntmps8
    go_wp2_with (first | (go_at_call 11; (with_reducible refine (awake_any _).mono ?_); rintro e w1 ⟨rfl, hb⟩; have hL : Below w.heap.size w w1 := Sl.bstep (by go_grown) hb; have ca : w1.cell? ⟨w.heap.size, 0, none⟩ = some (.int .i64 a0) := Sl.cell_kept (by simp) hb; have cb : w1.cell? ⟨w.heap.size, 1, none⟩ = some (.int .i64 a1) := Sl.cell_kept (by simp) hb; clear hb) | (go_at_call 22; ((with_reducible refine (is_any s _).mono ?_); rintro e w1 ⟨rfl, rfl⟩)) | (go_at_call 17; (with_reducible refine (valid_any a0 a1 _).mono ?_); rintro e w1 ⟨rfl, hb⟩; replace hL := Sl.bstep hL hb; replace ca := Sl.cell_kept ca hb; replace cb := Sl.cell_kept cb hb; clear hb) | (go_at_call 23; (with_reducible refine (f1 _).mono ?_); rintro e w1 ⟨v, rfl, hsl, hb⟩; obtain ⟨ad, cap, rfl⟩ := hsl.form; replace hL := Sl.bstep hL hb; clear hb hsl))
    go_simp
    go_wp2
    go_ret
    exact ⟨rfl, hL⟩
  have h6 : 40 < hi - lo := by
    have h3' : lineB lo = true := by simp [lineB]; omega
    have h4' : lineB hi = true := by simp [lineB]; omega
    simp [posB, h1, h2, h3', h4'] at h
    omega
  have hw : IntKind.i64.wrap (hi - lo) = hi - lo := IntWalk.i64_in _ (by omega)
  go_enter Try.func8, Try.ntmps8
  go_wp2_with (first | (go_at_call 11; (with_reducible refine (awake_any _).mono ?_); rintro e w1 ⟨rfl, hb⟩; have hL : Below w.heap.size w w1 := Sl.bstep (by go_grown) hb; have ca : w1.cell? ⟨w.heap.size, 0, none⟩ = some (.int .i64 a0) := Sl.cell_kept (by simp) hb; have cb : w1.cell? ⟨w.heap.size, 1, none⟩ = some (.int .i64 a1) := Sl.cell_kept (by simp) hb; clear hb) | (go_at_call 22; ((with_reducible refine (is_any s _).mono ?_); rintro e w1 ⟨rfl, rfl⟩)) | (go_at_call 17; (with_reducible refine (valid_any a0 a1 _).mono ?_); rintro e w1 ⟨rfl, hb⟩; replace hL := Sl.bstep hL hb; replace ca := Sl.cell_kept ca hb; replace cb := Sl.cell_kept cb hb; clear hb) | (go_at_call 23; (with_reducible refine (f1 _).mono ?_); rintro e w1 ⟨v, rfl, hsl, hb⟩; obtain ⟨ad, cap, rfl⟩ := hsl.form; replace hL := Sl.bstep hL hb; clear hb hsl))
  go_simp
  go_wp2
  go_ret
  exact ⟨rfl, hL⟩
/-- The sum of the first k parts. -/
def sumTo (a0 a1 lo hi : Int) (L : List (Fin 13)) (k : Nat) : Nat := ((L.take k).map (partLen a0 a1 lo hi)).sum
theorem sumTo_step (a0 a1 lo hi : Int) (L : List (Fin 13)) (k : Nat) (h : k < L.length) : sumTo a0 a1 lo hi L (k + 1) = sumTo a0 a1 lo hi L k + partLen a0 a1 lo hi L[k] := by
  unfold sumTo; rw [List.take_succ_eq_append_getElem h, List.map_append, List.sum_append, List.map_singleton, List.sum_singleton]
theorem sum_le (f : Fin 13 → Nat) (B : Nat) (hf : ∀ x, f x ≤ B) : ∀ l : List (Fin 13), (l.map f).sum ≤ l.length * B
  | [] => by simp
  | x :: l => by
    have ih := sum_le f B hf l
    have := hf x
    rw [List.map_cons, List.sum_cons, List.length_cons, Nat.add_mul]
    omega
theorem sumTo_lt (a0 a1 lo hi : Int) (L : List (Fin 13)) (hL : L.length ≤ 13) (k : Nat) : sumTo a0 a1 lo hi L k ≤ 21320 := by
  have h1 := sum_le (partLen a0 a1 lo hi) 1640 (fun x => poss_len _ _ _ _ _) (L.take k)
  have h2 : (L.take k).length * 1640 ≤ 13 * 1640 := Nat.mul_le_mul (by rw [List.length_take]; omega) (Nat.le_refl _)
  exact Nat.le_trans h1 (Nat.le_trans h2 (by decide))
set_option maxRecDepth 100000 in
set_option maxHeartbeats 8000000 in
theorem parts_good (m : Nat) (a0 a1 lo : Int) (n : Nat) (hm : m < 8192) (h2 : validB a0 a1 = true) (h3 : lineB lo = true) (h4 : lineB (lo + (n : Int)) = true) (h5 : 0 < n) (h6 : n ≤ 40) (hpos : posB (m : Int) a0 a1 lo (lo + (n : Int)) = true) (w : World) :
    Calls Try.prog 8 #[.int .i64 (m : Int), .agg #[.int .i64 a0, .int .i64 a1], .int .i64 lo, .int .i64 (lo + (n : Int))] w fun e w' => e = .returned (.bool true) ∧ Below w.heap.size w w' := by
  have h1 : isSetB (m : Int) = true := by simp [isSetB]; omega
  have b3 : -4398046511104 ≤ lo ∧ lo ≤ 4398046511104 := by simpa [lineB] using h3
  have b4 : -4398046511104 ≤ lo + (n : Int) ∧ lo + (n : Int) ≤ 4398046511104 := by simpa [lineB] using h4
  have hw : IntKind.i64.wrap (lo + (n : Int) - lo) = (n : Int) := by rw [show lo + (n : Int) - lo = (n : Int) by omega]; exact IntWalk.i64_in _ (by omega)
  have g1 : decide (lo + (n : Int) ≤ lo) = false := by simp; omega
  have g2 : decide ((40 : Int) < (n : Int)) = false := by simp; omega
  have g3 : decide (lo < -4398046511104) = false := by simp; omega
  have g4 : decide (4398046511104 < lo + (n : Int)) = false := by simp; omega
  have fs := singles_any m hm
  have hl13 : (singF m).length ≤ 13 := singTo_len m 13
  have fsum := parts_sum m hm a0 a1 lo (lo + (n : Int)) hpos
  obtain ⟨L, hL⟩ : ∃ L, L = singF m := ⟨_, rfl⟩
  rw [← hL] at fs hl13 fsum
  clear hL h3 h4
  have hlenI : ∀ (ad : Option Addr) (cap : Nat) (W : World), (Builtin.len_ #[38] 3 #[.slice ad L.length cap]).run Try.prog W = .ok (.int .i64 (L.length : Int)) W := fun ad cap W => run_len_slice (P := Try.prog) (w := W) 38 3 ad L.length cap Try.underlying38
  go_enter Try.func8, Try.ntmps8
  go_wp2_with (first | (go_at_call 11; (with_reducible refine (awake_any _).mono ?_); rintro e w1 ⟨rfl, hb⟩; have hL : Below w.heap.size w w1 := Sl.bstep (by go_grown) hb; have ca : w1.cell? ⟨w.heap.size, 0, none⟩ = some (.int .i64 a0) := Sl.cell_kept (by simp) hb; have cb : w1.cell? ⟨w.heap.size, 1, none⟩ = some (.int .i64 a1) := Sl.cell_kept (by simp) hb; clear hb) | (go_at_call 22; ((with_reducible refine (is_any (m : Int) _).mono ?_); rintro e w1 ⟨rfl, rfl⟩)) | (go_at_call 17; (with_reducible refine (valid_any a0 a1 _).mono ?_); rintro e w1 ⟨rfl, hb⟩; replace hL := Sl.bstep hL hb; replace ca := Sl.cell_kept ca hb; replace cb := Sl.cell_kept cb hb; clear hb) | (go_at_call 24; (with_reducible refine (fs _).mono ?_); rintro e w1 ⟨v, rfl, hsl, hb⟩; obtain ⟨ad, cap, rfl⟩ := hsl.form; replace hL := Sl.bstep hL hb; replace ca := Sl.cell_kept ca hb; replace cb := Sl.cell_kept cb hb; clear hb))
  go_simp
  go_wp2
  clear g1 g2 g3 g4 fs
  go_loopw [9, 55] (fun f i wr => ∃ k : Nat, k ≤ L.length ∧ i = .int .i64 (k : Int) ∧ f = .int .i64 ((sumTo a0 a1 lo (lo + (n : Int)) L k : Nat) : Int) ∧ Below w.heap.size w wr ∧ wr.cell? ⟨w.heap.size, 0, none⟩ = some (.int .i64 a0) ∧ wr.cell? ⟨w.heap.size, 1, none⟩ = some (.int .i64 a1) ∧ Sl wr (.slice ad L.length cap) L.length 1 (L.map relV)) (fun _ i _ => L.length - (intOf i).toNat)
  case atStart => exact ⟨0, by omega, rfl, rfl, hL, ca, cb, hsl⟩
  case round =>
    clear hL ca cb hsl
    obtain ⟨wo, rfl⟩ : ∃ wo : World, wo = wr := ⟨_, rfl⟩
    obtain ⟨k, hk, rfl, rfl, hL, ca, cb, hsl⟩ := hrel
    by_cases hlt : k < L.length
    · obtain ⟨g, off, cap2, hv, hc⟩ := hsl.open (by omega)
      simp only [Value.slice.injEq, true_and] at hv
      obtain ⟨rfl, rfl⟩ := hv
      obtain ⟨x, hx⟩ : ∃ x, x = L[k] := ⟨_, rfl⟩
      have hcx : wo.cell? ⟨g, off + k, none⟩ = some (.int .i64 (x.val : Int)) := hc k _ (by rw [List.getElem?_map, List.getElem?_eq_getElem hlt, ← hx]; rfl)
      have hst := sumTo_step a0 a1 lo (lo + (n : Int)) L k hlt
      rw [← hx] at hst
      have hsl0 := sumTo_lt a0 a1 lo (lo + (n : Int)) L hl13 k
      have hpl : partLen a0 a1 lo (lo + (n : Int)) x ≤ 1640 := poss_len _ _ _ _ _
      have hx0 : (0 : Int) ≤ (x.val : Int) := by omega
      have hx1 : (x.val : Int) ≤ 12 := by have := x.isLt; omega
      have hk5 : decide ((k : Int) < (L.length : Int)) = true := by simp; omega
      have hk6 : (k : Int) < (L.length : Int) := by omega
      have hpw := wrap_pw x.val (by omega)
      have fp := possible_any ((pw x.val : Nat) : Int) a0 a1 lo (lo + (n : Int))
      have hmem : ∀ p ∈ poss ((pw x.val : Nat) : Int) a0 a1 lo (lo + (n : Int)), lo ≤ p.1 ∧ p.2 ≤ lo + (n : Int) ∧ p.1 < p.2 ∧ ofZ p.1 p.2 a0 a1 = ((x.val : Nat) : Int) := fun p hp => by
        have := poss_mem hp
        exact ⟨this.1, this.2.1, this.2.2.1, holdsB_one x.val x.isLt this.2.2.2⟩
      unfold partLen at hst hpl
      generalize poss ((pw x.val : Nat) : Int) a0 a1 lo (lo + (n : Int)) = P at *
      have hK : Kp wo [(w.heap.size, 0, .int .i64 a0), (w.heap.size, 1, .int .i64 a1)] wo.drew := (((Kp.start (Below.refl _ _)).add _ _ _ cb).add _ _ _ ca).drew
      have k0 : ∀ w', Kp wo [(w.heap.size, 0, .int .i64 a0), (w.heap.size, 1, .int .i64 a1)] w' → w'.cell? ⟨w.heap.size, 0, none⟩ = some (.int .i64 a0) := fun w' h => h.at0
      have k1 : ∀ w', Kp wo [(w.heap.size, 0, .int .i64 a0), (w.heap.size, 1, .int .i64 a1)] w' → w'.cell? ⟨w.heap.size, 1, none⟩ = some (.int .i64 a1) := fun w' h => h.tl.at0
      have HH := Lib.hid (And.intro hst (And.intro hL (And.intro ca (And.intro cb hsl))))
      clear hst hL ca cb hsl hc hx
      go_upto_region 11 with fail
      clear hcx
      go_region_held3 (fun w' => Kp wo [(w.heap.size, 0, .int .i64 a0), (w.heap.size, 1, .int .i64 a1)] w') (first | (with_reducible exact hK) | (with_reducible assumption) | (with_reducible exact Kp.step (by assumption) hb) | (with_reducible exact Kp.alloc (by assumption) _)) (first | (go_at_call 23; (with_reducible refine (fp _).mono ?_); rintro e wn ⟨v2, rfl, hsl2, hb⟩))
      have hB9 : Below wo.heap.size wo wn := kp_below (w := wo) (by assumption)
      obtain ⟨hst, hL, ca, cb, hsl⟩ := HH.out
      replace hL := Sl.bstep hL hB9
      replace ca := Sl.cell_kept ca hB9
      replace cb := Sl.cell_kept cb hB9
      replace hsl := hsl.below hB9
      clear HH hB9 hK k0 k1 hb
      obtain ⟨ad2, cap3, rfl⟩ := hsl2.form
      have hl2 := len_any P.length cap3 ad2
      have hsw : IntKind.i64.wrap (((sumTo a0 a1 lo (lo + (n : Int)) L k : Nat) : Int) + (P.length : Int)) = ((sumTo a0 a1 lo (lo + (n : Int)) L (k + 1) : Nat) : Int) := by
        rw [hst]; push_cast; exact IntWalk.i64_in _ (by omega)
      have HH := Lib.hid (And.intro hL (And.intro ca (And.intro cb (And.intro hsl hsl2))))
      clear hst hL ca cb hsl hsl2
      clear fp
      go_wp2
      go_loopw [77] (fun i wr => ∃ q : Nat, q ≤ P.length ∧ i = .int .i64 (q : Int) ∧ Below w.heap.size w wr ∧ wr.cell? ⟨w.heap.size, 0, none⟩ = some (.int .i64 a0) ∧ wr.cell? ⟨w.heap.size, 1, none⟩ = some (.int .i64 a1) ∧ Sl wr (.slice (some ⟨g, off, none⟩) L.length cap) L.length 1 (L.map relV) ∧ Sl wr (.slice ad2 P.length cap3) P.length 2 (flat P)) (fun i _ => P.length - (intOf i).toNat)
      case atStart => exact ⟨0, by omega, rfl, HH.out⟩
      case round =>
        clear HH
        obtain ⟨wq, rfl⟩ : ∃ wq : World, wq = wr := ⟨_, rfl⟩
        obtain ⟨q, hq, rfl, hL, ca, cb, hsl, hsl2⟩ := hrel
        by_cases hqt : q < P.length
        · obtain ⟨g2, off2, cap4, hv, hc⟩ := hsl2.open (by omega)
          simp only [Value.slice.injEq, true_and] at hv
          obtain ⟨rfl, rfl⟩ := hv
          have d0 := hc _ _ (flat_get0 P q hqt)
          have d1 := hc _ _ (flat_get1 P q hqt)
          have hmq := hmem (P.getD q (0, 0)) (by rw [show P.getD q (0, 0) = P[q] by simp [List.getD, hqt]]; exact List.getElem_mem hqt)
          rw [← Nat.add_assoc] at d1
          generalize (P.getD q (0, 0)).1 = p0 at *
          generalize (P.getD q (0, 0)).2 = p1 at *
          obtain ⟨m1, m2, m3, m4⟩ := hmq
          have hof := of_any p0 p1 a0 a1
          rw [m4] at hof
          have e1 : decide (p0 < lo) = false := by simp; omega
          have e2 : decide (lo + (n : Int) < p1) = false := by simp; omega
          have e3 : decide (p1 ≤ p0) = false := by simp; omega
          have hq5 : decide ((q : Int) < (P.length : Int)) = true := by simp; omega
          have hq6 : (q : Int) < (P.length : Int) := by omega
          have nca : w.heap.size < wq.heap.size := block_of_cell ca
          have HH := Lib.hid (And.intro hL (And.intro hsl hsl2))
          clear hL hsl hsl2 hc m4
          go_wp2_with (go_at_call 12; (with_reducible refine (hof _).mono ?_); rintro e w2 ⟨rfl, hb2⟩)
          have hq9 : Below wq.heap.size wq w2 := Sl.bstep (by go_grown) hb2
          go_roundw
          case rel => exact ⟨q + 1, by omega, by go_num, Sl.bstep HH.out.1 hq9, Sl.cell_kept ca hq9, Sl.cell_kept cb hq9, HH.out.2.1.below hq9, HH.out.2.2.below hq9⟩
          case measure => simp [intOf]; omega
        · obtain rfl : q = P.length := by omega
          have HH := Lib.hid (And.intro hL (And.intro ca (And.intro cb hsl)))
          clear hL ca cb hsl hsl2
          go_wp2
          go_roundw
          case rel => exact ⟨k + 1, by omega, by go_num, rfl, HH.out⟩
          case measure => simp [intOf]; omega
    · obtain rfl : k = L.length := by omega
      have hsA : sumTo a0 a1 lo (lo + (n : Int)) L L.length = (poss (m : Int) a0 a1 lo (lo + (n : Int))).length := by
        unfold sumTo; rw [List.take_of_length_le (Nat.le_refl _)]; exact fsum.1
      have fs2 := fsum.2
      rw [show (lo + (n : Int) - lo).toNat = n by omega] at fs2
      have q1 := possible_any (m : Int) a0 a1 lo (lo + (n : Int))
      have q2 := possible_any ((8191 - m : Nat) : Int) a0 a1 lo (lo + (n : Int))
      have p1 := poss_len (m : Int) a0 a1 lo (lo + (n : Int))
      have p2 := poss_len ((8191 - m : Nat) : Int) a0 a1 lo (lo + (n : Int))
      have hw8 : IntKind.i64.wrap (8191 - (m : Int)) = ((8191 - m : Nat) : Int) := by rw [show (8191 : Int) - (m : Int) = ((8191 - m : Nat) : Int) by omega]; exact IntWalk.i64_in _ (by omega)
      rw [hsA]
      clear hsA fsum
      generalize poss (m : Int) a0 a1 lo (lo + (n : Int)) = A at *
      generalize poss ((8191 - m : Nat) : Int) a0 a1 lo (lo + (n : Int)) = C at *
      have hsl9 := Lib.hid hsl
      clear hsl
      go_wp2_with (first | (go_at_call 23; (with_reducible refine (q1 _).mono ?_); rintro e w2 ⟨v2, rfl, hs2, hb2⟩; obtain ⟨ad3, cap5, rfl⟩ := hs2.form; have hl3 := len_any A.length cap5 ad3; replace hL := Sl.bstep hL hb2; replace ca := Sl.cell_kept ca hb2; replace cb := Sl.cell_kept cb hb2; clear hb2 hs2) | (go_at_call 23; (with_reducible refine (q2 _).mono ?_); rintro e w3 ⟨v3, rfl, hs3, hb3⟩; obtain ⟨ad4, cap6, rfl⟩ := hs3.form; have hl4 := len_any C.length cap6 ad4; replace hL := Sl.bstep hL hb3; clear hb3 hs3))
      have hk : (n : Int) * ((n : Int) + 1) = 2 * ((A.length : Int) + (C.length : Int)) := by
        have : ((n * (n + 1) : Nat) : Int) = ((2 * (A.length + C.length) : Nat) : Int) := by rw [fs2]
        push_cast at this
        omega
      have hfin : wrap64 ((wrap64 ((n : Int) * ((n : Int) + 1))).tdiv 2) = (A.length : Int) + (C.length : Int) := by
        rw [hk, show wrap64 (2 * ((A.length : Int) + (C.length : Int))) = 2 * ((A.length : Int) + (C.length : Int)) from IntWalk.wrap64_in _ (by omega), Int.mul_tdiv_cancel_left _ (by decide)]
        exact IntWalk.wrap64_in _ (by omega)
      rw [hfin]
      go_ret
      exact ⟨by simp, hL⟩
theorem allenParts_walk (s a0 a1 lo hi : Int) (_ : (Lit.int .i64 s).wf = true) (_ : (Lit.int .i64 a0).wf = true) (_ : (Lit.int .i64 a1).wf = true) (_ : (Lit.int .i64 lo).wf = true) (_ : (Lit.int .i64 hi).wf = true) (w : World) :
    Calls Try.prog 8 #[.int .i64 s, .agg #[.int .i64 a0, .int .i64 a1], .int .i64 lo, .int .i64 hi] w fun e w' => e = .returned (.bool true) ∧ Below w.heap.size w w' := by
  cases h : posB s a0 a1 lo hi
  · exact parts_bad s a0 a1 lo hi h w
  have h' := h
  simp only [posB, Bool.and_eq_true, decide_eq_true_eq] at h'
  obtain ⟨⟨⟨⟨⟨h1, h2⟩, h3⟩, h4⟩, h5⟩, h6⟩ := h'
  obtain ⟨n, rfl⟩ : ∃ n : Nat, hi = lo + (n : Int) := ⟨(hi - lo).toNat, by omega⟩
  have h0 : 0 ≤ s ∧ s ≤ 8191 := by simpa [isSetB] using h1
  obtain ⟨m, rfl⟩ : ∃ m : Nat, s = m := ⟨s.toNat, by omega⟩
  exact parts_good m a0 a1 lo n (by omega) h2 h3 h4 (by omega) (by omega) h w
end Go.Proofs.Ytmkgddgdeffllaa.Al
