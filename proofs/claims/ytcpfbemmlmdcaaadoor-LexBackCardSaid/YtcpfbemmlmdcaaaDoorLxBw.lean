/-
  The walk of the law LexBack.
-/
import Derived.Test.YtcpfbemmlmdcaaaDoorLxBk
set_option linter.unusedSimpArgs false
set_option linter.unusedVariables false
namespace Go.Proofs.YtcpfbemmlmdcaaaDoor.Lx
open Go.RowKit Go.ChangeShapes Go.WideShapes Go.Proofs.YtcpfbemmlmdcaaaDoor.Sl

theorem clkS_size (n c : Int) : (clkS n c).size ≤ 9 := by
  unfold clkS
  cases hl : clkL c with
  | none => exact Nat.zero_le _
  | some l =>
    show (if n < 0 ∨ 93600 < n then (⟨#[]⟩ : ByteArray) else spanS n ++ l).size ≤ 9
    split
    · exact Nat.zero_le _
    · have hs := spanS_size n
      have hls : l.size ≤ 1 := by
        unfold clkL at hl
        split at hl
        · cases hl; decide
        · split at hl
          · cases hl; decide
          · split at hl
            · cases hl; decide
            · cases hl
      rw [ByteArray.size_append]; omega
theorem offS_size (n : Int) : (offS n).size ≤ 9 := by
  unfold offS
  split
  · exact Nat.zero_le _
  · split
    · have hs := spanS_size (-n)
      rw [ByteArray.size_append]
      show 1 + _ ≤ 9
      omega
    · have hs := spanS_size n
      omega
theorem size_pos (t : ByteArray) (h : t ≠ ⟨#[]⟩) : 0 < t.size := by
  rcases Nat.eq_zero_or_pos t.size with h0 | h0
  · exact absurd (nil_of t h0) h
  · exact h0

/-- What the law's last row asks of the names. -/
def namesOk (n a b c d : Int) : Prop := (n < 1 ∧ b = 3 ∧ d = 3) ∨ (1 ≤ n ∧ n ≤ 7 ∧ n = a ∧ b = 0 ∧ n = c ∧ d = 0) ∨ (7 < n ∧ n ≤ 12 ∧ n = a ∧ b = 0 ∧ d = 3) ∨ (12 < n ∧ b = 3 ∧ d = 3)
theorem names_ok (n a b c d : Int) (h1 : findZ MON (getZ MON n) = (a, b)) (h2 : findZ WKD (getZ WKD n) = (c, d)) : namesOk n a b c d := by
  by_cases c1 : n < 1
  · rw [mon_out n (.inl c1)] at h1; rw [wkd_out n (.inl c1)] at h2
    cases h1; cases h2; exact .inl ⟨c1, rfl, rfl⟩
  by_cases c2 : n ≤ 7
  · rw [mon_in n (by omega) (by omega)] at h1; rw [wkd_in n (by omega) c2] at h2
    cases h1; cases h2; exact .inr (.inl ⟨by omega, c2, rfl, rfl, rfl, rfl⟩)
  by_cases c3 : n ≤ 12
  · rw [mon_in n (by omega) c3] at h1; rw [wkd_out n (.inr (by omega))] at h2
    cases h1; cases h2; exact .inr (.inr (.inl ⟨by omega, c3, rfl, rfl, rfl⟩))
  · rw [mon_out n (.inr (by omega))] at h1; rw [wkd_out n (.inr (by omega))] at h2
    cases h1; cases h2; exact .inr (.inr (.inr ⟨by omega, rfl, rfl⟩))

set_option maxRecDepth 20000 in
set_option maxHeartbeats 1000000 in
theorem back_tu (n k m : Int) (w : World) (hm : w.cell? ⟨0, 0, none⟩ = some (.int .i64 m)) (t u x y : ByteArray) (a b c d : Int) (ht : clkS n k = t) (hu : offS n = u) (hx : getZ MON n = x) (hy : getZ WKD n = y) (hM : findZ MON x = (a, b)) (hW : findZ WKD y = (c, d)) (hne : t ≠ ⟨#[]⟩) (hno : u ≠ ⟨#[]⟩) :
    Calls Tryd.prog 7 #[.int .i64 n, .int .i64 k] w fun e w' => e = .returned (.bool true) ∧ Below w.heap.size w w' := by
  have ts : t.size < 4294967281 := by have := clkS_size n k; rw [ht] at this; omega
  have us : u.size < 4294967281 := by have := offS_size n; rw [hu] at this; omega
  have hnm := names_ok n a b c d (by rw [hx]; exact hM) (by rw [hy]; exact hW)
  have HT := Lib.hid ht
  have HU := Lib.hid hu
  have HX := Lib.hid hx
  have HY := Lib.hid hy
  have HM := Lib.hid hM
  have HW := Lib.hid hW
  have HC := Lib.hid (show clkZ t = (n, k, 0) by rw [← ht]; exact clock_back n k (by rw [ht]; exact hne))
  have htn := not_nil t (size_pos t hne)
  clear hne
  have HO := Lib.hid (show offZ u = (n, 0) by rw [← hu]; exact off_back n (by rw [hu]; exact hno))
  have hun := not_nil u (size_pos u hno)
  clear hno
  clear ht hu hx hy hM hW
  rcases hnm with ⟨q, rfl, rfl⟩ | ⟨q, q2, rfl, rfl, rfl, rfl⟩ | ⟨q, q2, rfl, rfl, rfl⟩ | ⟨q, rfl, rfl⟩
  · go_enter Tryd.func7, Tryd.ntmps7
    go_wp2_with (first | (go_at_call 11; ((with_reducible refine (awake_any m _ hm).mono ?_); rintro e w1 ⟨rfl, hb⟩; (first | (replace hL := bstep hL hb) | (have hL := hb)); clear hb; replace hc := bcell hL)) | (go_at_call 18; ((with_reducible refine (clockText_is n k t _ HT.out).mono ?_); rintro e w1 ⟨rfl, hb⟩; (first | (replace hL := bstep hL hb) | (have hL := hb)); clear hb; replace hc := bcell hL)) | (go_at_call 14; ((with_reducible refine (offText_is n u _ HU.out).mono ?_); rintro e w1 ⟨rfl, hb⟩; (first | (replace hL := bstep hL hb) | (have hL := hb)); clear hb; replace hc := bcell hL)) | (go_at_call 16; ((with_reducible refine (clock_is t n k 0 m _ ts (cell_kept hm (by go_grown)) HC.out).mono ?_); rintro e w1 ⟨rfl, hb⟩; (first | (replace hL := bstep hL hb) | (have hL := hb)); clear hb; replace hc := bcell hL)) | (go_at_call 12; ((with_reducible refine (offset_is u n 0 m _ us (cell_kept hm (by go_grown)) HO.out).mono ?_); rintro e w1 ⟨rfl, hb⟩; (first | (replace hL := bstep hL hb) | (have hL := hb)); clear hb; replace hc := bcell hL)) | (go_at_call 28; ((with_reducible refine (monthName_is n x _ HX.out).mono ?_); rintro e w1 ⟨rfl, hb⟩; (first | (replace hL := bstep hL hb) | (have hL := hb)); clear hb; replace hc := bcell hL)) | (go_at_call 30; ((with_reducible refine (weekdayName_is n y _ HY.out).mono ?_); rintro e w1 ⟨rfl, hb⟩; (first | (replace hL := bstep hL hb) | (have hL := hb)); clear hb; replace hc := bcell hL)) | (go_at_call 23; ((with_reducible refine (month_is x _ _ _ HM.out).mono ?_); rintro e w1 ⟨rfl, hb⟩; (first | (replace hL := bstep hL hb) | (have hL := hb)); clear hb; replace hc := bcell hL)) | (go_at_call 26; ((with_reducible refine (weekday_is y _ _ _ HW.out).mono ?_); rintro e w1 ⟨rfl, hb⟩; (first | (replace hL := bstep hL hb) | (have hL := hb)); clear hb; replace hc := bcell hL)))
    go_ret
    exact ⟨by first | rfl | (simp; omega), (by have hB := bstep (w := w) (by go_grown) hL; have hs := hB.size; go_grown)⟩
  · go_enter Tryd.func7, Tryd.ntmps7
    go_wp2_with (first | (go_at_call 11; ((with_reducible refine (awake_any m _ hm).mono ?_); rintro e w1 ⟨rfl, hb⟩; (first | (replace hL := bstep hL hb) | (have hL := hb)); clear hb; replace hc := bcell hL)) | (go_at_call 18; ((with_reducible refine (clockText_is n k t _ HT.out).mono ?_); rintro e w1 ⟨rfl, hb⟩; (first | (replace hL := bstep hL hb) | (have hL := hb)); clear hb; replace hc := bcell hL)) | (go_at_call 14; ((with_reducible refine (offText_is n u _ HU.out).mono ?_); rintro e w1 ⟨rfl, hb⟩; (first | (replace hL := bstep hL hb) | (have hL := hb)); clear hb; replace hc := bcell hL)) | (go_at_call 16; ((with_reducible refine (clock_is t n k 0 m _ ts (cell_kept hm (by go_grown)) HC.out).mono ?_); rintro e w1 ⟨rfl, hb⟩; (first | (replace hL := bstep hL hb) | (have hL := hb)); clear hb; replace hc := bcell hL)) | (go_at_call 12; ((with_reducible refine (offset_is u n 0 m _ us (cell_kept hm (by go_grown)) HO.out).mono ?_); rintro e w1 ⟨rfl, hb⟩; (first | (replace hL := bstep hL hb) | (have hL := hb)); clear hb; replace hc := bcell hL)) | (go_at_call 28; ((with_reducible refine (monthName_is n x _ HX.out).mono ?_); rintro e w1 ⟨rfl, hb⟩; (first | (replace hL := bstep hL hb) | (have hL := hb)); clear hb; replace hc := bcell hL)) | (go_at_call 30; ((with_reducible refine (weekdayName_is n y _ HY.out).mono ?_); rintro e w1 ⟨rfl, hb⟩; (first | (replace hL := bstep hL hb) | (have hL := hb)); clear hb; replace hc := bcell hL)) | (go_at_call 23; ((with_reducible refine (month_is x _ _ _ HM.out).mono ?_); rintro e w1 ⟨rfl, hb⟩; (first | (replace hL := bstep hL hb) | (have hL := hb)); clear hb; replace hc := bcell hL)) | (go_at_call 26; ((with_reducible refine (weekday_is y _ _ _ HW.out).mono ?_); rintro e w1 ⟨rfl, hb⟩; (first | (replace hL := bstep hL hb) | (have hL := hb)); clear hb; replace hc := bcell hL)))
    go_ret
    exact ⟨by first | rfl | (simp; omega), (by have hB := bstep (w := w) (by go_grown) hL; have hs := hB.size; go_grown)⟩
  · go_enter Tryd.func7, Tryd.ntmps7
    go_wp2_with (first | (go_at_call 11; ((with_reducible refine (awake_any m _ hm).mono ?_); rintro e w1 ⟨rfl, hb⟩; (first | (replace hL := bstep hL hb) | (have hL := hb)); clear hb; replace hc := bcell hL)) | (go_at_call 18; ((with_reducible refine (clockText_is n k t _ HT.out).mono ?_); rintro e w1 ⟨rfl, hb⟩; (first | (replace hL := bstep hL hb) | (have hL := hb)); clear hb; replace hc := bcell hL)) | (go_at_call 14; ((with_reducible refine (offText_is n u _ HU.out).mono ?_); rintro e w1 ⟨rfl, hb⟩; (first | (replace hL := bstep hL hb) | (have hL := hb)); clear hb; replace hc := bcell hL)) | (go_at_call 16; ((with_reducible refine (clock_is t n k 0 m _ ts (cell_kept hm (by go_grown)) HC.out).mono ?_); rintro e w1 ⟨rfl, hb⟩; (first | (replace hL := bstep hL hb) | (have hL := hb)); clear hb; replace hc := bcell hL)) | (go_at_call 12; ((with_reducible refine (offset_is u n 0 m _ us (cell_kept hm (by go_grown)) HO.out).mono ?_); rintro e w1 ⟨rfl, hb⟩; (first | (replace hL := bstep hL hb) | (have hL := hb)); clear hb; replace hc := bcell hL)) | (go_at_call 28; ((with_reducible refine (monthName_is n x _ HX.out).mono ?_); rintro e w1 ⟨rfl, hb⟩; (first | (replace hL := bstep hL hb) | (have hL := hb)); clear hb; replace hc := bcell hL)) | (go_at_call 30; ((with_reducible refine (weekdayName_is n y _ HY.out).mono ?_); rintro e w1 ⟨rfl, hb⟩; (first | (replace hL := bstep hL hb) | (have hL := hb)); clear hb; replace hc := bcell hL)) | (go_at_call 23; ((with_reducible refine (month_is x _ _ _ HM.out).mono ?_); rintro e w1 ⟨rfl, hb⟩; (first | (replace hL := bstep hL hb) | (have hL := hb)); clear hb; replace hc := bcell hL)) | (go_at_call 26; ((with_reducible refine (weekday_is y _ _ _ HW.out).mono ?_); rintro e w1 ⟨rfl, hb⟩; (first | (replace hL := bstep hL hb) | (have hL := hb)); clear hb; replace hc := bcell hL)))
    go_ret
    exact ⟨by first | rfl | (simp; omega), (by have hB := bstep (w := w) (by go_grown) hL; have hs := hB.size; go_grown)⟩
  · go_enter Tryd.func7, Tryd.ntmps7
    go_wp2_with (first | (go_at_call 11; ((with_reducible refine (awake_any m _ hm).mono ?_); rintro e w1 ⟨rfl, hb⟩; (first | (replace hL := bstep hL hb) | (have hL := hb)); clear hb; replace hc := bcell hL)) | (go_at_call 18; ((with_reducible refine (clockText_is n k t _ HT.out).mono ?_); rintro e w1 ⟨rfl, hb⟩; (first | (replace hL := bstep hL hb) | (have hL := hb)); clear hb; replace hc := bcell hL)) | (go_at_call 14; ((with_reducible refine (offText_is n u _ HU.out).mono ?_); rintro e w1 ⟨rfl, hb⟩; (first | (replace hL := bstep hL hb) | (have hL := hb)); clear hb; replace hc := bcell hL)) | (go_at_call 16; ((with_reducible refine (clock_is t n k 0 m _ ts (cell_kept hm (by go_grown)) HC.out).mono ?_); rintro e w1 ⟨rfl, hb⟩; (first | (replace hL := bstep hL hb) | (have hL := hb)); clear hb; replace hc := bcell hL)) | (go_at_call 12; ((with_reducible refine (offset_is u n 0 m _ us (cell_kept hm (by go_grown)) HO.out).mono ?_); rintro e w1 ⟨rfl, hb⟩; (first | (replace hL := bstep hL hb) | (have hL := hb)); clear hb; replace hc := bcell hL)) | (go_at_call 28; ((with_reducible refine (monthName_is n x _ HX.out).mono ?_); rintro e w1 ⟨rfl, hb⟩; (first | (replace hL := bstep hL hb) | (have hL := hb)); clear hb; replace hc := bcell hL)) | (go_at_call 30; ((with_reducible refine (weekdayName_is n y _ HY.out).mono ?_); rintro e w1 ⟨rfl, hb⟩; (first | (replace hL := bstep hL hb) | (have hL := hb)); clear hb; replace hc := bcell hL)) | (go_at_call 23; ((with_reducible refine (month_is x _ _ _ HM.out).mono ?_); rintro e w1 ⟨rfl, hb⟩; (first | (replace hL := bstep hL hb) | (have hL := hb)); clear hb; replace hc := bcell hL)) | (go_at_call 26; ((with_reducible refine (weekday_is y _ _ _ HW.out).mono ?_); rintro e w1 ⟨rfl, hb⟩; (first | (replace hL := bstep hL hb) | (have hL := hb)); clear hb; replace hc := bcell hL)))
    go_ret
    exact ⟨by first | rfl | (simp; omega), (by have hB := bstep (w := w) (by go_grown) hL; have hs := hB.size; go_grown)⟩

set_option maxRecDepth 20000 in
set_option maxHeartbeats 1000000 in
theorem back_t (n k m : Int) (w : World) (hm : w.cell? ⟨0, 0, none⟩ = some (.int .i64 m)) (t u x y : ByteArray) (a b c d : Int) (ht : clkS n k = t) (hu : offS n = u) (hx : getZ MON n = x) (hy : getZ WKD n = y) (hM : findZ MON x = (a, b)) (hW : findZ WKD y = (c, d)) (hne : t ≠ ⟨#[]⟩) (hue : u = ⟨#[]⟩) :
    Calls Tryd.prog 7 #[.int .i64 n, .int .i64 k] w fun e w' => e = .returned (.bool true) ∧ Below w.heap.size w w' := by
  have ts : t.size < 4294967281 := by have := clkS_size n k; rw [ht] at this; omega
  have us : u.size < 4294967281 := by have := offS_size n; rw [hu] at this; omega
  have hnm := names_ok n a b c d (by rw [hx]; exact hM) (by rw [hy]; exact hW)
  have HT := Lib.hid ht
  have HU := Lib.hid hu
  have HX := Lib.hid hx
  have HY := Lib.hid hy
  have HM := Lib.hid hM
  have HW := Lib.hid hW
  have HC := Lib.hid (show clkZ t = (n, k, 0) by rw [← ht]; exact clock_back n k (by rw [ht]; exact hne))
  have htn := not_nil t (size_pos t hne)
  clear hne
  subst hue
  clear ht hu hx hy hM hW
  rcases hnm with ⟨q, rfl, rfl⟩ | ⟨q, q2, rfl, rfl, rfl, rfl⟩ | ⟨q, q2, rfl, rfl, rfl⟩ | ⟨q, rfl, rfl⟩
  · go_enter Tryd.func7, Tryd.ntmps7
    go_wp2_with (first | (go_at_call 11; ((with_reducible refine (awake_any m _ hm).mono ?_); rintro e w1 ⟨rfl, hb⟩; (first | (replace hL := bstep hL hb) | (have hL := hb)); clear hb; replace hc := bcell hL)) | (go_at_call 18; ((with_reducible refine (clockText_is n k t _ HT.out).mono ?_); rintro e w1 ⟨rfl, hb⟩; (first | (replace hL := bstep hL hb) | (have hL := hb)); clear hb; replace hc := bcell hL)) | (go_at_call 14; ((with_reducible refine (offText_is n ⟨#[]⟩ _ HU.out).mono ?_); rintro e w1 ⟨rfl, hb⟩; (first | (replace hL := bstep hL hb) | (have hL := hb)); clear hb; replace hc := bcell hL)) | (go_at_call 16; ((with_reducible refine (clock_is t n k 0 m _ ts (cell_kept hm (by go_grown)) HC.out).mono ?_); rintro e w1 ⟨rfl, hb⟩; (first | (replace hL := bstep hL hb) | (have hL := hb)); clear hb; replace hc := bcell hL)) | (go_at_call 28; ((with_reducible refine (monthName_is n x _ HX.out).mono ?_); rintro e w1 ⟨rfl, hb⟩; (first | (replace hL := bstep hL hb) | (have hL := hb)); clear hb; replace hc := bcell hL)) | (go_at_call 30; ((with_reducible refine (weekdayName_is n y _ HY.out).mono ?_); rintro e w1 ⟨rfl, hb⟩; (first | (replace hL := bstep hL hb) | (have hL := hb)); clear hb; replace hc := bcell hL)) | (go_at_call 23; ((with_reducible refine (month_is x _ _ _ HM.out).mono ?_); rintro e w1 ⟨rfl, hb⟩; (first | (replace hL := bstep hL hb) | (have hL := hb)); clear hb; replace hc := bcell hL)) | (go_at_call 26; ((with_reducible refine (weekday_is y _ _ _ HW.out).mono ?_); rintro e w1 ⟨rfl, hb⟩; (first | (replace hL := bstep hL hb) | (have hL := hb)); clear hb; replace hc := bcell hL)))
    go_ret
    exact ⟨by first | rfl | (simp; omega), (by have hB := bstep (w := w) (by go_grown) hL; have hs := hB.size; go_grown)⟩
  · go_enter Tryd.func7, Tryd.ntmps7
    go_wp2_with (first | (go_at_call 11; ((with_reducible refine (awake_any m _ hm).mono ?_); rintro e w1 ⟨rfl, hb⟩; (first | (replace hL := bstep hL hb) | (have hL := hb)); clear hb; replace hc := bcell hL)) | (go_at_call 18; ((with_reducible refine (clockText_is n k t _ HT.out).mono ?_); rintro e w1 ⟨rfl, hb⟩; (first | (replace hL := bstep hL hb) | (have hL := hb)); clear hb; replace hc := bcell hL)) | (go_at_call 14; ((with_reducible refine (offText_is n ⟨#[]⟩ _ HU.out).mono ?_); rintro e w1 ⟨rfl, hb⟩; (first | (replace hL := bstep hL hb) | (have hL := hb)); clear hb; replace hc := bcell hL)) | (go_at_call 16; ((with_reducible refine (clock_is t n k 0 m _ ts (cell_kept hm (by go_grown)) HC.out).mono ?_); rintro e w1 ⟨rfl, hb⟩; (first | (replace hL := bstep hL hb) | (have hL := hb)); clear hb; replace hc := bcell hL)) | (go_at_call 28; ((with_reducible refine (monthName_is n x _ HX.out).mono ?_); rintro e w1 ⟨rfl, hb⟩; (first | (replace hL := bstep hL hb) | (have hL := hb)); clear hb; replace hc := bcell hL)) | (go_at_call 30; ((with_reducible refine (weekdayName_is n y _ HY.out).mono ?_); rintro e w1 ⟨rfl, hb⟩; (first | (replace hL := bstep hL hb) | (have hL := hb)); clear hb; replace hc := bcell hL)) | (go_at_call 23; ((with_reducible refine (month_is x _ _ _ HM.out).mono ?_); rintro e w1 ⟨rfl, hb⟩; (first | (replace hL := bstep hL hb) | (have hL := hb)); clear hb; replace hc := bcell hL)) | (go_at_call 26; ((with_reducible refine (weekday_is y _ _ _ HW.out).mono ?_); rintro e w1 ⟨rfl, hb⟩; (first | (replace hL := bstep hL hb) | (have hL := hb)); clear hb; replace hc := bcell hL)))
    go_ret
    exact ⟨by first | rfl | (simp; omega), (by have hB := bstep (w := w) (by go_grown) hL; have hs := hB.size; go_grown)⟩
  · go_enter Tryd.func7, Tryd.ntmps7
    go_wp2_with (first | (go_at_call 11; ((with_reducible refine (awake_any m _ hm).mono ?_); rintro e w1 ⟨rfl, hb⟩; (first | (replace hL := bstep hL hb) | (have hL := hb)); clear hb; replace hc := bcell hL)) | (go_at_call 18; ((with_reducible refine (clockText_is n k t _ HT.out).mono ?_); rintro e w1 ⟨rfl, hb⟩; (first | (replace hL := bstep hL hb) | (have hL := hb)); clear hb; replace hc := bcell hL)) | (go_at_call 14; ((with_reducible refine (offText_is n ⟨#[]⟩ _ HU.out).mono ?_); rintro e w1 ⟨rfl, hb⟩; (first | (replace hL := bstep hL hb) | (have hL := hb)); clear hb; replace hc := bcell hL)) | (go_at_call 16; ((with_reducible refine (clock_is t n k 0 m _ ts (cell_kept hm (by go_grown)) HC.out).mono ?_); rintro e w1 ⟨rfl, hb⟩; (first | (replace hL := bstep hL hb) | (have hL := hb)); clear hb; replace hc := bcell hL)) | (go_at_call 28; ((with_reducible refine (monthName_is n x _ HX.out).mono ?_); rintro e w1 ⟨rfl, hb⟩; (first | (replace hL := bstep hL hb) | (have hL := hb)); clear hb; replace hc := bcell hL)) | (go_at_call 30; ((with_reducible refine (weekdayName_is n y _ HY.out).mono ?_); rintro e w1 ⟨rfl, hb⟩; (first | (replace hL := bstep hL hb) | (have hL := hb)); clear hb; replace hc := bcell hL)) | (go_at_call 23; ((with_reducible refine (month_is x _ _ _ HM.out).mono ?_); rintro e w1 ⟨rfl, hb⟩; (first | (replace hL := bstep hL hb) | (have hL := hb)); clear hb; replace hc := bcell hL)) | (go_at_call 26; ((with_reducible refine (weekday_is y _ _ _ HW.out).mono ?_); rintro e w1 ⟨rfl, hb⟩; (first | (replace hL := bstep hL hb) | (have hL := hb)); clear hb; replace hc := bcell hL)))
    go_ret
    exact ⟨by first | rfl | (simp; omega), (by have hB := bstep (w := w) (by go_grown) hL; have hs := hB.size; go_grown)⟩
  · go_enter Tryd.func7, Tryd.ntmps7
    go_wp2_with (first | (go_at_call 11; ((with_reducible refine (awake_any m _ hm).mono ?_); rintro e w1 ⟨rfl, hb⟩; (first | (replace hL := bstep hL hb) | (have hL := hb)); clear hb; replace hc := bcell hL)) | (go_at_call 18; ((with_reducible refine (clockText_is n k t _ HT.out).mono ?_); rintro e w1 ⟨rfl, hb⟩; (first | (replace hL := bstep hL hb) | (have hL := hb)); clear hb; replace hc := bcell hL)) | (go_at_call 14; ((with_reducible refine (offText_is n ⟨#[]⟩ _ HU.out).mono ?_); rintro e w1 ⟨rfl, hb⟩; (first | (replace hL := bstep hL hb) | (have hL := hb)); clear hb; replace hc := bcell hL)) | (go_at_call 16; ((with_reducible refine (clock_is t n k 0 m _ ts (cell_kept hm (by go_grown)) HC.out).mono ?_); rintro e w1 ⟨rfl, hb⟩; (first | (replace hL := bstep hL hb) | (have hL := hb)); clear hb; replace hc := bcell hL)) | (go_at_call 28; ((with_reducible refine (monthName_is n x _ HX.out).mono ?_); rintro e w1 ⟨rfl, hb⟩; (first | (replace hL := bstep hL hb) | (have hL := hb)); clear hb; replace hc := bcell hL)) | (go_at_call 30; ((with_reducible refine (weekdayName_is n y _ HY.out).mono ?_); rintro e w1 ⟨rfl, hb⟩; (first | (replace hL := bstep hL hb) | (have hL := hb)); clear hb; replace hc := bcell hL)) | (go_at_call 23; ((with_reducible refine (month_is x _ _ _ HM.out).mono ?_); rintro e w1 ⟨rfl, hb⟩; (first | (replace hL := bstep hL hb) | (have hL := hb)); clear hb; replace hc := bcell hL)) | (go_at_call 26; ((with_reducible refine (weekday_is y _ _ _ HW.out).mono ?_); rintro e w1 ⟨rfl, hb⟩; (first | (replace hL := bstep hL hb) | (have hL := hb)); clear hb; replace hc := bcell hL)))
    go_ret
    exact ⟨by first | rfl | (simp; omega), (by have hB := bstep (w := w) (by go_grown) hL; have hs := hB.size; go_grown)⟩

set_option maxRecDepth 20000 in
set_option maxHeartbeats 1000000 in
theorem back_u (n k m : Int) (w : World) (hm : w.cell? ⟨0, 0, none⟩ = some (.int .i64 m)) (t u x y : ByteArray) (a b c d : Int) (ht : clkS n k = t) (hu : offS n = u) (hx : getZ MON n = x) (hy : getZ WKD n = y) (hM : findZ MON x = (a, b)) (hW : findZ WKD y = (c, d)) (hte : t = ⟨#[]⟩) (hno : u ≠ ⟨#[]⟩) :
    Calls Tryd.prog 7 #[.int .i64 n, .int .i64 k] w fun e w' => e = .returned (.bool true) ∧ Below w.heap.size w w' := by
  have ts : t.size < 4294967281 := by have := clkS_size n k; rw [ht] at this; omega
  have us : u.size < 4294967281 := by have := offS_size n; rw [hu] at this; omega
  have hnm := names_ok n a b c d (by rw [hx]; exact hM) (by rw [hy]; exact hW)
  have HT := Lib.hid ht
  have HU := Lib.hid hu
  have HX := Lib.hid hx
  have HY := Lib.hid hy
  have HM := Lib.hid hM
  have HW := Lib.hid hW
  subst hte
  have HO := Lib.hid (show offZ u = (n, 0) by rw [← hu]; exact off_back n (by rw [hu]; exact hno))
  have hun := not_nil u (size_pos u hno)
  clear hno
  clear ht hu hx hy hM hW
  rcases hnm with ⟨q, rfl, rfl⟩ | ⟨q, q2, rfl, rfl, rfl, rfl⟩ | ⟨q, q2, rfl, rfl, rfl⟩ | ⟨q, rfl, rfl⟩
  · go_enter Tryd.func7, Tryd.ntmps7
    go_wp2_with (first | (go_at_call 11; ((with_reducible refine (awake_any m _ hm).mono ?_); rintro e w1 ⟨rfl, hb⟩; (first | (replace hL := bstep hL hb) | (have hL := hb)); clear hb; replace hc := bcell hL)) | (go_at_call 18; ((with_reducible refine (clockText_is n k ⟨#[]⟩ _ HT.out).mono ?_); rintro e w1 ⟨rfl, hb⟩; (first | (replace hL := bstep hL hb) | (have hL := hb)); clear hb; replace hc := bcell hL)) | (go_at_call 14; ((with_reducible refine (offText_is n u _ HU.out).mono ?_); rintro e w1 ⟨rfl, hb⟩; (first | (replace hL := bstep hL hb) | (have hL := hb)); clear hb; replace hc := bcell hL)) | (go_at_call 12; ((with_reducible refine (offset_is u n 0 m _ us (cell_kept hm (by go_grown)) HO.out).mono ?_); rintro e w1 ⟨rfl, hb⟩; (first | (replace hL := bstep hL hb) | (have hL := hb)); clear hb; replace hc := bcell hL)) | (go_at_call 28; ((with_reducible refine (monthName_is n x _ HX.out).mono ?_); rintro e w1 ⟨rfl, hb⟩; (first | (replace hL := bstep hL hb) | (have hL := hb)); clear hb; replace hc := bcell hL)) | (go_at_call 30; ((with_reducible refine (weekdayName_is n y _ HY.out).mono ?_); rintro e w1 ⟨rfl, hb⟩; (first | (replace hL := bstep hL hb) | (have hL := hb)); clear hb; replace hc := bcell hL)) | (go_at_call 23; ((with_reducible refine (month_is x _ _ _ HM.out).mono ?_); rintro e w1 ⟨rfl, hb⟩; (first | (replace hL := bstep hL hb) | (have hL := hb)); clear hb; replace hc := bcell hL)) | (go_at_call 26; ((with_reducible refine (weekday_is y _ _ _ HW.out).mono ?_); rintro e w1 ⟨rfl, hb⟩; (first | (replace hL := bstep hL hb) | (have hL := hb)); clear hb; replace hc := bcell hL)))
    go_ret
    exact ⟨by first | rfl | (simp; omega), (by have hB := bstep (w := w) (by go_grown) hL; have hs := hB.size; go_grown)⟩
  · go_enter Tryd.func7, Tryd.ntmps7
    go_wp2_with (first | (go_at_call 11; ((with_reducible refine (awake_any m _ hm).mono ?_); rintro e w1 ⟨rfl, hb⟩; (first | (replace hL := bstep hL hb) | (have hL := hb)); clear hb; replace hc := bcell hL)) | (go_at_call 18; ((with_reducible refine (clockText_is n k ⟨#[]⟩ _ HT.out).mono ?_); rintro e w1 ⟨rfl, hb⟩; (first | (replace hL := bstep hL hb) | (have hL := hb)); clear hb; replace hc := bcell hL)) | (go_at_call 14; ((with_reducible refine (offText_is n u _ HU.out).mono ?_); rintro e w1 ⟨rfl, hb⟩; (first | (replace hL := bstep hL hb) | (have hL := hb)); clear hb; replace hc := bcell hL)) | (go_at_call 12; ((with_reducible refine (offset_is u n 0 m _ us (cell_kept hm (by go_grown)) HO.out).mono ?_); rintro e w1 ⟨rfl, hb⟩; (first | (replace hL := bstep hL hb) | (have hL := hb)); clear hb; replace hc := bcell hL)) | (go_at_call 28; ((with_reducible refine (monthName_is n x _ HX.out).mono ?_); rintro e w1 ⟨rfl, hb⟩; (first | (replace hL := bstep hL hb) | (have hL := hb)); clear hb; replace hc := bcell hL)) | (go_at_call 30; ((with_reducible refine (weekdayName_is n y _ HY.out).mono ?_); rintro e w1 ⟨rfl, hb⟩; (first | (replace hL := bstep hL hb) | (have hL := hb)); clear hb; replace hc := bcell hL)) | (go_at_call 23; ((with_reducible refine (month_is x _ _ _ HM.out).mono ?_); rintro e w1 ⟨rfl, hb⟩; (first | (replace hL := bstep hL hb) | (have hL := hb)); clear hb; replace hc := bcell hL)) | (go_at_call 26; ((with_reducible refine (weekday_is y _ _ _ HW.out).mono ?_); rintro e w1 ⟨rfl, hb⟩; (first | (replace hL := bstep hL hb) | (have hL := hb)); clear hb; replace hc := bcell hL)))
    go_ret
    exact ⟨by first | rfl | (simp; omega), (by have hB := bstep (w := w) (by go_grown) hL; have hs := hB.size; go_grown)⟩
  · go_enter Tryd.func7, Tryd.ntmps7
    go_wp2_with (first | (go_at_call 11; ((with_reducible refine (awake_any m _ hm).mono ?_); rintro e w1 ⟨rfl, hb⟩; (first | (replace hL := bstep hL hb) | (have hL := hb)); clear hb; replace hc := bcell hL)) | (go_at_call 18; ((with_reducible refine (clockText_is n k ⟨#[]⟩ _ HT.out).mono ?_); rintro e w1 ⟨rfl, hb⟩; (first | (replace hL := bstep hL hb) | (have hL := hb)); clear hb; replace hc := bcell hL)) | (go_at_call 14; ((with_reducible refine (offText_is n u _ HU.out).mono ?_); rintro e w1 ⟨rfl, hb⟩; (first | (replace hL := bstep hL hb) | (have hL := hb)); clear hb; replace hc := bcell hL)) | (go_at_call 12; ((with_reducible refine (offset_is u n 0 m _ us (cell_kept hm (by go_grown)) HO.out).mono ?_); rintro e w1 ⟨rfl, hb⟩; (first | (replace hL := bstep hL hb) | (have hL := hb)); clear hb; replace hc := bcell hL)) | (go_at_call 28; ((with_reducible refine (monthName_is n x _ HX.out).mono ?_); rintro e w1 ⟨rfl, hb⟩; (first | (replace hL := bstep hL hb) | (have hL := hb)); clear hb; replace hc := bcell hL)) | (go_at_call 30; ((with_reducible refine (weekdayName_is n y _ HY.out).mono ?_); rintro e w1 ⟨rfl, hb⟩; (first | (replace hL := bstep hL hb) | (have hL := hb)); clear hb; replace hc := bcell hL)) | (go_at_call 23; ((with_reducible refine (month_is x _ _ _ HM.out).mono ?_); rintro e w1 ⟨rfl, hb⟩; (first | (replace hL := bstep hL hb) | (have hL := hb)); clear hb; replace hc := bcell hL)) | (go_at_call 26; ((with_reducible refine (weekday_is y _ _ _ HW.out).mono ?_); rintro e w1 ⟨rfl, hb⟩; (first | (replace hL := bstep hL hb) | (have hL := hb)); clear hb; replace hc := bcell hL)))
    go_ret
    exact ⟨by first | rfl | (simp; omega), (by have hB := bstep (w := w) (by go_grown) hL; have hs := hB.size; go_grown)⟩
  · go_enter Tryd.func7, Tryd.ntmps7
    go_wp2_with (first | (go_at_call 11; ((with_reducible refine (awake_any m _ hm).mono ?_); rintro e w1 ⟨rfl, hb⟩; (first | (replace hL := bstep hL hb) | (have hL := hb)); clear hb; replace hc := bcell hL)) | (go_at_call 18; ((with_reducible refine (clockText_is n k ⟨#[]⟩ _ HT.out).mono ?_); rintro e w1 ⟨rfl, hb⟩; (first | (replace hL := bstep hL hb) | (have hL := hb)); clear hb; replace hc := bcell hL)) | (go_at_call 14; ((with_reducible refine (offText_is n u _ HU.out).mono ?_); rintro e w1 ⟨rfl, hb⟩; (first | (replace hL := bstep hL hb) | (have hL := hb)); clear hb; replace hc := bcell hL)) | (go_at_call 12; ((with_reducible refine (offset_is u n 0 m _ us (cell_kept hm (by go_grown)) HO.out).mono ?_); rintro e w1 ⟨rfl, hb⟩; (first | (replace hL := bstep hL hb) | (have hL := hb)); clear hb; replace hc := bcell hL)) | (go_at_call 28; ((with_reducible refine (monthName_is n x _ HX.out).mono ?_); rintro e w1 ⟨rfl, hb⟩; (first | (replace hL := bstep hL hb) | (have hL := hb)); clear hb; replace hc := bcell hL)) | (go_at_call 30; ((with_reducible refine (weekdayName_is n y _ HY.out).mono ?_); rintro e w1 ⟨rfl, hb⟩; (first | (replace hL := bstep hL hb) | (have hL := hb)); clear hb; replace hc := bcell hL)) | (go_at_call 23; ((with_reducible refine (month_is x _ _ _ HM.out).mono ?_); rintro e w1 ⟨rfl, hb⟩; (first | (replace hL := bstep hL hb) | (have hL := hb)); clear hb; replace hc := bcell hL)) | (go_at_call 26; ((with_reducible refine (weekday_is y _ _ _ HW.out).mono ?_); rintro e w1 ⟨rfl, hb⟩; (first | (replace hL := bstep hL hb) | (have hL := hb)); clear hb; replace hc := bcell hL)))
    go_ret
    exact ⟨by first | rfl | (simp; omega), (by have hB := bstep (w := w) (by go_grown) hL; have hs := hB.size; go_grown)⟩

set_option maxRecDepth 20000 in
set_option maxHeartbeats 1000000 in
theorem back_n (n k m : Int) (w : World) (hm : w.cell? ⟨0, 0, none⟩ = some (.int .i64 m)) (t u x y : ByteArray) (a b c d : Int) (ht : clkS n k = t) (hu : offS n = u) (hx : getZ MON n = x) (hy : getZ WKD n = y) (hM : findZ MON x = (a, b)) (hW : findZ WKD y = (c, d)) (hte : t = ⟨#[]⟩) (hue : u = ⟨#[]⟩) :
    Calls Tryd.prog 7 #[.int .i64 n, .int .i64 k] w fun e w' => e = .returned (.bool true) ∧ Below w.heap.size w w' := by
  have ts : t.size < 4294967281 := by have := clkS_size n k; rw [ht] at this; omega
  have us : u.size < 4294967281 := by have := offS_size n; rw [hu] at this; omega
  have hnm := names_ok n a b c d (by rw [hx]; exact hM) (by rw [hy]; exact hW)
  have HT := Lib.hid ht
  have HU := Lib.hid hu
  have HX := Lib.hid hx
  have HY := Lib.hid hy
  have HM := Lib.hid hM
  have HW := Lib.hid hW
  subst hte
  subst hue
  clear ht hu hx hy hM hW
  rcases hnm with ⟨q, rfl, rfl⟩ | ⟨q, q2, rfl, rfl, rfl, rfl⟩ | ⟨q, q2, rfl, rfl, rfl⟩ | ⟨q, rfl, rfl⟩
  · go_enter Tryd.func7, Tryd.ntmps7
    go_wp2_with (first | (go_at_call 11; ((with_reducible refine (awake_any m _ hm).mono ?_); rintro e w1 ⟨rfl, hb⟩; (first | (replace hL := bstep hL hb) | (have hL := hb)); clear hb; replace hc := bcell hL)) | (go_at_call 18; ((with_reducible refine (clockText_is n k ⟨#[]⟩ _ HT.out).mono ?_); rintro e w1 ⟨rfl, hb⟩; (first | (replace hL := bstep hL hb) | (have hL := hb)); clear hb; replace hc := bcell hL)) | (go_at_call 14; ((with_reducible refine (offText_is n ⟨#[]⟩ _ HU.out).mono ?_); rintro e w1 ⟨rfl, hb⟩; (first | (replace hL := bstep hL hb) | (have hL := hb)); clear hb; replace hc := bcell hL)) | (go_at_call 28; ((with_reducible refine (monthName_is n x _ HX.out).mono ?_); rintro e w1 ⟨rfl, hb⟩; (first | (replace hL := bstep hL hb) | (have hL := hb)); clear hb; replace hc := bcell hL)) | (go_at_call 30; ((with_reducible refine (weekdayName_is n y _ HY.out).mono ?_); rintro e w1 ⟨rfl, hb⟩; (first | (replace hL := bstep hL hb) | (have hL := hb)); clear hb; replace hc := bcell hL)) | (go_at_call 23; ((with_reducible refine (month_is x _ _ _ HM.out).mono ?_); rintro e w1 ⟨rfl, hb⟩; (first | (replace hL := bstep hL hb) | (have hL := hb)); clear hb; replace hc := bcell hL)) | (go_at_call 26; ((with_reducible refine (weekday_is y _ _ _ HW.out).mono ?_); rintro e w1 ⟨rfl, hb⟩; (first | (replace hL := bstep hL hb) | (have hL := hb)); clear hb; replace hc := bcell hL)))
    go_ret
    exact ⟨by first | rfl | (simp; omega), (by have hB := bstep (w := w) (by go_grown) hL; have hs := hB.size; go_grown)⟩
  · go_enter Tryd.func7, Tryd.ntmps7
    go_wp2_with (first | (go_at_call 11; ((with_reducible refine (awake_any m _ hm).mono ?_); rintro e w1 ⟨rfl, hb⟩; (first | (replace hL := bstep hL hb) | (have hL := hb)); clear hb; replace hc := bcell hL)) | (go_at_call 18; ((with_reducible refine (clockText_is n k ⟨#[]⟩ _ HT.out).mono ?_); rintro e w1 ⟨rfl, hb⟩; (first | (replace hL := bstep hL hb) | (have hL := hb)); clear hb; replace hc := bcell hL)) | (go_at_call 14; ((with_reducible refine (offText_is n ⟨#[]⟩ _ HU.out).mono ?_); rintro e w1 ⟨rfl, hb⟩; (first | (replace hL := bstep hL hb) | (have hL := hb)); clear hb; replace hc := bcell hL)) | (go_at_call 28; ((with_reducible refine (monthName_is n x _ HX.out).mono ?_); rintro e w1 ⟨rfl, hb⟩; (first | (replace hL := bstep hL hb) | (have hL := hb)); clear hb; replace hc := bcell hL)) | (go_at_call 30; ((with_reducible refine (weekdayName_is n y _ HY.out).mono ?_); rintro e w1 ⟨rfl, hb⟩; (first | (replace hL := bstep hL hb) | (have hL := hb)); clear hb; replace hc := bcell hL)) | (go_at_call 23; ((with_reducible refine (month_is x _ _ _ HM.out).mono ?_); rintro e w1 ⟨rfl, hb⟩; (first | (replace hL := bstep hL hb) | (have hL := hb)); clear hb; replace hc := bcell hL)) | (go_at_call 26; ((with_reducible refine (weekday_is y _ _ _ HW.out).mono ?_); rintro e w1 ⟨rfl, hb⟩; (first | (replace hL := bstep hL hb) | (have hL := hb)); clear hb; replace hc := bcell hL)))
    go_ret
    exact ⟨by first | rfl | (simp; omega), (by have hB := bstep (w := w) (by go_grown) hL; have hs := hB.size; go_grown)⟩
  · go_enter Tryd.func7, Tryd.ntmps7
    go_wp2_with (first | (go_at_call 11; ((with_reducible refine (awake_any m _ hm).mono ?_); rintro e w1 ⟨rfl, hb⟩; (first | (replace hL := bstep hL hb) | (have hL := hb)); clear hb; replace hc := bcell hL)) | (go_at_call 18; ((with_reducible refine (clockText_is n k ⟨#[]⟩ _ HT.out).mono ?_); rintro e w1 ⟨rfl, hb⟩; (first | (replace hL := bstep hL hb) | (have hL := hb)); clear hb; replace hc := bcell hL)) | (go_at_call 14; ((with_reducible refine (offText_is n ⟨#[]⟩ _ HU.out).mono ?_); rintro e w1 ⟨rfl, hb⟩; (first | (replace hL := bstep hL hb) | (have hL := hb)); clear hb; replace hc := bcell hL)) | (go_at_call 28; ((with_reducible refine (monthName_is n x _ HX.out).mono ?_); rintro e w1 ⟨rfl, hb⟩; (first | (replace hL := bstep hL hb) | (have hL := hb)); clear hb; replace hc := bcell hL)) | (go_at_call 30; ((with_reducible refine (weekdayName_is n y _ HY.out).mono ?_); rintro e w1 ⟨rfl, hb⟩; (first | (replace hL := bstep hL hb) | (have hL := hb)); clear hb; replace hc := bcell hL)) | (go_at_call 23; ((with_reducible refine (month_is x _ _ _ HM.out).mono ?_); rintro e w1 ⟨rfl, hb⟩; (first | (replace hL := bstep hL hb) | (have hL := hb)); clear hb; replace hc := bcell hL)) | (go_at_call 26; ((with_reducible refine (weekday_is y _ _ _ HW.out).mono ?_); rintro e w1 ⟨rfl, hb⟩; (first | (replace hL := bstep hL hb) | (have hL := hb)); clear hb; replace hc := bcell hL)))
    go_ret
    exact ⟨by first | rfl | (simp; omega), (by have hB := bstep (w := w) (by go_grown) hL; have hs := hB.size; go_grown)⟩
  · go_enter Tryd.func7, Tryd.ntmps7
    go_wp2_with (first | (go_at_call 11; ((with_reducible refine (awake_any m _ hm).mono ?_); rintro e w1 ⟨rfl, hb⟩; (first | (replace hL := bstep hL hb) | (have hL := hb)); clear hb; replace hc := bcell hL)) | (go_at_call 18; ((with_reducible refine (clockText_is n k ⟨#[]⟩ _ HT.out).mono ?_); rintro e w1 ⟨rfl, hb⟩; (first | (replace hL := bstep hL hb) | (have hL := hb)); clear hb; replace hc := bcell hL)) | (go_at_call 14; ((with_reducible refine (offText_is n ⟨#[]⟩ _ HU.out).mono ?_); rintro e w1 ⟨rfl, hb⟩; (first | (replace hL := bstep hL hb) | (have hL := hb)); clear hb; replace hc := bcell hL)) | (go_at_call 28; ((with_reducible refine (monthName_is n x _ HX.out).mono ?_); rintro e w1 ⟨rfl, hb⟩; (first | (replace hL := bstep hL hb) | (have hL := hb)); clear hb; replace hc := bcell hL)) | (go_at_call 30; ((with_reducible refine (weekdayName_is n y _ HY.out).mono ?_); rintro e w1 ⟨rfl, hb⟩; (first | (replace hL := bstep hL hb) | (have hL := hb)); clear hb; replace hc := bcell hL)) | (go_at_call 23; ((with_reducible refine (month_is x _ _ _ HM.out).mono ?_); rintro e w1 ⟨rfl, hb⟩; (first | (replace hL := bstep hL hb) | (have hL := hb)); clear hb; replace hc := bcell hL)) | (go_at_call 26; ((with_reducible refine (weekday_is y _ _ _ HW.out).mono ?_); rintro e w1 ⟨rfl, hb⟩; (first | (replace hL := bstep hL hb) | (have hL := hb)); clear hb; replace hc := bcell hL)))
    go_ret
    exact ⟨by first | rfl | (simp; omega), (by have hB := bstep (w := w) (by go_grown) hL; have hs := hB.size; go_grown)⟩

theorem lexBack_walk (n k : Int) (m : Int) (w : World) (hm : w.cell? ⟨0, 0, none⟩ = some (.int .i64 m)) :
    Calls Tryd.prog 7 #[.int .i64 n, .int .i64 k] w fun e w' => e = .returned (.bool true) ∧ Below w.heap.size w w' := by
  by_cases ht : clkS n k = ⟨#[]⟩
  · by_cases hu : offS n = ⟨#[]⟩
    · exact back_n n k m w hm _ _ _ _ _ _ _ _ rfl rfl rfl rfl rfl rfl ht hu
    · exact back_u n k m w hm _ _ _ _ _ _ _ _ rfl rfl rfl rfl rfl rfl ht hu
  · by_cases hu : offS n = ⟨#[]⟩
    · exact back_t n k m w hm _ _ _ _ _ _ _ _ rfl rfl rfl rfl rfl rfl ht hu
    · exact back_tu n k m w hm _ _ _ _ _ _ _ _ rfl rfl rfl rfl rfl rfl ht hu
end Go.Proofs.YtcpfbemmlmdcaaaDoor.Lx
