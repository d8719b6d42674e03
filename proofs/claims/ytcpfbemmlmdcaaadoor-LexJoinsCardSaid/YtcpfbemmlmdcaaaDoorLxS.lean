/-
  The walks of layer 18's reading of spans (digit, span) and of the reference's, of the program civiltime.
-/
import Derived.Test.YtcpfbemmlmdcaaaDoorLxA
import Derived.Test.YtcpfbemmlmdcaaaDoorLxP
import Derived.Test.YtcpfbemmlmdcaaaDoorShelf
set_option linter.unusedSimpArgs false
set_option linter.unusedVariables false
namespace Go.Proofs.YtcpfbemmlmdcaaaDoor.Lx
open Go.RowKit Go.ChangeShapes Go.WideShapes Go.Proofs.YtcpfbemmlmdcaaaDoor.Sl

theorem digit_any (x : Nat) (w : World) : Calls Tryd.prog 57 #[.int .u8 x] w fun e w' => e = .returned (.bool (dgB x)) ∧ w = w' := by
  unfold dgB
  by_cases h1 : 48 ≤ x
  · go_enter Tryd.func57, Tryd.ntmps57
    go_wp2
    go_ret
    exact ⟨by simp [h1]; try omega, rfl⟩
  · go_enter Tryd.func57, Tryd.ntmps57
    go_wp2
    go_ret
    exact ⟨by simp [h1], rfl⟩
theorem digit48 (w : World) : Calls Tryd.prog 57 #[.int .u8 48] w fun e w' => e = .returned (.bool true) ∧ w = w' := digit_any 48 w
theorem rdigit_any (x : Nat) (w : World) : Calls Tryd.prog 61 #[.int .u8 x] w fun e w' => e = .returned (.bool (dgB x)) ∧ w = w' := by
  unfold dgB
  by_cases h1 : 48 ≤ x
  · go_enter Tryd.func61, Tryd.ntmps61
    go_wp2
    go_ret
    exact ⟨by simp [h1]; try omega, rfl⟩
  · go_enter Tryd.func61, Tryd.ntmps61
    go_wp2
    go_ret
    exact ⟨by simp [h1], rfl⟩

theorem split_any (s : ByteArray) (c : UInt8) (m : Int) (w : World) (hs : s.size < 4294967281) (hm : w.cell? ⟨0, 0, none⟩ = some (.int .i64 m)) :
    Calls Tryd.prog 41 #[.string s, .string ⟨#[c]⟩] w fun e w' => ∃ PB : List ByteArray, PB.map (·.data.toList) = splitL c s.data.toList ∧ PB.length ≤ s.size + 1 ∧
      e = .returned (.slice (some ⟨w.heap.size, 0, none⟩) PB.length PB.length) ∧ w' = w.alloc (.cells (PB.map Value.string).toArray 9) := by
  refine (Tryd.strings_Split s ⟨#[c]⟩ m w hs hm (by show 1 ≤ 1; omega)).mono ?_
  rintro e w' ⟨rfl, rfl⟩
  have hl := Lib.splitB_all ⟨#[c]⟩ (by show 1 ≤ 1; omega) 0 _ s rfl
  have hle := Lib.countB_le ⟨#[c]⟩ (by show 1 ≤ 1; omega) s.size s (Nat.le_refl _)
  exact ⟨_, splitB_one c s, by rw [hl]; omega, by rw [hl], rfl⟩

theorem cells_str (w : World) (PB : List ByteArray) (t : TypeId) : ∀ j p, PB[j]? = some p → (w.alloc (.cells (PB.map Value.string).toArray t)).cell? ⟨w.heap.size, j, none⟩ = some (.string p) := by
  intro j p h
  have := cells_new w (PB.map Value.string) t j (.string p) (by rw [List.getElem?_map, h]; rfl)
  have hadd : (⟨w.heap.size, 0, none⟩ : Addr).add j = ⟨w.heap.size, j, none⟩ := by unfold Addr.add; split <;> simp_all
  rw [hadd] at this
  exact this
theorem spanZ_small (s : ByteArray) (PB : List ByteArray) (h : PB.map (·.data.toList) = splitL 58 s.data.toList) (hl : (PB.length : Int) ≤ 3) : spanZ s = foldS 0 (PB.map (·.data.toList)) 0 := by
  unfold spanZ
  rw [← h, if_neg (by rw [List.length_map]; omega)]
theorem spanZ_big (s : ByteArray) (PB : List ByteArray) (h : PB.map (·.data.toList) = splitL 58 s.data.toList) (hl : ¬ (PB.length : Int) ≤ 3) : spanZ s = none := by
  unfold spanZ
  rw [← h, if_pos (by rw [List.length_map]; omega)]

set_option maxRecDepth 20000 in
set_option maxHeartbeats 4000000 in
theorem span_any (s : ByteArray) (m : Int) (w : World) (hs : s.size < 4294967281) (hm : w.cell? ⟨0, 0, none⟩ = some (.int .i64 m)) :
    Calls Tryd.prog 45 #[.string s] w fun e w' => e = .returned (spanV (spanZ s)) ∧ Below w.heap.size w w' := by
  go_enter Tryd.func45, Tryd.ntmps45
  go_wp2_with (go_at_call 41; ((with_reducible refine (split_any _ _ m _ hs hm).mono ?_); rintro e w1 ⟨PB, hPB, hlen, rfl, hw⟩; have hL : Below w.heap.size w w1 := (by rw [hw]; go_grown); have hcell := Lib.hid (show ∀ j p, PB[j]? = some p → w1.cell? ⟨w.heap.size, j, none⟩ = some (.string p) by rw [hw]; exact cells_str _ _ _); have HP := Lib.hid hPB; have hB : w.heap.size < w1.heap.size := (by rw [hw]; simp); clear hw hPB))
  · go_ret2
    have h3 : ¬ (PB.length : Int) ≤ 3 := by omega
    exact ⟨by rw [spanZ_big s PB HP.out h3]; rfl, hL⟩
  · have h3 : (PB.length : Int) ≤ 3 := by assumption
    have hZ := Lib.hid (spanZ_small s PB HP.out h3)
    go_loopw [5, 17] (fun t i wr => ∃ k : Nat, ∃ T : Int, k ≤ PB.length ∧ i = .int .i64 k ∧ t = .int .i64 T ∧ 0 ≤ T ∧ T ≤ 1000000 * k ∧ foldS 0 (PB.map (·.data.toList)) 0 = foldS k ((PB.map (·.data.toList)).drop k) T ∧ Below w.heap.size w wr ∧ Below w1.heap.size w1 wr) (fun _ i _ => PB.length - (intOf i).toNat)
    case atStart => exact ⟨0, 0, Nat.zero_le _, rfl, rfl, by omega, by omega, rfl, hL, Below.refl _ _⟩
    case round =>
      obtain ⟨k, T, hk, rfl, rfl, hT0, hT1, hf, hL2, hL3⟩ := hrel
      have HF := Lib.hid hf
      clear hf
      by_cases hlt : k < PB.length
      · obtain ⟨p, hp⟩ : ∃ p, PB[k]? = some p := ⟨_, List.getElem?_eq_getElem hlt⟩
        have hp' : (PB.map (·.data.toList))[k]? = some p.data.toList := by rw [List.getElem?_map, hp]; rfl
        have HV := Lib.hid (foldS_none k _ _ T hp')
        have HS := Lib.hid (foldS_some k _ _ T · hp')
        have c0 : wr.cell? ⟨w.heap.size, k, none⟩ = some (.string p) := by rw [hL3.cell (p := ⟨w.heap.size, k, none⟩) hB]; exact hcell.out k p hp
        clear hp hp'
        have hk3 : k = 0 ∨ k = 1 ∨ k = 2 := by omega
        by_cases hz : p.size < 1 ∨ 2 < p.size ∨ (0 < k ∧ p.size ≠ 2)
        · have hv : valP k p.data.toList = none := by unfold valP; rw [if_pos (by simpa using hz)]
          rcases hk3 with rfl | rfl | rfl
          all_goals
            by_cases q1 : p.size < 1
            · go_wp2
              go_ret2
              exact ⟨by rw [hZ.out, HF.out, HV.out hv]; rfl, hL2⟩
            by_cases q2 : 2 < p.size
            · go_wp2
              go_ret2
              exact ⟨by rw [hZ.out, HF.out, HV.out hv]; rfl, hL2⟩
            first
            | (exfalso; omega)
            | (have q3 : p.size = 1 := by omega
               clear hz q1 q2
               go_wp2
               go_ret2
               exact ⟨by rw [hZ.out, HF.out, HV.out hv]; rfl, hL2⟩)
        · rcases hk3 with rfl | rfl | rfl
          · have hsz : p.size = 1 ∨ p.size = 2 := by omega
            rcases hsz with hsz | hsz
            · obtain ⟨x, rfl⟩ := one_of p hsz
              have g0 : (⟨#[x]⟩ : ByteArray)[0] = x := rfl
              by_cases hx : 48 ≤ x.toNat ∧ x.toNat ≤ 57
              · have hd : dgB x.toNat = true := by simp [dgB, hx]
                have hv : valP 0 [x] = some ((x.toNat : Int) - 48) := by simp [valP, allDg, numL, hd]
                obtain ⟨x1, x2⟩ := hx
                go_wp2
                refine wp_loop_rounds 2 ?_
                rw [rounds_succ]
                go_wp2_with (first | (go_at_call 57; ((with_reducible refine (digit_any _ _).mono ?_); rintro e w1 ⟨rfl, rfl⟩)) | (go_at_call 57; ((with_reducible refine (digit48 _).mono ?_); rintro e w1 ⟨rfl, rfl⟩)))
                rw [rounds_succ]
                go_wp2_with (first | (go_at_call 57; ((with_reducible refine (digit_any _ _).mono ?_); rintro e w1 ⟨rfl, rfl⟩)) | (go_at_call 57; ((with_reducible refine (digit48 _).mono ?_); rintro e w1 ⟨rfl, rfl⟩)))
                go_roundw
                case rel => exact ⟨1, T + ((x.toNat : Int) - 48) * mulP 0, by omega, by go_num, by simp only [mulP]; try go_num, by simp only [mulP]; omega, by simp only [mulP]; omega, by rw [HF.out, HS.out _ (hv)], (by have := hL2.size; go_grown), (by have := hL3.size; go_grown)⟩
                case measure => simp [intOf]; omega
              · have hd : dgB x.toNat = false := by simp only [dgB, Bool.and_eq_false_iff, decide_eq_false_iff_not]; omega
                have hv : valP 0 [x] = none := by simp [valP, allDg, numL, hd]
                clear hx
                go_wp2
                refine wp_loop_rounds 2 ?_
                rw [rounds_succ]
                go_wp2_with (first | (go_at_call 57; ((with_reducible refine (digit_any _ _).mono ?_); rintro e w1 ⟨rfl, rfl⟩)) | (go_at_call 57; ((with_reducible refine (digit48 _).mono ?_); rintro e w1 ⟨rfl, rfl⟩)))
                go_ret2
                exact ⟨by rw [hZ.out, HF.out, HV.out (hv)]; rfl, hL2⟩
            · obtain ⟨x, y, rfl⟩ := two_of p hsz
              have g0 : (⟨#[x, y]⟩ : ByteArray)[0] = x := rfl
              have g1 : (⟨#[x, y]⟩ : ByteArray)[1] = y := rfl
              by_cases hx : 48 ≤ x.toNat ∧ x.toNat ≤ 57
              · have hd : dgB x.toNat = true := by simp [dgB, hx]
                obtain ⟨x1, x2⟩ := hx
                by_cases hy : 48 ≤ y.toNat ∧ y.toNat ≤ 57
                · have he : dgB y.toNat = true := by simp [dgB, hy]
                  obtain ⟨y1, y2⟩ := hy
                  have hx48 : (x = 48) ↔ x.toNat = 48 := by exact ⟨fun h => by rw [h]; rfl, fun h => UInt8.toNat_inj.1 h⟩
                  by_cases hb : x.toNat = 48
                  · have hv : valP 0 [x, y] = none := by
                      have : allDg [x, y] = true := by simp [allDg, hd, he]
                      unfold valP
                      rw [if_neg (by simp), if_neg (by simp [this]), if_pos (by exact .inl ⟨rfl, rfl, hx48.2 hb⟩)]
                    go_wp2
                    refine wp_loop_rounds 3 ?_
                    rw [rounds_succ]
                    go_wp2_with (first | (go_at_call 57; ((with_reducible refine (digit_any _ _).mono ?_); rintro e w1 ⟨rfl, rfl⟩)) | (go_at_call 57; ((with_reducible refine (digit48 _).mono ?_); rintro e w1 ⟨rfl, rfl⟩)))
                    rw [rounds_succ]
                    go_wp2_with (first | (go_at_call 57; ((with_reducible refine (digit_any _ _).mono ?_); rintro e w1 ⟨rfl, rfl⟩)) | (go_at_call 57; ((with_reducible refine (digit48 _).mono ?_); rintro e w1 ⟨rfl, rfl⟩)))
                    rw [rounds_succ]
                    go_wp2_with (first | (go_at_call 57; ((with_reducible refine (digit_any _ _).mono ?_); rintro e w1 ⟨rfl, rfl⟩)) | (go_at_call 57; ((with_reducible refine (digit48 _).mono ?_); rintro e w1 ⟨rfl, rfl⟩)))
                    go_ret2
                    exact ⟨by rw [hZ.out, HF.out, HV.out (hv)]; rfl, hL2⟩
                  · have hv : valP 0 [x, y] = some (10 * ((x.toNat : Int) - 48) + ((y.toNat : Int) - 48)) := by
                      have : allDg [x, y] = true := by simp [allDg, hd, he]
                      have e2 : numL [x, y] = 10 * ((x.toNat : Int) - 48) + ((y.toNat : Int) - 48) := by simp only [numL, List.foldl_cons, List.foldl_nil]; omega
                      unfold valP
                      rw [if_neg (by simp), if_neg (by simp [this]), if_neg (by simp; exact fun h => hb (hx48.1 h)), e2]
                    go_wp2
                    refine wp_loop_rounds 3 ?_
                    rw [rounds_succ]
                    go_wp2_with (first | (go_at_call 57; ((with_reducible refine (digit_any _ _).mono ?_); rintro e w1 ⟨rfl, rfl⟩)) | (go_at_call 57; ((with_reducible refine (digit48 _).mono ?_); rintro e w1 ⟨rfl, rfl⟩)))
                    rw [rounds_succ]
                    go_wp2_with (first | (go_at_call 57; ((with_reducible refine (digit_any _ _).mono ?_); rintro e w1 ⟨rfl, rfl⟩)) | (go_at_call 57; ((with_reducible refine (digit48 _).mono ?_); rintro e w1 ⟨rfl, rfl⟩)))
                    rw [rounds_succ]
                    go_wp2_with (first | (go_at_call 57; ((with_reducible refine (digit_any _ _).mono ?_); rintro e w1 ⟨rfl, rfl⟩)) | (go_at_call 57; ((with_reducible refine (digit48 _).mono ?_); rintro e w1 ⟨rfl, rfl⟩)))
                    go_roundw
                    case rel => exact ⟨1, T + (10 * ((x.toNat : Int) - 48) + ((y.toNat : Int) - 48)) * mulP 0, by omega, by go_num, by simp only [mulP]; try go_num, by simp only [mulP]; omega, by simp only [mulP]; omega, by rw [HF.out, HS.out _ (hv)], (by have := hL2.size; go_grown), (by have := hL3.size; go_grown)⟩
                    case measure => simp [intOf]; omega
                · have he : dgB y.toNat = false := by simp only [dgB, Bool.and_eq_false_iff, decide_eq_false_iff_not]; omega
                  have hv : valP 0 [x, y] = none := by simp [valP, allDg, numL, hd, he]
                  clear hy
                  go_wp2
                  refine wp_loop_rounds 3 ?_
                  rw [rounds_succ]
                  go_wp2_with (first | (go_at_call 57; ((with_reducible refine (digit_any _ _).mono ?_); rintro e w1 ⟨rfl, rfl⟩)) | (go_at_call 57; ((with_reducible refine (digit48 _).mono ?_); rintro e w1 ⟨rfl, rfl⟩)))
                  rw [rounds_succ]
                  go_wp2_with (first | (go_at_call 57; ((with_reducible refine (digit_any _ _).mono ?_); rintro e w1 ⟨rfl, rfl⟩)) | (go_at_call 57; ((with_reducible refine (digit48 _).mono ?_); rintro e w1 ⟨rfl, rfl⟩)))
                  go_ret2
                  exact ⟨by rw [hZ.out, HF.out, HV.out (hv)]; rfl, hL2⟩
              · have hd : dgB x.toNat = false := by simp only [dgB, Bool.and_eq_false_iff, decide_eq_false_iff_not]; omega
                have hv : valP 0 [x, y] = none := by simp [valP, allDg, numL, hd]
                clear hx
                go_wp2
                refine wp_loop_rounds 2 ?_
                rw [rounds_succ]
                go_wp2_with (first | (go_at_call 57; ((with_reducible refine (digit_any _ _).mono ?_); rintro e w1 ⟨rfl, rfl⟩)) | (go_at_call 57; ((with_reducible refine (digit48 _).mono ?_); rintro e w1 ⟨rfl, rfl⟩)))
                go_ret2
                exact ⟨by rw [hZ.out, HF.out, HV.out (hv)]; rfl, hL2⟩
          · have hsz : p.size = 2 := by omega
            obtain ⟨x, y, rfl⟩ := two_of p hsz
            have g0 : (⟨#[x, y]⟩ : ByteArray)[0] = x := rfl
            have g1 : (⟨#[x, y]⟩ : ByteArray)[1] = y := rfl
            by_cases hx : 48 ≤ x.toNat ∧ x.toNat ≤ 57
            · have hd : dgB x.toNat = true := by simp [dgB, hx]
              obtain ⟨x1, x2⟩ := hx
              by_cases hy : 48 ≤ y.toNat ∧ y.toNat ≤ 57
              · have he : dgB y.toNat = true := by simp [dgB, hy]
                obtain ⟨y1, y2⟩ := hy
                by_cases hb : 59 < 10 * ((x.toNat : Int) - 48) + ((y.toNat : Int) - 48)
                · have hv : valP 1 [x, y] = none := by
                    have : allDg [x, y] = true := by simp [allDg, hd, he]
                    unfold valP
                    rw [if_neg (by simp), if_neg (by simp [this]), if_pos (by exact .inr ⟨by omega, by simp only [numL, List.foldl_cons, List.foldl_nil]; omega⟩)]
                  go_wp2
                  refine wp_loop_rounds 3 ?_
                  rw [rounds_succ]
                  go_wp2_with (first | (go_at_call 57; ((with_reducible refine (digit_any _ _).mono ?_); rintro e w1 ⟨rfl, rfl⟩)) | (go_at_call 57; ((with_reducible refine (digit48 _).mono ?_); rintro e w1 ⟨rfl, rfl⟩)))
                  rw [rounds_succ]
                  go_wp2_with (first | (go_at_call 57; ((with_reducible refine (digit_any _ _).mono ?_); rintro e w1 ⟨rfl, rfl⟩)) | (go_at_call 57; ((with_reducible refine (digit48 _).mono ?_); rintro e w1 ⟨rfl, rfl⟩)))
                  rw [rounds_succ]
                  go_wp2_with (first | (go_at_call 57; ((with_reducible refine (digit_any _ _).mono ?_); rintro e w1 ⟨rfl, rfl⟩)) | (go_at_call 57; ((with_reducible refine (digit48 _).mono ?_); rintro e w1 ⟨rfl, rfl⟩)))
                  go_ret2
                  exact ⟨by rw [hZ.out, HF.out, HV.out (hv)]; rfl, hL2⟩
                · have hv : valP 1 [x, y] = some (10 * ((x.toNat : Int) - 48) + ((y.toNat : Int) - 48)) := by
                    have : allDg [x, y] = true := by simp [allDg, hd, he]
                    have e2 : numL [x, y] = 10 * ((x.toNat : Int) - 48) + ((y.toNat : Int) - 48) := by simp only [numL, List.foldl_cons, List.foldl_nil]; omega
                    unfold valP
                    rw [if_neg (by simp), if_neg (by simp [this]), if_neg (by rw [e2]; omega), e2]
                  go_wp2
                  refine wp_loop_rounds 3 ?_
                  rw [rounds_succ]
                  go_wp2_with (first | (go_at_call 57; ((with_reducible refine (digit_any _ _).mono ?_); rintro e w1 ⟨rfl, rfl⟩)) | (go_at_call 57; ((with_reducible refine (digit48 _).mono ?_); rintro e w1 ⟨rfl, rfl⟩)))
                  rw [rounds_succ]
                  go_wp2_with (first | (go_at_call 57; ((with_reducible refine (digit_any _ _).mono ?_); rintro e w1 ⟨rfl, rfl⟩)) | (go_at_call 57; ((with_reducible refine (digit48 _).mono ?_); rintro e w1 ⟨rfl, rfl⟩)))
                  rw [rounds_succ]
                  go_wp2_with (first | (go_at_call 57; ((with_reducible refine (digit_any _ _).mono ?_); rintro e w1 ⟨rfl, rfl⟩)) | (go_at_call 57; ((with_reducible refine (digit48 _).mono ?_); rintro e w1 ⟨rfl, rfl⟩)))
                  go_roundw
                  case rel => exact ⟨2, T + (10 * ((x.toNat : Int) - 48) + ((y.toNat : Int) - 48)) * mulP 1, by omega, by go_num, by simp only [mulP]; try go_num, by simp only [mulP]; omega, by simp only [mulP]; omega, by rw [HF.out, HS.out _ (hv)], (by have := hL2.size; go_grown), (by have := hL3.size; go_grown)⟩
                  case measure => simp [intOf]; omega
              · have he : dgB y.toNat = false := by simp only [dgB, Bool.and_eq_false_iff, decide_eq_false_iff_not]; omega
                have hv : valP 1 [x, y] = none := by simp [valP, allDg, numL, hd, he]
                clear hy
                go_wp2
                refine wp_loop_rounds 3 ?_
                rw [rounds_succ]
                go_wp2_with (first | (go_at_call 57; ((with_reducible refine (digit_any _ _).mono ?_); rintro e w1 ⟨rfl, rfl⟩)) | (go_at_call 57; ((with_reducible refine (digit48 _).mono ?_); rintro e w1 ⟨rfl, rfl⟩)))
                rw [rounds_succ]
                go_wp2_with (first | (go_at_call 57; ((with_reducible refine (digit_any _ _).mono ?_); rintro e w1 ⟨rfl, rfl⟩)) | (go_at_call 57; ((with_reducible refine (digit48 _).mono ?_); rintro e w1 ⟨rfl, rfl⟩)))
                go_ret2
                exact ⟨by rw [hZ.out, HF.out, HV.out (hv)]; rfl, hL2⟩
            · have hd : dgB x.toNat = false := by simp only [dgB, Bool.and_eq_false_iff, decide_eq_false_iff_not]; omega
              have hv : valP 1 [x, y] = none := by simp [valP, allDg, numL, hd]
              clear hx
              go_wp2
              refine wp_loop_rounds 2 ?_
              rw [rounds_succ]
              go_wp2_with (first | (go_at_call 57; ((with_reducible refine (digit_any _ _).mono ?_); rintro e w1 ⟨rfl, rfl⟩)) | (go_at_call 57; ((with_reducible refine (digit48 _).mono ?_); rintro e w1 ⟨rfl, rfl⟩)))
              go_ret2
              exact ⟨by rw [hZ.out, HF.out, HV.out (hv)]; rfl, hL2⟩
          · have hsz : p.size = 2 := by omega
            obtain ⟨x, y, rfl⟩ := two_of p hsz
            have g0 : (⟨#[x, y]⟩ : ByteArray)[0] = x := rfl
            have g1 : (⟨#[x, y]⟩ : ByteArray)[1] = y := rfl
            by_cases hx : 48 ≤ x.toNat ∧ x.toNat ≤ 57
            · have hd : dgB x.toNat = true := by simp [dgB, hx]
              obtain ⟨x1, x2⟩ := hx
              by_cases hy : 48 ≤ y.toNat ∧ y.toNat ≤ 57
              · have he : dgB y.toNat = true := by simp [dgB, hy]
                obtain ⟨y1, y2⟩ := hy
                by_cases hb : 59 < 10 * ((x.toNat : Int) - 48) + ((y.toNat : Int) - 48)
                · have hv : valP 2 [x, y] = none := by
                    have : allDg [x, y] = true := by simp [allDg, hd, he]
                    unfold valP
                    rw [if_neg (by simp), if_neg (by simp [this]), if_pos (by exact .inr ⟨by omega, by simp only [numL, List.foldl_cons, List.foldl_nil]; omega⟩)]
                  go_wp2
                  refine wp_loop_rounds 3 ?_
                  rw [rounds_succ]
                  go_wp2_with (first | (go_at_call 57; ((with_reducible refine (digit_any _ _).mono ?_); rintro e w1 ⟨rfl, rfl⟩)) | (go_at_call 57; ((with_reducible refine (digit48 _).mono ?_); rintro e w1 ⟨rfl, rfl⟩)))
                  rw [rounds_succ]
                  go_wp2_with (first | (go_at_call 57; ((with_reducible refine (digit_any _ _).mono ?_); rintro e w1 ⟨rfl, rfl⟩)) | (go_at_call 57; ((with_reducible refine (digit48 _).mono ?_); rintro e w1 ⟨rfl, rfl⟩)))
                  rw [rounds_succ]
                  go_wp2_with (first | (go_at_call 57; ((with_reducible refine (digit_any _ _).mono ?_); rintro e w1 ⟨rfl, rfl⟩)) | (go_at_call 57; ((with_reducible refine (digit48 _).mono ?_); rintro e w1 ⟨rfl, rfl⟩)))
                  go_ret2
                  exact ⟨by rw [hZ.out, HF.out, HV.out (hv)]; rfl, hL2⟩
                · have hv : valP 2 [x, y] = some (10 * ((x.toNat : Int) - 48) + ((y.toNat : Int) - 48)) := by
                    have : allDg [x, y] = true := by simp [allDg, hd, he]
                    have e2 : numL [x, y] = 10 * ((x.toNat : Int) - 48) + ((y.toNat : Int) - 48) := by simp only [numL, List.foldl_cons, List.foldl_nil]; omega
                    unfold valP
                    rw [if_neg (by simp), if_neg (by simp [this]), if_neg (by rw [e2]; omega), e2]
                  go_wp2
                  refine wp_loop_rounds 3 ?_
                  rw [rounds_succ]
                  go_wp2_with (first | (go_at_call 57; ((with_reducible refine (digit_any _ _).mono ?_); rintro e w1 ⟨rfl, rfl⟩)) | (go_at_call 57; ((with_reducible refine (digit48 _).mono ?_); rintro e w1 ⟨rfl, rfl⟩)))
                  rw [rounds_succ]
                  go_wp2_with (first | (go_at_call 57; ((with_reducible refine (digit_any _ _).mono ?_); rintro e w1 ⟨rfl, rfl⟩)) | (go_at_call 57; ((with_reducible refine (digit48 _).mono ?_); rintro e w1 ⟨rfl, rfl⟩)))
                  rw [rounds_succ]
                  go_wp2_with (first | (go_at_call 57; ((with_reducible refine (digit_any _ _).mono ?_); rintro e w1 ⟨rfl, rfl⟩)) | (go_at_call 57; ((with_reducible refine (digit48 _).mono ?_); rintro e w1 ⟨rfl, rfl⟩)))
                  go_roundw
                  case rel => exact ⟨3, T + (10 * ((x.toNat : Int) - 48) + ((y.toNat : Int) - 48)) * mulP 2, by omega, by go_num, by simp only [mulP]; try go_num, by simp only [mulP]; omega, by simp only [mulP]; omega, by rw [HF.out, HS.out _ (hv)], (by have := hL2.size; go_grown), (by have := hL3.size; go_grown)⟩
                  case measure => simp [intOf]; omega
              · have he : dgB y.toNat = false := by simp only [dgB, Bool.and_eq_false_iff, decide_eq_false_iff_not]; omega
                have hv : valP 2 [x, y] = none := by simp [valP, allDg, numL, hd, he]
                clear hy
                go_wp2
                refine wp_loop_rounds 3 ?_
                rw [rounds_succ]
                go_wp2_with (first | (go_at_call 57; ((with_reducible refine (digit_any _ _).mono ?_); rintro e w1 ⟨rfl, rfl⟩)) | (go_at_call 57; ((with_reducible refine (digit48 _).mono ?_); rintro e w1 ⟨rfl, rfl⟩)))
                rw [rounds_succ]
                go_wp2_with (first | (go_at_call 57; ((with_reducible refine (digit_any _ _).mono ?_); rintro e w1 ⟨rfl, rfl⟩)) | (go_at_call 57; ((with_reducible refine (digit48 _).mono ?_); rintro e w1 ⟨rfl, rfl⟩)))
                go_ret2
                exact ⟨by rw [hZ.out, HF.out, HV.out (hv)]; rfl, hL2⟩
            · have hd : dgB x.toNat = false := by simp only [dgB, Bool.and_eq_false_iff, decide_eq_false_iff_not]; omega
              have hv : valP 2 [x, y] = none := by simp [valP, allDg, numL, hd]
              clear hx
              go_wp2
              refine wp_loop_rounds 2 ?_
              rw [rounds_succ]
              go_wp2_with (first | (go_at_call 57; ((with_reducible refine (digit_any _ _).mono ?_); rintro e w1 ⟨rfl, rfl⟩)) | (go_at_call 57; ((with_reducible refine (digit48 _).mono ?_); rintro e w1 ⟨rfl, rfl⟩)))
              go_ret2
              exact ⟨by rw [hZ.out, HF.out, HV.out (hv)]; rfl, hL2⟩
      · go_wp2
        go_ret2
        exact ⟨by rw [hZ.out, HF.out, foldS_end _ _ _ (by rw [List.length_map]; omega)]; rfl, hL2⟩
end Go.Proofs.YtcpfbemmlmdcaaaDoor.Lx
