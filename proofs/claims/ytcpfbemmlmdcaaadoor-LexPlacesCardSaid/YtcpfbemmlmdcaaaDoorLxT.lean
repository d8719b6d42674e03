/-
  The walks of layer 18's reference: Span and Offset, of the program civiltime.
-/
import Derived.Test.YtcpfbemmlmdcaaaDoorLxU
import Derived.Test.YtcpfbemmlmdcaaaDoorLxO
set_option linter.unusedSimpArgs false
set_option linter.unusedVariables false
namespace Go.Proofs.YtcpfbemmlmdcaaaDoor.Lx
open Go.RowKit Go.ChangeShapes Go.WideShapes Go.Proofs.YtcpfbemmlmdcaaaDoor.Sl

theorem ext_data (s : ByteArray) (i j : Nat) : (s.extract i j).data.toList = (s.data.toList.take j).drop i := by
  rw [ByteArray.data_extract, Array.toList_extract, List.extract_eq_take_drop, List.drop_take]
theorem ext_head (s : ByteArray) (k : Nat) : (s.extract 0 k).data.toList = s.data.toList.take k := by rw [ext_data]; rfl
theorem ext_tail (s : ByteArray) (k : Nat) : (s.extract k s.size).data.toList = s.data.toList.drop k := by
  rw [ext_data, List.take_of_length_le (by rw [len_is]; omega)]
theorem bytes_of (s : ByteArray) (l : List UInt8) (h : s.data.toList = l) : s = ⟨l.toArray⟩ := by
  obtain ⟨⟨m⟩⟩ := s
  have : m = l := h
  rw [this]

theorem three_of (p : ByteArray) (h : p.size = 3) : ∃ z a b, p.data.toList = [z, a, b] ∧ p.extract 1 3 = ⟨#[a, b]⟩ := by
  obtain ⟨⟨l⟩⟩ := p
  match l with
  | [] => simp [ByteArray.size] at h
  | [_] => simp [ByteArray.size] at h
  | [_, _] => simp [ByteArray.size] at h
  | [z, a, b] => exact ⟨z, a, b, rfl, rfl⟩
  | _ :: _ :: _ :: _ :: _ => simp [ByteArray.size] at h
theorem six_of (p : ByteArray) (h : p.size = 6) : ∃ z a b c d e, p.data.toList = [z, a, b, c, d, e] ∧ p.extract 1 3 = ⟨#[a, b]⟩ ∧ p.extract 4 p.size = ⟨#[d, e]⟩ ∧ ∀ hh : 3 < p.size, p[3] = c := by
  obtain ⟨⟨l⟩⟩ := p
  match l with
  | [] => simp [ByteArray.size] at h
  | [_] => simp [ByteArray.size] at h
  | [_, _] => simp [ByteArray.size] at h
  | [_, _, _] => simp [ByteArray.size] at h
  | [_, _, _, _] => simp [ByteArray.size] at h
  | [_, _, _, _, _] => simp [ByteArray.size] at h
  | [z, a, b, c, d, e] => exact ⟨z, a, b, c, d, e, rfl, rfl, rfl, fun _ => rfl⟩
  | _ :: _ :: _ :: _ :: _ :: _ :: _ :: _ => simp [ByteArray.size] at h

/-- Where the first colon stands. -/
def colonAt (s : ByteArray) (k : Nat) : Prop := k ≤ s.size ∧ (∀ j, j < k → s.data.toList[j]? ≠ some 58) ∧ (k = s.size ∨ s.data.toList[k]? = some 58)

theorem colon_span (s : ByteArray) (k : Nat) (h : colonAt s k) : spanZ s = rspL (s.extract 0 k).data.toList (s.extract k s.size).data.toList := by
  obtain ⟨hk, hn, he⟩ := h
  rw [ext_head, ext_tail]
  refine rspL_is s _ _ (List.take_append_drop k _).symm ?_ ?_
  · intro hm
    obtain ⟨j, hj, e⟩ := List.mem_iff_getElem.1 hm
    have hjk : j < k := by have := hj; rw [List.length_take] at this; omega
    refine hn j hjk ?_
    rw [List.getElem_take] at e
    have hl : j < s.data.toList.length := by have := hj; rw [List.length_take] at this; omega
    rw [List.getElem?_eq_getElem hl, e]
  · rcases he with rfl | he
    · left; exact List.drop_eq_nil_of_le (by rw [len_is]; omega)
    · right
      obtain ⟨hl, e⟩ := List.getElem?_eq_some_iff.1 he
      exact ⟨_, by rw [List.drop_eq_getElem_cons hl, e]⟩
theorem whole_is (s : ByteArray) (b : Bool) (w : World) (hs : s.size < 4294967281) (hb : wholeL s.data.toList = b) : Calls Tryd.prog 58 #[.string s] w fun e w' => e = .returned (.bool b) ∧ w = w' := by
  rw [← hb]; exact whole_any s w hs
theorem value_is (s : ByteArray) (N : Int) (w : World) (hd : allDg s.data.toList = true) (hl : s.size = 1 ∨ s.size = 2) (hb : numL s.data.toList = N) : Calls Tryd.prog 67 #[.string s, .int .i64 1000] w fun e w' => e = .returned (.int .i64 N) ∧ w = w' := by
  rw [← hb]; exact value_any s w hd hl
theorem sixty_is (s : ByteArray) (x y : UInt8) (b : Bool) (w : World) (hs : s = ⟨#[x, y]⟩) (hb : sixL x y = b) : Calls Tryd.prog 68 #[.string s] w fun e w' => e = .returned (.bool b) ∧ w = w' := by
  rw [← hb]; exact sixty_any s x y w hs
theorem whole_dg (l : List UInt8) (h : wholeL l = true) : allDg l = true ∧ 1 ≤ l.length := by
  cases l with
  | nil => cases h
  | cons x xs =>
    simp only [wholeL, Bool.and_eq_true] at h
    exact ⟨h.2, by simp⟩
theorem size_is (s : ByteArray) (l : List UInt8) (h : s.data.toList = l) : s.size = l.length := by rw [← h, len_is]
theorem rspL_nil (h : List UInt8) (hc : ¬ (wholeL h = false ∨ 2 < h.length)) : rspL h [] = some (3600 * numL h) := if_neg hc
theorem rspL_three (h : List UInt8) (z a b : UInt8) (hc : ¬ (wholeL h = false ∨ 2 < h.length)) : rspL h [z, a, b] = if sixL a b = true then some (3600 * numL h + 60 * numL [a, b]) else none := if_neg hc
theorem rspL_six (h : List UInt8) (z a b c d e : UInt8) (hc : ¬ (wholeL h = false ∨ 2 < h.length)) : rspL h [z, a, b, c, d, e] = if sixL a b = true ∧ c.toNat = 58 ∧ sixL d e = true then some (3600 * numL h + 60 * numL [a, b] + numL [d, e]) else none := if_neg hc
theorem rspL_other (h t : List UInt8) (hc : ¬ (wholeL h = false ∨ 2 < h.length)) (h0 : t.length ≠ 0) (h3 : t.length ≠ 3) (h6 : t.length ≠ 6) : rspL h t = none := by
  unfold rspL
  rw [if_neg hc]
  match t, h0, h3, h6 with
  | [], h, _, _ => exact absurd rfl h
  | [_], _, _, _ => rfl
  | [_, _], _, _, _ => rfl
  | [_, _, _], _, h, _ => exact absurd rfl h
  | [_, _, _, _], _, _, _ => rfl
  | [_, _, _, _, _], _, _, _ => rfl
  | [_, _, _, _, _, _], _, _, h => exact absurd rfl h
  | _ :: _ :: _ :: _ :: _ :: _ :: _ :: _, _, _, _ => rfl
theorem six_bd (a b : UInt8) (h : sixL a b = true) : 0 ≤ numL [a, b] ∧ numL [a, b] ≤ 99 ∧ allDg [a, b] = true := by
  simp only [sixL, Bool.and_eq_true] at h
  have hd : allDg [a, b] = true := by simp [allDg, h.1.1, h.1.2]
  have := numL_bd [a, b] hd (by simp)
  exact ⟨this.1, this.2, hd⟩

set_option maxRecDepth 20000 in
set_option maxHeartbeats 4000000 in
theorem rspan_any (s : ByteArray) (w : World) (hs : s.size < 4294967281) : Calls Tryd.prog 46 #[.string s] w fun e w' => e = .returned (spanV (spanZ s)) ∧ w = w' := by
  go_enter Tryd.func46, Tryd.ntmps46
  go_wp2
  go_loopw [4] (fun i wr => ∃ k : Nat, k ≤ s.size ∧ i = .int .i64 k ∧ (∀ j, j < k → s.data.toList[j]? ≠ some 58) ∧ wr = w) (fun i _ => s.size - (intOf i).toNat)
  case atStart => exact ⟨0, Nat.zero_le _, rfl, fun j hj => absurd hj (by omega), rfl⟩
  case round =>
    obtain ⟨k, hk, rfl, hf, rfl⟩ := hrel
    have HF := Lib.hid hf
    clear hf
    have fin : ∀ (hx : colonAt s k), spanZ s = rspL (s.extract 0 k).data.toList (s.extract k s.size).data.toList := fun hx => colon_span s k hx
    by_cases hlt : k < s.size
    · obtain ⟨c, hc, hd⟩ := byte_at s k hlt
      have hat : s.data.toList[k]? = some c := by
        have : (s.data.toList.drop k)[0]? = some c := by rw [hd]; rfl
        rw [List.getElem?_drop] at this
        exact this
      have HAT := Lib.hid hat
      clear hd hat
      by_cases h58 : c.toNat = 58
      · have hx : colonAt s k := ⟨hk, HF.out, .inr (by rw [HAT.out, show c = 58 from UInt8.toNat_inj.1 h58])⟩
        have HZ := Lib.hid (fin hx)
        clear hx fin
        obtain ⟨h, hh⟩ : ∃ h, s.extract 0 k = h := ⟨_, rfl⟩
        obtain ⟨t, ht⟩ : ∃ t, s.extract k s.size = t := ⟨_, rfl⟩
        have hsz : h.size = k := by rw [← hh, ByteArray.size_extract]; omega
        have TSZ := Lib.hid (show t.size = s.size - k by rw [← ht, ByteArray.size_extract]; omega)
        have hhs : h.size < 4294967281 := by omega
        rw [hh, ht] at HZ
        cases hw : wholeL h.data.toList
        · have HW := Lib.hid hw
          clear hw
          go_wp2_with (first | (go_at_call 58; ((with_reducible refine (whole_is _ _ _ hhs HW.out).mono ?_); rintro e w1 ⟨rfl, rfl⟩)) | (go_at_call 67; ((with_reducible refine (value_is _ _ _ HD.out hk12 HN.out).mono ?_); rintro e w1 ⟨rfl, rfl⟩)) | (go_at_call 68; ((with_reducible refine (sixty_is ⟨#[a, b]⟩ a b _ _ rfl h6).mono ?_); rintro e w1 ⟨rfl, rfl⟩)) | (go_at_call 67; ((with_reducible refine (value_is ⟨#[a, b]⟩ M _ HD1.out (.inr rfl) HN1.out).mono ?_); rintro e w1 ⟨rfl, rfl⟩)) | (go_at_call 68; ((with_reducible refine (sixty_is ⟨#[d, e]⟩ d e _ _ rfl h7).mono ?_); rintro e w1 ⟨rfl, rfl⟩)) | (go_at_call 67; ((with_reducible refine (value_is ⟨#[d, e]⟩ K _ HD2.out (.inr rfl) HN2.out).mono ?_); rintro e w1 ⟨rfl, rfl⟩)))
          go_ret2
          exact ⟨by rw [HZ.out]; simp [rspL, HW.out, spanV], rfl⟩
        · have HW := Lib.hid hw
          obtain ⟨hdg, hl1⟩ := whole_dg _ hw
          rw [len_is] at hl1
          clear hw
          by_cases h2 : 2 < k
          · go_wp2_with (first | (go_at_call 58; ((with_reducible refine (whole_is _ _ _ hhs HW.out).mono ?_); rintro e w1 ⟨rfl, rfl⟩)) | (go_at_call 67; ((with_reducible refine (value_is _ _ _ HD.out hk12 HN.out).mono ?_); rintro e w1 ⟨rfl, rfl⟩)) | (go_at_call 68; ((with_reducible refine (sixty_is ⟨#[a, b]⟩ a b _ _ rfl h6).mono ?_); rintro e w1 ⟨rfl, rfl⟩)) | (go_at_call 67; ((with_reducible refine (value_is ⟨#[a, b]⟩ M _ HD1.out (.inr rfl) HN1.out).mono ?_); rintro e w1 ⟨rfl, rfl⟩)) | (go_at_call 68; ((with_reducible refine (sixty_is ⟨#[d, e]⟩ d e _ _ rfl h7).mono ?_); rintro e w1 ⟨rfl, rfl⟩)) | (go_at_call 67; ((with_reducible refine (value_is ⟨#[d, e]⟩ K _ HD2.out (.inr rfl) HN2.out).mono ?_); rintro e w1 ⟨rfl, rfl⟩)))
            go_ret2
            exact ⟨by rw [HZ.out]; simp [rspL, len_is, hsz, h2, spanV], rfl⟩
          · obtain ⟨n0, n1⟩ := numL_bd _ hdg (by rw [len_is]; omega)
            have HD := Lib.hid hdg
            have hk12 : h.size = 1 ∨ h.size = 2 := by omega
            have HC : ¬ (wholeL h.data.toList = false ∨ 2 < h.data.toList.length) := by rw [HW.out, len_is]; simp; omega
            replace HC := Lib.hid HC
            obtain ⟨N, hN⟩ : ∃ N, numL h.data.toList = N := ⟨_, rfl⟩
            rw [hN] at n0 n1
            have HN := Lib.hid hN
            clear hdg hN
            have cases4 : t.size = 0 ∨ t.size = 3 ∨ t.size = 6 ∨ (t.size ≠ 0 ∧ t.size ≠ 3 ∧ t.size ≠ 6) := by omega
            rcases cases4 with t0 | t3 | t6 | ⟨u0, u3, u6⟩
            · exfalso; have := TSZ.out; omega
            · obtain ⟨z, a, b, hl, e1⟩ := three_of t t3
              have hne := not_nil t (by omega)
              have HL := Lib.hid hl
              clear hl
              cases h6 : sixL a b
              · go_wp2_with (first | (go_at_call 58; ((with_reducible refine (whole_is _ _ _ hhs HW.out).mono ?_); rintro e w1 ⟨rfl, rfl⟩)) | (go_at_call 67; ((with_reducible refine (value_is _ _ _ HD.out hk12 HN.out).mono ?_); rintro e w1 ⟨rfl, rfl⟩)) | (go_at_call 68; ((with_reducible refine (sixty_is ⟨#[a, b]⟩ a b _ _ rfl h6).mono ?_); rintro e w1 ⟨rfl, rfl⟩)) | (go_at_call 67; ((with_reducible refine (value_is ⟨#[a, b]⟩ M _ HD1.out (.inr rfl) HN1.out).mono ?_); rintro e w1 ⟨rfl, rfl⟩)) | (go_at_call 68; ((with_reducible refine (sixty_is ⟨#[d, e]⟩ d e _ _ rfl h7).mono ?_); rintro e w1 ⟨rfl, rfl⟩)) | (go_at_call 67; ((with_reducible refine (value_is ⟨#[d, e]⟩ K _ HD2.out (.inr rfl) HN2.out).mono ?_); rintro e w1 ⟨rfl, rfl⟩)))
                go_ret2
                exact ⟨by rw [HZ.out, HL.out, rspL_three _ _ _ _ HC.out]; simp [h6, spanV], rfl⟩
              · obtain ⟨b0, b1, hdp⟩ := six_bd a b h6
                obtain ⟨M, hM⟩ : ∃ M, numL [a, b] = M := ⟨_, rfl⟩
                have HM := Lib.hid hM
                rw [hM] at b0 b1
                have HD1 := Lib.hid (show allDg (ByteArray.mk #[a, b]).data.toList = true from hdp)
                have HN1 := Lib.hid (show numL (ByteArray.mk #[a, b]).data.toList = M from hM)
                clear hM hdp
                go_wp2_with (first | (go_at_call 58; ((with_reducible refine (whole_is _ _ _ hhs HW.out).mono ?_); rintro e w1 ⟨rfl, rfl⟩)) | (go_at_call 67; ((with_reducible refine (value_is _ _ _ HD.out hk12 HN.out).mono ?_); rintro e w1 ⟨rfl, rfl⟩)) | (go_at_call 68; ((with_reducible refine (sixty_is ⟨#[a, b]⟩ a b _ _ rfl h6).mono ?_); rintro e w1 ⟨rfl, rfl⟩)) | (go_at_call 67; ((with_reducible refine (value_is ⟨#[a, b]⟩ M _ HD1.out (.inr rfl) HN1.out).mono ?_); rintro e w1 ⟨rfl, rfl⟩)) | (go_at_call 68; ((with_reducible refine (sixty_is ⟨#[d, e]⟩ d e _ _ rfl h7).mono ?_); rintro e w1 ⟨rfl, rfl⟩)) | (go_at_call 67; ((with_reducible refine (value_is ⟨#[d, e]⟩ K _ HD2.out (.inr rfl) HN2.out).mono ?_); rintro e w1 ⟨rfl, rfl⟩)))
                go_ret2
                exact ⟨by rw [HZ.out, HL.out, rspL_three _ _ _ _ HC.out]; simp [h6, spanV, HN.out, HM.out]; try go_num, rfl⟩
            · obtain ⟨z, a, b, c2, d, e, hl, e1, e2, hg3⟩ := six_of t t6
              replace hg3 := hg3 (by omega)
              rw [t6] at e2
              have hne := not_nil t (by omega)
              have HL := Lib.hid hl
              clear hl
              cases h6 : sixL a b
              · go_wp2_with (first | (go_at_call 58; ((with_reducible refine (whole_is _ _ _ hhs HW.out).mono ?_); rintro e w1 ⟨rfl, rfl⟩)) | (go_at_call 67; ((with_reducible refine (value_is _ _ _ HD.out hk12 HN.out).mono ?_); rintro e w1 ⟨rfl, rfl⟩)) | (go_at_call 68; ((with_reducible refine (sixty_is ⟨#[a, b]⟩ a b _ _ rfl h6).mono ?_); rintro e w1 ⟨rfl, rfl⟩)) | (go_at_call 67; ((with_reducible refine (value_is ⟨#[a, b]⟩ M _ HD1.out (.inr rfl) HN1.out).mono ?_); rintro e w1 ⟨rfl, rfl⟩)) | (go_at_call 68; ((with_reducible refine (sixty_is ⟨#[d, e]⟩ d e _ _ rfl h7).mono ?_); rintro e w1 ⟨rfl, rfl⟩)) | (go_at_call 67; ((with_reducible refine (value_is ⟨#[d, e]⟩ K _ HD2.out (.inr rfl) HN2.out).mono ?_); rintro e w1 ⟨rfl, rfl⟩)))
                go_ret2
                exact ⟨by rw [HZ.out, HL.out, rspL_six _ _ _ _ _ _ _ HC.out]; simp [h6, spanV], rfl⟩
              · obtain ⟨b0, b1, hdp⟩ := six_bd a b h6
                obtain ⟨M, hM⟩ : ∃ M, numL [a, b] = M := ⟨_, rfl⟩
                have HM := Lib.hid hM
                rw [hM] at b0 b1
                have HD1 := Lib.hid (show allDg (ByteArray.mk #[a, b]).data.toList = true from hdp)
                have HN1 := Lib.hid (show numL (ByteArray.mk #[a, b]).data.toList = M from hM)
                clear hM hdp
                by_cases c58 : c2.toNat = 58
                · cases h7 : sixL d e
                  · go_wp2_with (first | (go_at_call 58; ((with_reducible refine (whole_is _ _ _ hhs HW.out).mono ?_); rintro e w1 ⟨rfl, rfl⟩)) | (go_at_call 67; ((with_reducible refine (value_is _ _ _ HD.out hk12 HN.out).mono ?_); rintro e w1 ⟨rfl, rfl⟩)) | (go_at_call 68; ((with_reducible refine (sixty_is ⟨#[a, b]⟩ a b _ _ rfl h6).mono ?_); rintro e w1 ⟨rfl, rfl⟩)) | (go_at_call 67; ((with_reducible refine (value_is ⟨#[a, b]⟩ M _ HD1.out (.inr rfl) HN1.out).mono ?_); rintro e w1 ⟨rfl, rfl⟩)) | (go_at_call 68; ((with_reducible refine (sixty_is ⟨#[d, e]⟩ d e _ _ rfl h7).mono ?_); rintro e w1 ⟨rfl, rfl⟩)) | (go_at_call 67; ((with_reducible refine (value_is ⟨#[d, e]⟩ K _ HD2.out (.inr rfl) HN2.out).mono ?_); rintro e w1 ⟨rfl, rfl⟩)))
                    go_ret2
                    exact ⟨by rw [HZ.out, HL.out, rspL_six _ _ _ _ _ _ _ HC.out]; simp [h6, h7, spanV], rfl⟩
                  · obtain ⟨d0, d1, hdq⟩ := six_bd d e h7
                    obtain ⟨K, hK⟩ : ∃ K, numL [d, e] = K := ⟨_, rfl⟩
                    have HK := Lib.hid hK
                    rw [hK] at d0 d1
                    have HD2 := Lib.hid (show allDg (ByteArray.mk #[d, e]).data.toList = true from hdq)
                    have HN2 := Lib.hid (show numL (ByteArray.mk #[d, e]).data.toList = K from hK)
                    clear hK hdq
                    go_wp2_with (first | (go_at_call 58; ((with_reducible refine (whole_is _ _ _ hhs HW.out).mono ?_); rintro e w1 ⟨rfl, rfl⟩)) | (go_at_call 67; ((with_reducible refine (value_is _ _ _ HD.out hk12 HN.out).mono ?_); rintro e w1 ⟨rfl, rfl⟩)) | (go_at_call 68; ((with_reducible refine (sixty_is ⟨#[a, b]⟩ a b _ _ rfl h6).mono ?_); rintro e w1 ⟨rfl, rfl⟩)) | (go_at_call 67; ((with_reducible refine (value_is ⟨#[a, b]⟩ M _ HD1.out (.inr rfl) HN1.out).mono ?_); rintro e w1 ⟨rfl, rfl⟩)) | (go_at_call 68; ((with_reducible refine (sixty_is ⟨#[d, e]⟩ d e _ _ rfl h7).mono ?_); rintro e w1 ⟨rfl, rfl⟩)) | (go_at_call 67; ((with_reducible refine (value_is ⟨#[d, e]⟩ K _ HD2.out (.inr rfl) HN2.out).mono ?_); rintro e w1 ⟨rfl, rfl⟩)))
                    go_ret2
                    exact ⟨by rw [HZ.out, HL.out, rspL_six _ _ _ _ _ _ _ HC.out]; simp [h6, h7, c58, spanV, HN.out, HM.out, HK.out]; try go_num, rfl⟩
                · go_wp2_with (first | (go_at_call 58; ((with_reducible refine (whole_is _ _ _ hhs HW.out).mono ?_); rintro e w1 ⟨rfl, rfl⟩)) | (go_at_call 67; ((with_reducible refine (value_is _ _ _ HD.out hk12 HN.out).mono ?_); rintro e w1 ⟨rfl, rfl⟩)) | (go_at_call 68; ((with_reducible refine (sixty_is ⟨#[a, b]⟩ a b _ _ rfl h6).mono ?_); rintro e w1 ⟨rfl, rfl⟩)) | (go_at_call 67; ((with_reducible refine (value_is ⟨#[a, b]⟩ M _ HD1.out (.inr rfl) HN1.out).mono ?_); rintro e w1 ⟨rfl, rfl⟩)) | (go_at_call 68; ((with_reducible refine (sixty_is ⟨#[d, e]⟩ d e _ _ rfl h7).mono ?_); rintro e w1 ⟨rfl, rfl⟩)) | (go_at_call 67; ((with_reducible refine (value_is ⟨#[d, e]⟩ K _ HD2.out (.inr rfl) HN2.out).mono ?_); rintro e w1 ⟨rfl, rfl⟩)))
                  go_ret2
                  exact ⟨by rw [HZ.out, HL.out, rspL_six _ _ _ _ _ _ _ HC.out]; simp [h6, c58, spanV], rfl⟩
            · have hne := not_nil t (by omega)
              have HX : rspL h.data.toList t.data.toList = none := rspL_other _ _ HC.out (by rw [len_is]; exact u0) (by rw [len_is]; exact u3) (by rw [len_is]; exact u6)
              replace HX := Lib.hid HX
              go_wp2_with (first | (go_at_call 58; ((with_reducible refine (whole_is _ _ _ hhs HW.out).mono ?_); rintro e w1 ⟨rfl, rfl⟩)) | (go_at_call 67; ((with_reducible refine (value_is _ _ _ HD.out hk12 HN.out).mono ?_); rintro e w1 ⟨rfl, rfl⟩)) | (go_at_call 68; ((with_reducible refine (sixty_is ⟨#[a, b]⟩ a b _ _ rfl h6).mono ?_); rintro e w1 ⟨rfl, rfl⟩)) | (go_at_call 67; ((with_reducible refine (value_is ⟨#[a, b]⟩ M _ HD1.out (.inr rfl) HN1.out).mono ?_); rintro e w1 ⟨rfl, rfl⟩)) | (go_at_call 68; ((with_reducible refine (sixty_is ⟨#[d, e]⟩ d e _ _ rfl h7).mono ?_); rintro e w1 ⟨rfl, rfl⟩)) | (go_at_call 67; ((with_reducible refine (value_is ⟨#[d, e]⟩ K _ HD2.out (.inr rfl) HN2.out).mono ?_); rintro e w1 ⟨rfl, rfl⟩)))
              go_ret2
              exact ⟨by rw [HZ.out, HX.out]; rfl, rfl⟩
      · clear fin
        go_wp2
        go_roundw
        case rel =>
          refine ⟨k + 1, by omega, by go_num, ?_, by first | rfl | trivial⟩
          intro j hj
          by_cases hjk : j = k
          · subst hjk
            rw [HAT.out]
            intro e
            rw [Option.some.inj e] at h58
            exact h58 rfl
          · exact HF.out j (by omega)
        case measure => simp [intOf]; omega
    · have hx : colonAt s k := ⟨hk, HF.out, .inl (by omega)⟩
      have HZ := Lib.hid (fin hx)
      clear hx fin
      obtain ⟨h, hh⟩ : ∃ h, s.extract 0 k = h := ⟨_, rfl⟩
      obtain ⟨t, ht⟩ : ∃ t, s.extract k s.size = t := ⟨_, rfl⟩
      have hsz : h.size = k := by rw [← hh, ByteArray.size_extract]; omega
      have TSZ := Lib.hid (show t.size = s.size - k by rw [← ht, ByteArray.size_extract]; omega)
      have hhs : h.size < 4294967281 := by omega
      rw [hh, ht] at HZ
      cases hw : wholeL h.data.toList
      · have HW := Lib.hid hw
        clear hw
        go_wp2_with (first | (go_at_call 58; ((with_reducible refine (whole_is _ _ _ hhs HW.out).mono ?_); rintro e w1 ⟨rfl, rfl⟩)) | (go_at_call 67; ((with_reducible refine (value_is _ _ _ HD.out hk12 HN.out).mono ?_); rintro e w1 ⟨rfl, rfl⟩)) | (go_at_call 68; ((with_reducible refine (sixty_is ⟨#[a, b]⟩ a b _ _ rfl h6).mono ?_); rintro e w1 ⟨rfl, rfl⟩)) | (go_at_call 67; ((with_reducible refine (value_is ⟨#[a, b]⟩ M _ HD1.out (.inr rfl) HN1.out).mono ?_); rintro e w1 ⟨rfl, rfl⟩)) | (go_at_call 68; ((with_reducible refine (sixty_is ⟨#[d, e]⟩ d e _ _ rfl h7).mono ?_); rintro e w1 ⟨rfl, rfl⟩)) | (go_at_call 67; ((with_reducible refine (value_is ⟨#[d, e]⟩ K _ HD2.out (.inr rfl) HN2.out).mono ?_); rintro e w1 ⟨rfl, rfl⟩)))
        go_ret2
        exact ⟨by rw [HZ.out]; simp [rspL, HW.out, spanV], rfl⟩
      · have HW := Lib.hid hw
        obtain ⟨hdg, hl1⟩ := whole_dg _ hw
        rw [len_is] at hl1
        clear hw
        by_cases h2 : 2 < k
        · go_wp2_with (first | (go_at_call 58; ((with_reducible refine (whole_is _ _ _ hhs HW.out).mono ?_); rintro e w1 ⟨rfl, rfl⟩)) | (go_at_call 67; ((with_reducible refine (value_is _ _ _ HD.out hk12 HN.out).mono ?_); rintro e w1 ⟨rfl, rfl⟩)) | (go_at_call 68; ((with_reducible refine (sixty_is ⟨#[a, b]⟩ a b _ _ rfl h6).mono ?_); rintro e w1 ⟨rfl, rfl⟩)) | (go_at_call 67; ((with_reducible refine (value_is ⟨#[a, b]⟩ M _ HD1.out (.inr rfl) HN1.out).mono ?_); rintro e w1 ⟨rfl, rfl⟩)) | (go_at_call 68; ((with_reducible refine (sixty_is ⟨#[d, e]⟩ d e _ _ rfl h7).mono ?_); rintro e w1 ⟨rfl, rfl⟩)) | (go_at_call 67; ((with_reducible refine (value_is ⟨#[d, e]⟩ K _ HD2.out (.inr rfl) HN2.out).mono ?_); rintro e w1 ⟨rfl, rfl⟩)))
          go_ret2
          exact ⟨by rw [HZ.out]; simp [rspL, len_is, hsz, h2, spanV], rfl⟩
        · obtain ⟨n0, n1⟩ := numL_bd _ hdg (by rw [len_is]; omega)
          have HD := Lib.hid hdg
          have hk12 : h.size = 1 ∨ h.size = 2 := by omega
          have HC : ¬ (wholeL h.data.toList = false ∨ 2 < h.data.toList.length) := by rw [HW.out, len_is]; simp; omega
          replace HC := Lib.hid HC
          obtain ⟨N, hN⟩ : ∃ N, numL h.data.toList = N := ⟨_, rfl⟩
          rw [hN] at n0 n1
          have HN := Lib.hid hN
          clear hdg hN
          have cases4 : t.size = 0 ∨ t.size = 3 ∨ t.size = 6 ∨ (t.size ≠ 0 ∧ t.size ≠ 3 ∧ t.size ≠ 6) := by omega
          rcases cases4 with t0 | t3 | t6 | ⟨u0, u3, u6⟩
          · obtain rfl := nil_of t t0
            go_wp2_with (first | (go_at_call 58; ((with_reducible refine (whole_is _ _ _ hhs HW.out).mono ?_); rintro e w1 ⟨rfl, rfl⟩)) | (go_at_call 67; ((with_reducible refine (value_is _ _ _ HD.out hk12 HN.out).mono ?_); rintro e w1 ⟨rfl, rfl⟩)) | (go_at_call 68; ((with_reducible refine (sixty_is ⟨#[a, b]⟩ a b _ _ rfl h6).mono ?_); rintro e w1 ⟨rfl, rfl⟩)) | (go_at_call 67; ((with_reducible refine (value_is ⟨#[a, b]⟩ M _ HD1.out (.inr rfl) HN1.out).mono ?_); rintro e w1 ⟨rfl, rfl⟩)) | (go_at_call 68; ((with_reducible refine (sixty_is ⟨#[d, e]⟩ d e _ _ rfl h7).mono ?_); rintro e w1 ⟨rfl, rfl⟩)) | (go_at_call 67; ((with_reducible refine (value_is ⟨#[d, e]⟩ K _ HD2.out (.inr rfl) HN2.out).mono ?_); rintro e w1 ⟨rfl, rfl⟩)))
            go_ret2
            exact ⟨by rw [HZ.out, rspL_nil _ HC.out, HN.out]; simp [spanV]; try go_num, rfl⟩
          · obtain ⟨z, a, b, hl, e1⟩ := three_of t t3
            have hne := not_nil t (by omega)
            have HL := Lib.hid hl
            clear hl
            cases h6 : sixL a b
            · go_wp2_with (first | (go_at_call 58; ((with_reducible refine (whole_is _ _ _ hhs HW.out).mono ?_); rintro e w1 ⟨rfl, rfl⟩)) | (go_at_call 67; ((with_reducible refine (value_is _ _ _ HD.out hk12 HN.out).mono ?_); rintro e w1 ⟨rfl, rfl⟩)) | (go_at_call 68; ((with_reducible refine (sixty_is ⟨#[a, b]⟩ a b _ _ rfl h6).mono ?_); rintro e w1 ⟨rfl, rfl⟩)) | (go_at_call 67; ((with_reducible refine (value_is ⟨#[a, b]⟩ M _ HD1.out (.inr rfl) HN1.out).mono ?_); rintro e w1 ⟨rfl, rfl⟩)) | (go_at_call 68; ((with_reducible refine (sixty_is ⟨#[d, e]⟩ d e _ _ rfl h7).mono ?_); rintro e w1 ⟨rfl, rfl⟩)) | (go_at_call 67; ((with_reducible refine (value_is ⟨#[d, e]⟩ K _ HD2.out (.inr rfl) HN2.out).mono ?_); rintro e w1 ⟨rfl, rfl⟩)))
              go_ret2
              exact ⟨by rw [HZ.out, HL.out, rspL_three _ _ _ _ HC.out]; simp [h6, spanV], rfl⟩
            · obtain ⟨b0, b1, hdp⟩ := six_bd a b h6
              obtain ⟨M, hM⟩ : ∃ M, numL [a, b] = M := ⟨_, rfl⟩
              have HM := Lib.hid hM
              rw [hM] at b0 b1
              have HD1 := Lib.hid (show allDg (ByteArray.mk #[a, b]).data.toList = true from hdp)
              have HN1 := Lib.hid (show numL (ByteArray.mk #[a, b]).data.toList = M from hM)
              clear hM hdp
              go_wp2_with (first | (go_at_call 58; ((with_reducible refine (whole_is _ _ _ hhs HW.out).mono ?_); rintro e w1 ⟨rfl, rfl⟩)) | (go_at_call 67; ((with_reducible refine (value_is _ _ _ HD.out hk12 HN.out).mono ?_); rintro e w1 ⟨rfl, rfl⟩)) | (go_at_call 68; ((with_reducible refine (sixty_is ⟨#[a, b]⟩ a b _ _ rfl h6).mono ?_); rintro e w1 ⟨rfl, rfl⟩)) | (go_at_call 67; ((with_reducible refine (value_is ⟨#[a, b]⟩ M _ HD1.out (.inr rfl) HN1.out).mono ?_); rintro e w1 ⟨rfl, rfl⟩)) | (go_at_call 68; ((with_reducible refine (sixty_is ⟨#[d, e]⟩ d e _ _ rfl h7).mono ?_); rintro e w1 ⟨rfl, rfl⟩)) | (go_at_call 67; ((with_reducible refine (value_is ⟨#[d, e]⟩ K _ HD2.out (.inr rfl) HN2.out).mono ?_); rintro e w1 ⟨rfl, rfl⟩)))
              go_ret2
              exact ⟨by rw [HZ.out, HL.out, rspL_three _ _ _ _ HC.out]; simp [h6, spanV, HN.out, HM.out]; try go_num, rfl⟩
          · obtain ⟨z, a, b, c2, d, e, hl, e1, e2, hg3⟩ := six_of t t6
            replace hg3 := hg3 (by omega)
            rw [t6] at e2
            have hne := not_nil t (by omega)
            have HL := Lib.hid hl
            clear hl
            cases h6 : sixL a b
            · go_wp2_with (first | (go_at_call 58; ((with_reducible refine (whole_is _ _ _ hhs HW.out).mono ?_); rintro e w1 ⟨rfl, rfl⟩)) | (go_at_call 67; ((with_reducible refine (value_is _ _ _ HD.out hk12 HN.out).mono ?_); rintro e w1 ⟨rfl, rfl⟩)) | (go_at_call 68; ((with_reducible refine (sixty_is ⟨#[a, b]⟩ a b _ _ rfl h6).mono ?_); rintro e w1 ⟨rfl, rfl⟩)) | (go_at_call 67; ((with_reducible refine (value_is ⟨#[a, b]⟩ M _ HD1.out (.inr rfl) HN1.out).mono ?_); rintro e w1 ⟨rfl, rfl⟩)) | (go_at_call 68; ((with_reducible refine (sixty_is ⟨#[d, e]⟩ d e _ _ rfl h7).mono ?_); rintro e w1 ⟨rfl, rfl⟩)) | (go_at_call 67; ((with_reducible refine (value_is ⟨#[d, e]⟩ K _ HD2.out (.inr rfl) HN2.out).mono ?_); rintro e w1 ⟨rfl, rfl⟩)))
              go_ret2
              exact ⟨by rw [HZ.out, HL.out, rspL_six _ _ _ _ _ _ _ HC.out]; simp [h6, spanV], rfl⟩
            · obtain ⟨b0, b1, hdp⟩ := six_bd a b h6
              obtain ⟨M, hM⟩ : ∃ M, numL [a, b] = M := ⟨_, rfl⟩
              have HM := Lib.hid hM
              rw [hM] at b0 b1
              have HD1 := Lib.hid (show allDg (ByteArray.mk #[a, b]).data.toList = true from hdp)
              have HN1 := Lib.hid (show numL (ByteArray.mk #[a, b]).data.toList = M from hM)
              clear hM hdp
              by_cases c58 : c2.toNat = 58
              · cases h7 : sixL d e
                · go_wp2_with (first | (go_at_call 58; ((with_reducible refine (whole_is _ _ _ hhs HW.out).mono ?_); rintro e w1 ⟨rfl, rfl⟩)) | (go_at_call 67; ((with_reducible refine (value_is _ _ _ HD.out hk12 HN.out).mono ?_); rintro e w1 ⟨rfl, rfl⟩)) | (go_at_call 68; ((with_reducible refine (sixty_is ⟨#[a, b]⟩ a b _ _ rfl h6).mono ?_); rintro e w1 ⟨rfl, rfl⟩)) | (go_at_call 67; ((with_reducible refine (value_is ⟨#[a, b]⟩ M _ HD1.out (.inr rfl) HN1.out).mono ?_); rintro e w1 ⟨rfl, rfl⟩)) | (go_at_call 68; ((with_reducible refine (sixty_is ⟨#[d, e]⟩ d e _ _ rfl h7).mono ?_); rintro e w1 ⟨rfl, rfl⟩)) | (go_at_call 67; ((with_reducible refine (value_is ⟨#[d, e]⟩ K _ HD2.out (.inr rfl) HN2.out).mono ?_); rintro e w1 ⟨rfl, rfl⟩)))
                  go_ret2
                  exact ⟨by rw [HZ.out, HL.out, rspL_six _ _ _ _ _ _ _ HC.out]; simp [h6, h7, spanV], rfl⟩
                · obtain ⟨d0, d1, hdq⟩ := six_bd d e h7
                  obtain ⟨K, hK⟩ : ∃ K, numL [d, e] = K := ⟨_, rfl⟩
                  have HK := Lib.hid hK
                  rw [hK] at d0 d1
                  have HD2 := Lib.hid (show allDg (ByteArray.mk #[d, e]).data.toList = true from hdq)
                  have HN2 := Lib.hid (show numL (ByteArray.mk #[d, e]).data.toList = K from hK)
                  clear hK hdq
                  go_wp2_with (first | (go_at_call 58; ((with_reducible refine (whole_is _ _ _ hhs HW.out).mono ?_); rintro e w1 ⟨rfl, rfl⟩)) | (go_at_call 67; ((with_reducible refine (value_is _ _ _ HD.out hk12 HN.out).mono ?_); rintro e w1 ⟨rfl, rfl⟩)) | (go_at_call 68; ((with_reducible refine (sixty_is ⟨#[a, b]⟩ a b _ _ rfl h6).mono ?_); rintro e w1 ⟨rfl, rfl⟩)) | (go_at_call 67; ((with_reducible refine (value_is ⟨#[a, b]⟩ M _ HD1.out (.inr rfl) HN1.out).mono ?_); rintro e w1 ⟨rfl, rfl⟩)) | (go_at_call 68; ((with_reducible refine (sixty_is ⟨#[d, e]⟩ d e _ _ rfl h7).mono ?_); rintro e w1 ⟨rfl, rfl⟩)) | (go_at_call 67; ((with_reducible refine (value_is ⟨#[d, e]⟩ K _ HD2.out (.inr rfl) HN2.out).mono ?_); rintro e w1 ⟨rfl, rfl⟩)))
                  go_ret2
                  exact ⟨by rw [HZ.out, HL.out, rspL_six _ _ _ _ _ _ _ HC.out]; simp [h6, h7, c58, spanV, HN.out, HM.out, HK.out]; try go_num, rfl⟩
              · go_wp2_with (first | (go_at_call 58; ((with_reducible refine (whole_is _ _ _ hhs HW.out).mono ?_); rintro e w1 ⟨rfl, rfl⟩)) | (go_at_call 67; ((with_reducible refine (value_is _ _ _ HD.out hk12 HN.out).mono ?_); rintro e w1 ⟨rfl, rfl⟩)) | (go_at_call 68; ((with_reducible refine (sixty_is ⟨#[a, b]⟩ a b _ _ rfl h6).mono ?_); rintro e w1 ⟨rfl, rfl⟩)) | (go_at_call 67; ((with_reducible refine (value_is ⟨#[a, b]⟩ M _ HD1.out (.inr rfl) HN1.out).mono ?_); rintro e w1 ⟨rfl, rfl⟩)) | (go_at_call 68; ((with_reducible refine (sixty_is ⟨#[d, e]⟩ d e _ _ rfl h7).mono ?_); rintro e w1 ⟨rfl, rfl⟩)) | (go_at_call 67; ((with_reducible refine (value_is ⟨#[d, e]⟩ K _ HD2.out (.inr rfl) HN2.out).mono ?_); rintro e w1 ⟨rfl, rfl⟩)))
                go_ret2
                exact ⟨by rw [HZ.out, HL.out, rspL_six _ _ _ _ _ _ _ HC.out]; simp [h6, c58, spanV], rfl⟩
          · have hne := not_nil t (by omega)
            have HX : rspL h.data.toList t.data.toList = none := rspL_other _ _ HC.out (by rw [len_is]; exact u0) (by rw [len_is]; exact u3) (by rw [len_is]; exact u6)
            replace HX := Lib.hid HX
            go_wp2_with (first | (go_at_call 58; ((with_reducible refine (whole_is _ _ _ hhs HW.out).mono ?_); rintro e w1 ⟨rfl, rfl⟩)) | (go_at_call 67; ((with_reducible refine (value_is _ _ _ HD.out hk12 HN.out).mono ?_); rintro e w1 ⟨rfl, rfl⟩)) | (go_at_call 68; ((with_reducible refine (sixty_is ⟨#[a, b]⟩ a b _ _ rfl h6).mono ?_); rintro e w1 ⟨rfl, rfl⟩)) | (go_at_call 67; ((with_reducible refine (value_is ⟨#[a, b]⟩ M _ HD1.out (.inr rfl) HN1.out).mono ?_); rintro e w1 ⟨rfl, rfl⟩)) | (go_at_call 68; ((with_reducible refine (sixty_is ⟨#[d, e]⟩ d e _ _ rfl h7).mono ?_); rintro e w1 ⟨rfl, rfl⟩)) | (go_at_call 67; ((with_reducible refine (value_is ⟨#[d, e]⟩ K _ HD2.out (.inr rfl) HN2.out).mono ?_); rintro e w1 ⟨rfl, rfl⟩)))
            go_ret2
            exact ⟨by rw [HZ.out, HX.out]; rfl, rfl⟩

theorem rspan_none (s : ByteArray) (w : World) (hs : s.size < 4294967281) (h : spanZ s = none) :
    Calls Tryd.prog 46 #[.string s] w fun e w' => e = .returned (.tuple #[.int .i64 0, .bool false]) ∧ w = w' := by
  have := rspan_any s w hs
  rw [h] at this
  exact this
theorem rspan_some (s : ByteArray) (n : Int) (w : World) (hs : s.size < 4294967281) (h : spanZ s = some n) :
    Calls Tryd.prog 46 #[.string s] w fun e w' => e = .returned (.tuple #[.int .i64 n, .bool true]) ∧ w = w' := by
  have := rspan_any s w hs
  rw [h] at this
  exact this

/-- A text begins with a minus, or does not. -/
theorem off_cases (s : ByteArray) : (s.size = 0 ∧ offNeg s = false ∧ offT s = s) ∨ (0 < s.size ∧ ∃ c, (∀ hh : 0 < s.size, s[0] = c) ∧ ((c.toNat = 45 ∧ offNeg s = true ∧ s.extract 1 s.size = offT s) ∨ (¬ c.toNat = 45 ∧ offNeg s = false ∧ offT s = s))) := by
  obtain ⟨⟨l⟩⟩ := s
  match l with
  | [] => left; exact ⟨rfl, rfl, rfl⟩
  | c :: r =>
    right
    refine ⟨by simp [ByteArray.size], c, fun _ => rfl, ?_⟩
    by_cases h : c = 45
    · left
      subst h
      refine ⟨rfl, by simp [offNeg, Lib.hasPrefix], ?_⟩
      have : (ByteArray.mk ⟨(45 : UInt8) :: r⟩).extract 1 (ByteArray.mk ⟨(45 : UInt8) :: r⟩).size = ⟨r.toArray⟩ := by
        refine bytes_of _ _ ?_
        rw [ext_tail]; rfl
      rw [this]
      simp [offT, Lib.trimPrefix, Lib.hasPrefix]
    · right
      have h2 : ¬ c.toNat = 45 := fun e => h (UInt8.toNat_inj.1 e)
      have h3 : ¬ (45 : UInt8) = c := fun e => h e.symm
      refine ⟨h2, by simp [offNeg, Lib.hasPrefix, List.isPrefixOf, h3], by simp [offT, Lib.trimPrefix, Lib.hasPrefix, h3]⟩

set_option maxRecDepth 20000 in
set_option maxHeartbeats 4000000 in
theorem roffset_any (s : ByteArray) (w : World) (hs : s.size < 4294967281) : Calls Tryd.prog 13 #[.string s] w fun e w' => e = .returned (pairV (offZ s)) ∧ w = w' := by
  have hsz : (offT s).size < 4294967281 := by have := offT_size s; omega
  obtain ⟨t, ht⟩ : ∃ t, offT s = t := ⟨_, rfl⟩
  rw [ht] at hsz
  rcases off_cases s with ⟨h0, hn, hT⟩ | ⟨h0, c, hg, ⟨hc, hn, hT⟩ | ⟨hc, hn, hT⟩⟩
  · have hst : s = t := by rw [← ht, hT]
    subst hst
    have HN := Lib.hid hn
    have HT := Lib.hid hT
    clear hn hT ht
    cases hz : spanZ s with
    | none =>
      rw [show offZ s = (0, 3) by simp [offZ, HT.out, HN.out, hz, offR]]
      go_enter Tryd.func13, Tryd.ntmps13
      go_wp2_with (go_at_call 46; ((with_reducible refine (rspan_none _ _ hs hz).mono ?_); rintro e w1 ⟨rfl, rfl⟩))
      go_ret2
      exact ⟨rfl, rfl⟩
    | some n =>
      have hb := spanZ_bd _ _ hz
      by_cases h1 : 93600 < n
      · rw [show offZ s = (0, 2) by simp [offZ, HT.out, HN.out, hz, offR, h1]]
        go_enter Tryd.func13, Tryd.ntmps13
        go_wp2_with (go_at_call 46; ((with_reducible refine (rspan_some _ n _ hs hz).mono ?_); rintro e w1 ⟨rfl, rfl⟩))
        go_ret2
        exact ⟨rfl, rfl⟩
      · rw [show offZ s = (n, 0) by simp [offZ, HT.out, HN.out, hz, offR, h1]]
        go_enter Tryd.func13, Tryd.ntmps13
        go_wp2_with (go_at_call 46; ((with_reducible refine (rspan_some _ n _ hs hz).mono ?_); rintro e w1 ⟨rfl, rfl⟩))
        go_ret2
        exact ⟨rfl, rfl⟩
  · have HN := Lib.hid hn
    have HT := Lib.hid ht
    replace hg := hg h0
    rw [ht] at hT
    clear hn ht
    cases hz : spanZ t with
    | none =>
      rw [show offZ s = (0, 3) by simp [offZ, HT.out, HN.out, hz, offR]]
      go_enter Tryd.func13, Tryd.ntmps13
      go_wp2_with (go_at_call 46; ((with_reducible refine (rspan_none _ _ hsz hz).mono ?_); rintro e w1 ⟨rfl, rfl⟩))
      go_ret2
      exact ⟨rfl, rfl⟩
    | some n =>
      have hb := spanZ_bd _ _ hz
      by_cases h00 : n = 0
      · rw [show offZ s = (0, 3) by simp [offZ, HT.out, HN.out, hz, offR, h00]]
        go_enter Tryd.func13, Tryd.ntmps13
        go_wp2_with (go_at_call 46; ((with_reducible refine (rspan_some _ n _ hsz hz).mono ?_); rintro e w1 ⟨rfl, rfl⟩))
        go_ret2
        exact ⟨rfl, rfl⟩
      by_cases h1 : 93600 < n
      · rw [show offZ s = (0, 2) by simp [offZ, HT.out, HN.out, hz, offR, h1, h00]]
        go_enter Tryd.func13, Tryd.ntmps13
        go_wp2_with (go_at_call 46; ((with_reducible refine (rspan_some _ n _ hsz hz).mono ?_); rintro e w1 ⟨rfl, rfl⟩))
        go_ret2
        exact ⟨rfl, rfl⟩
      · rw [show offZ s = (-n, 0) by simp [offZ, HT.out, HN.out, hz, offR, h1, h00]]
        go_enter Tryd.func13, Tryd.ntmps13
        go_wp2_with (go_at_call 46; ((with_reducible refine (rspan_some _ n _ hsz hz).mono ?_); rintro e w1 ⟨rfl, rfl⟩))
        go_ret2
        exact ⟨by go_num, rfl⟩
  · have hst : s = t := by rw [← ht, hT]
    subst hst
    have HN := Lib.hid hn
    have HT := Lib.hid hT
    replace hg := hg h0
    clear hn hT ht
    cases hz : spanZ s with
    | none =>
      rw [show offZ s = (0, 3) by simp [offZ, HT.out, HN.out, hz, offR]]
      go_enter Tryd.func13, Tryd.ntmps13
      go_wp2_with (go_at_call 46; ((with_reducible refine (rspan_none _ _ hs hz).mono ?_); rintro e w1 ⟨rfl, rfl⟩))
      go_ret2
      exact ⟨rfl, rfl⟩
    | some n =>
      have hb := spanZ_bd _ _ hz
      by_cases h1 : 93600 < n
      · rw [show offZ s = (0, 2) by simp [offZ, HT.out, HN.out, hz, offR, h1]]
        go_enter Tryd.func13, Tryd.ntmps13
        go_wp2_with (go_at_call 46; ((with_reducible refine (rspan_some _ n _ hs hz).mono ?_); rintro e w1 ⟨rfl, rfl⟩))
        go_ret2
        exact ⟨rfl, rfl⟩
      · rw [show offZ s = (n, 0) by simp [offZ, HT.out, HN.out, hz, offR, h1]]
        go_enter Tryd.func13, Tryd.ntmps13
        go_wp2_with (go_at_call 46; ((with_reducible refine (rspan_some _ n _ hs hz).mono ?_); rintro e w1 ⟨rfl, rfl⟩))
        go_ret2
        exact ⟨rfl, rfl⟩
end Go.Proofs.YtcpfbemmlmdcaaaDoor.Lx
