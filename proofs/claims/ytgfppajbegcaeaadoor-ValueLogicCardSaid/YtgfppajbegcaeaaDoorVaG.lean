/-
  The walks of Encode (layer 33).
-/
import Derived.Test.YtgfppajbegcaeaaDoorVaB
set_option linter.unusedSimpArgs false
set_option linter.unusedVariables false
namespace Go.Proofs.YtgfppajbegcaeaaDoor.Va
open Go.RowKit Go.ChangeShapes Go.WideShapes Go.Proofs.YtgfppajbegcaeaaDoor.Sl

theorem encL_take (l : List V3) (k : Nat) (v : V3) (h : l[k]? = some v) : encL (l.take (k + 1)) = encL (l.take k) ++ encV v := by
  rw [List.take_add_one, h]
  unfold encL
  rw [List.map_append, List.flatten_append]
  show _ ++ [encV v].flatten = _
  simp
theorem allV_take (l : List V3) (k : Nat) (h : allV l = true) : allV (l.take k) = true := by
  unfold allV at h ⊢
  rw [List.all_eq_true] at h ⊢
  exact fun x hx => h x (List.mem_of_mem_take hx)
theorem encL_take_len (l : List V3) (k : Nat) (hv : allV l = true) (hl : l.length ≤ 1000) : (encL (l.take k)).length ≤ 32000 := by
  have h1 := encL_len _ (allV_take l k hv)
  have h2 : (l.take k).length ≤ l.length := List.length_take_le' _ _
  omega

set_option maxRecDepth 20000 in
set_option maxHeartbeats 4000000 in
theorem encode_any (l : List V3) (s : Value) (w : World) (hl : l.length ≤ 1000) (hf : ∀ v ∈ l, FitV v) (hv : allV l = true) (hs : Vs w s l) :
    Calls Tryd.prog 14 #[s] w fun e w' => ∃ v, e = .returned (.tuple #[v, .int .i64 0]) ∧ Bf w w' v (encL l) := by
  obtain ⟨i0, hi, hz0, hz1, hz2⟩ := info_parts infoB
  have HA := fun W h => all_any l s W (by omega) h
  rw [hv] at HA
  obtain ⟨ad, cap, rfl⟩ := hs.form
  obtain ⟨n, hn⟩ : ∃ n, n = l.length := ⟨_, rfl⟩
  have HN := Lib.hid hn
  have HL := Lib.hid (encL_take_len l · hv hl)
  rw [← hn] at hl hs HA ⊢
  have HV := Lib.hid hs
  have HF := Lib.hid hf
  have HVL := Lib.hid hv
  clear hs hf hn hv
  go_enter Tryd.func14, Tryd.ntmps14
  go_wp2_with (first | (go_at_call 40; (with_reducible refine (HA _ HV.out).mono ?_); rintro e w1 ⟨rfl, hL⟩) | (with_reducible refine wpList_make_own _ rfl _ _ 23 rfl w.heap.size 5 i0 (.int .u8 0) 1 Tryd.underlying23 hi hz0 hz1 .i64 .i64 _ (9 * n) rfl rfl (by omega) (by rw [hz2]; omega) (by unfold maxLen; omega) hL.size ?_; intro w2 hown hg; replace hL := grow_step hL hg (by intro k hk; cases hk)))
  clear HA
  go_loopw [4, 21] (fun v i wr => ∃ k : Nat, k ≤ n ∧ i = .int .i64 k ∧ Bf w wr v (encL (l.take k))) (fun _ i _ => n - (intOf i).toNat)
  case atStart => exact ⟨0, Nat.zero_le _, rfl, hown, hL⟩
  case round =>
    clear hown hg hL
    obtain ⟨k, hk, rfl, hB⟩ := hrel
    by_cases hlt : k < n
    · obtain ⟨⟨kd, nm, t⟩, ht⟩ : ∃ t, l[k]? = some t := ⟨_, List.getElem?_eq_getElem (by rw [← HN.out]; exact hlt)⟩
      have h10 : ¬ l.length = 0 := by rw [← HN.out]; omega
      obtain ⟨g, off, cap, hsl, hc⟩ := HV.out.open h10
      simp only [Value.slice.injEq] at hsl
      obtain ⟨rfl, hx, rfl⟩ := hsl
      clear hx
      obtain ⟨c0, c1, c2⟩ := vs_get hc ht
      have d0 := cell_kept c0 hB.2
      have d1 := cell_kept c1 hB.2
      have d2 := cell_kept c2 hB.2
      have hlen := HL.out k
      have hval : validV (kd, nm, t) = true := List.all_eq_true.1 HVL.out _ (List.mem_of_getElem? ht)
      have HT := Lib.hid (encL_take l k _ ht)
      have hfit := HF.out _ (List.mem_of_getElem? ht)
      have hP := box_new wr #[.int .i64 kd, .int .i64 nm, .string t] 32
      replace hB := hB.alloc (.cells #[.int .i64 kd, .int .i64 nm, .string t] 32)
      have k0 : (0 : Int) ≤ (k : Int) := by omega
      have k1 : (k : Int) < (n : Int) := by omega
      have hkd := valid_kind _ hval
      clear ht hc c0 c1 c2
      rcases hkd with rfl | rfl | rfl | rfl
      · have hx1 : IntKind.u64.wrap nm = (uns nm : Int) := by rw [IntKind.wrap_u64]; unfold uns; omega
        have hx2 := bits_uns nm hfit.1 hfit.2
        have hb8 := off63_lt nm hfit.1 hfit.2
        go_wp2_with (first | (at_builtin; refine wp_byte hB rfl (.tmp 25) (.tmp 29) rfl rfl 5 rfl (by simp) 1 1 (by rfl) (by (try simp only [List.length_append, List.length_cons, List.length_nil, Array.length_toList]); omega) ?_; intro v1 w1 hB1 hk1; replace hB := hB1; replace hP := hk1.2 _ _ _ (by decide) hP; replace hc := box3 hP; clear hB1 hk1))
        generalize hm : off63 nm = m at *
        have HM := Lib.hid hm
        clear hx1 hx2 hm
        refine wp_loop_rounds 9 ?_
        rw [rounds_succ]
        go_wp2_with (first | (at_builtin; refine wp_byte hB rfl (.tmp 41) (.tmp 46) rfl rfl 5 rfl (by simp) _ (byteAt m 7) (by unfold byteAt; rw [UInt8.toNat_ofNat']; omega) (by (try simp only [List.length_append, List.length_cons, List.length_nil, Array.length_toList]); omega) ?_; intro v1 w1 hB1 hk1; replace hB := hB1; replace hP := hk1.2 _ _ _ (by decide) hP; replace hc := box3 hP; clear hB1 hk1))
        rw [rounds_succ]
        go_wp2_with (first | (at_builtin; refine wp_byte hB rfl (.tmp 41) (.tmp 46) rfl rfl 5 rfl (by simp) _ (byteAt m 6) (by unfold byteAt; rw [UInt8.toNat_ofNat']; omega) (by (try simp only [List.length_append, List.length_cons, List.length_nil, Array.length_toList]); omega) ?_; intro v1 w1 hB1 hk1; replace hB := hB1; replace hP := hk1.2 _ _ _ (by decide) hP; replace hc := box3 hP; clear hB1 hk1))
        rw [rounds_succ]
        go_wp2_with (first | (at_builtin; refine wp_byte hB rfl (.tmp 41) (.tmp 46) rfl rfl 5 rfl (by simp) _ (byteAt m 5) (by unfold byteAt; rw [UInt8.toNat_ofNat']; omega) (by (try simp only [List.length_append, List.length_cons, List.length_nil, Array.length_toList]); omega) ?_; intro v1 w1 hB1 hk1; replace hB := hB1; replace hP := hk1.2 _ _ _ (by decide) hP; replace hc := box3 hP; clear hB1 hk1))
        rw [rounds_succ]
        go_wp2_with (first | (at_builtin; refine wp_byte hB rfl (.tmp 41) (.tmp 46) rfl rfl 5 rfl (by simp) _ (byteAt m 4) (by unfold byteAt; rw [UInt8.toNat_ofNat']; omega) (by (try simp only [List.length_append, List.length_cons, List.length_nil, Array.length_toList]); omega) ?_; intro v1 w1 hB1 hk1; replace hB := hB1; replace hP := hk1.2 _ _ _ (by decide) hP; replace hc := box3 hP; clear hB1 hk1))
        rw [rounds_succ]
        go_wp2_with (first | (at_builtin; refine wp_byte hB rfl (.tmp 41) (.tmp 46) rfl rfl 5 rfl (by simp) _ (byteAt m 3) (by unfold byteAt; rw [UInt8.toNat_ofNat']; omega) (by (try simp only [List.length_append, List.length_cons, List.length_nil, Array.length_toList]); omega) ?_; intro v1 w1 hB1 hk1; replace hB := hB1; replace hP := hk1.2 _ _ _ (by decide) hP; replace hc := box3 hP; clear hB1 hk1))
        rw [rounds_succ]
        go_wp2_with (first | (at_builtin; refine wp_byte hB rfl (.tmp 41) (.tmp 46) rfl rfl 5 rfl (by simp) _ (byteAt m 2) (by unfold byteAt; rw [UInt8.toNat_ofNat']; omega) (by (try simp only [List.length_append, List.length_cons, List.length_nil, Array.length_toList]); omega) ?_; intro v1 w1 hB1 hk1; replace hB := hB1; replace hP := hk1.2 _ _ _ (by decide) hP; replace hc := box3 hP; clear hB1 hk1))
        rw [rounds_succ]
        go_wp2_with (first | (at_builtin; refine wp_byte hB rfl (.tmp 41) (.tmp 46) rfl rfl 5 rfl (by simp) _ (byteAt m 1) (by unfold byteAt; rw [UInt8.toNat_ofNat']; omega) (by (try simp only [List.length_append, List.length_cons, List.length_nil, Array.length_toList]); omega) ?_; intro v1 w1 hB1 hk1; replace hB := hB1; replace hP := hk1.2 _ _ _ (by decide) hP; replace hc := box3 hP; clear hB1 hk1))
        rw [rounds_succ]
        go_wp2_with (first | (at_builtin; refine wp_byte hB rfl (.tmp 41) (.tmp 46) rfl rfl 5 rfl (by simp) _ (byteAt m 0) (by unfold byteAt; rw [UInt8.toNat_ofNat']; omega) (by (try simp only [List.length_append, List.length_cons, List.length_nil, Array.length_toList]); omega) ?_; intro v1 w1 hB1 hk1; replace hB := hB1; replace hP := hk1.2 _ _ _ (by decide) hP; replace hc := box3 hP; clear hB1 hk1))
        rw [rounds_succ]
        go_wp2
        go_roundw
        case rel => exact ⟨k + 1, by omega, by go_num, by rw [HT.out]; simpa [encV, encT, be8, HM.out] using hB⟩
        case measure => simp [intOf]; omega
      · have hts : t.size ≤ 30 := by
          simp [validV] at hval; exact hval.1.2
        have hts2 : t.data.size ≤ 30 := hts
        go_wp2_with (first | (at_builtin; refine wp_byte hB rfl (.tmp 25) (.tmp 29) rfl rfl 5 rfl (by simp) 2 2 (by rfl) (by (try simp only [List.length_append, List.length_cons, List.length_nil, Array.length_toList]); omega) ?_; intro v1 w1 hB1 hk1; replace hB := hB1; replace hP := hk1.2 _ _ _ (by decide) hP; replace hc := box3 hP; clear hB1 hk1) | (at_builtin; refine wp_byte hB rfl (.tmp 54) (.tmp 55) rfl rfl 5 rfl (by simp) 0 0 (by rfl) (by (try simp only [List.length_append, List.length_cons, List.length_nil, Array.length_toList]); omega) ?_; intro v1 w1 hB1 hk1; replace hB := hB1; replace hP := hk1.2 _ _ _ (by decide) hP; replace hc := box3 hP; clear hB1 hk1) | (at_builtin; refine wp_text hB rfl (.tmp 50) (.tmp 52) rfl rfl t rfl (by (try simp only [List.length_append, List.length_cons, List.length_nil, Array.length_toList]); omega) (by omega) ?_; intro v1 w1 hB1 hk1; replace hB := hB1; replace hP := hk1.2 _ _ _ (by decide) hP; replace hc := box3 hP; clear hB1 hk1))
        go_roundw
        case rel => exact ⟨k + 1, by omega, by go_num, by rw [HT.out]; simpa [encV, encT] using hB⟩
        case measure => simp [intOf]; omega
      · have h01 : nm = 0 ∨ nm = 1 := by simp [validV] at hval; exact hval.2
        rcases h01 with rfl | rfl
        · go_wp2_with (first | (at_builtin; refine wp_byte hB rfl (.tmp 25) (.tmp 29) rfl rfl 5 rfl (by simp) 3 3 (by rfl) (by (try simp only [List.length_append, List.length_cons, List.length_nil, Array.length_toList]); omega) ?_; intro v1 w1 hB1 hk1; replace hB := hB1; replace hP := hk1.2 _ _ _ (by decide) hP; replace hc := box3 hP; clear hB1 hk1) | (at_builtin; refine wp_byte hB rfl (.tmp 59) (.tmp 63) rfl rfl 5 rfl (by simp) 0 0 (by rfl) (by (try simp only [List.length_append, List.length_cons, List.length_nil, Array.length_toList]); omega) ?_; intro v1 w1 hB1 hk1; replace hB := hB1; replace hP := hk1.2 _ _ _ (by decide) hP; replace hc := box3 hP; clear hB1 hk1))
          go_roundw
          case rel => exact ⟨k + 1, by omega, by go_num, by rw [HT.out]; simpa [encV, encT] using hB⟩
          case measure => simp [intOf]; omega
        · go_wp2_with (first | (at_builtin; refine wp_byte hB rfl (.tmp 25) (.tmp 29) rfl rfl 5 rfl (by simp) 3 3 (by rfl) (by (try simp only [List.length_append, List.length_cons, List.length_nil, Array.length_toList]); omega) ?_; intro v1 w1 hB1 hk1; replace hB := hB1; replace hP := hk1.2 _ _ _ (by decide) hP; replace hc := box3 hP; clear hB1 hk1) | (at_builtin; refine wp_byte hB rfl (.tmp 59) (.tmp 63) rfl rfl 5 rfl (by simp) 1 1 (by rfl) (by (try simp only [List.length_append, List.length_cons, List.length_nil, Array.length_toList]); omega) ?_; intro v1 w1 hB1 hk1; replace hB := hB1; replace hP := hk1.2 _ _ _ (by decide) hP; replace hc := box3 hP; clear hB1 hk1))
          go_roundw
          case rel => exact ⟨k + 1, by omega, by go_num, by rw [HT.out]; simpa [encV, encT] using hB⟩
          case measure => simp [intOf]; omega
      · have hx1 : IntKind.u64.wrap nm = (uns nm : Int) := by rw [IntKind.wrap_u64]; unfold uns; omega
        have hx2 := bits_uns nm hfit.1 hfit.2
        have hb8 := off63_lt nm hfit.1 hfit.2
        go_wp2_with (first | (at_builtin; refine wp_byte hB rfl (.tmp 25) (.tmp 29) rfl rfl 5 rfl (by simp) 4 4 (by rfl) (by (try simp only [List.length_append, List.length_cons, List.length_nil, Array.length_toList]); omega) ?_; intro v1 w1 hB1 hk1; replace hB := hB1; replace hP := hk1.2 _ _ _ (by decide) hP; replace hc := box3 hP; clear hB1 hk1))
        generalize hm : off63 nm = m at *
        have HM := Lib.hid hm
        clear hx1 hx2 hm
        refine wp_loop_rounds 9 ?_
        rw [rounds_succ]
        go_wp2_with (first | (at_builtin; refine wp_byte hB rfl (.tmp 41) (.tmp 46) rfl rfl 5 rfl (by simp) _ (byteAt m 7) (by unfold byteAt; rw [UInt8.toNat_ofNat']; omega) (by (try simp only [List.length_append, List.length_cons, List.length_nil, Array.length_toList]); omega) ?_; intro v1 w1 hB1 hk1; replace hB := hB1; replace hP := hk1.2 _ _ _ (by decide) hP; replace hc := box3 hP; clear hB1 hk1))
        rw [rounds_succ]
        go_wp2_with (first | (at_builtin; refine wp_byte hB rfl (.tmp 41) (.tmp 46) rfl rfl 5 rfl (by simp) _ (byteAt m 6) (by unfold byteAt; rw [UInt8.toNat_ofNat']; omega) (by (try simp only [List.length_append, List.length_cons, List.length_nil, Array.length_toList]); omega) ?_; intro v1 w1 hB1 hk1; replace hB := hB1; replace hP := hk1.2 _ _ _ (by decide) hP; replace hc := box3 hP; clear hB1 hk1))
        rw [rounds_succ]
        go_wp2_with (first | (at_builtin; refine wp_byte hB rfl (.tmp 41) (.tmp 46) rfl rfl 5 rfl (by simp) _ (byteAt m 5) (by unfold byteAt; rw [UInt8.toNat_ofNat']; omega) (by (try simp only [List.length_append, List.length_cons, List.length_nil, Array.length_toList]); omega) ?_; intro v1 w1 hB1 hk1; replace hB := hB1; replace hP := hk1.2 _ _ _ (by decide) hP; replace hc := box3 hP; clear hB1 hk1))
        rw [rounds_succ]
        go_wp2_with (first | (at_builtin; refine wp_byte hB rfl (.tmp 41) (.tmp 46) rfl rfl 5 rfl (by simp) _ (byteAt m 4) (by unfold byteAt; rw [UInt8.toNat_ofNat']; omega) (by (try simp only [List.length_append, List.length_cons, List.length_nil, Array.length_toList]); omega) ?_; intro v1 w1 hB1 hk1; replace hB := hB1; replace hP := hk1.2 _ _ _ (by decide) hP; replace hc := box3 hP; clear hB1 hk1))
        rw [rounds_succ]
        go_wp2_with (first | (at_builtin; refine wp_byte hB rfl (.tmp 41) (.tmp 46) rfl rfl 5 rfl (by simp) _ (byteAt m 3) (by unfold byteAt; rw [UInt8.toNat_ofNat']; omega) (by (try simp only [List.length_append, List.length_cons, List.length_nil, Array.length_toList]); omega) ?_; intro v1 w1 hB1 hk1; replace hB := hB1; replace hP := hk1.2 _ _ _ (by decide) hP; replace hc := box3 hP; clear hB1 hk1))
        rw [rounds_succ]
        go_wp2_with (first | (at_builtin; refine wp_byte hB rfl (.tmp 41) (.tmp 46) rfl rfl 5 rfl (by simp) _ (byteAt m 2) (by unfold byteAt; rw [UInt8.toNat_ofNat']; omega) (by (try simp only [List.length_append, List.length_cons, List.length_nil, Array.length_toList]); omega) ?_; intro v1 w1 hB1 hk1; replace hB := hB1; replace hP := hk1.2 _ _ _ (by decide) hP; replace hc := box3 hP; clear hB1 hk1))
        rw [rounds_succ]
        go_wp2_with (first | (at_builtin; refine wp_byte hB rfl (.tmp 41) (.tmp 46) rfl rfl 5 rfl (by simp) _ (byteAt m 1) (by unfold byteAt; rw [UInt8.toNat_ofNat']; omega) (by (try simp only [List.length_append, List.length_cons, List.length_nil, Array.length_toList]); omega) ?_; intro v1 w1 hB1 hk1; replace hB := hB1; replace hP := hk1.2 _ _ _ (by decide) hP; replace hc := box3 hP; clear hB1 hk1))
        rw [rounds_succ]
        go_wp2_with (first | (at_builtin; refine wp_byte hB rfl (.tmp 41) (.tmp 46) rfl rfl 5 rfl (by simp) _ (byteAt m 0) (by unfold byteAt; rw [UInt8.toNat_ofNat']; omega) (by (try simp only [List.length_append, List.length_cons, List.length_nil, Array.length_toList]); omega) ?_; intro v1 w1 hB1 hk1; replace hB := hB1; replace hP := hk1.2 _ _ _ (by decide) hP; replace hc := box3 hP; clear hB1 hk1))
        rw [rounds_succ]
        go_wp2
        go_roundw
        case rel => exact ⟨k + 1, by omega, by go_num, by rw [HT.out]; simpa [encV, encT, be8, HM.out] using hB⟩
        case measure => simp [intOf]; omega
    · have e : l.take k = l := List.take_of_length_le (by rw [← HN.out]; omega)
      rw [e] at hB
      go_wp2
      go_ret2
      exact ⟨_, rfl, hB⟩
theorem encode_bad (l : List V3) (s : Value) (w : World) (hl : l.length ≤ 1000) (hv : allV l = false) (hs : Vs w s l) :
    Calls Tryd.prog 14 #[s] w fun e w' => e = .returned (.tuple #[.slice none 0 0, .int .i64 1]) ∧ Below w.heap.size w w' := by
  have HA := fun W h => all_any l s W (by omega) h
  rw [hv] at HA
  obtain ⟨ad, cap, rfl⟩ := hs.form
  obtain ⟨n, hn⟩ : ∃ n, n = l.length := ⟨_, rfl⟩
  rw [← hn] at hl hs HA ⊢
  have HV := Lib.hid hs
  clear hs hn hv
  go_enter Tryd.func14, Tryd.ntmps14
  go_wp2_with (first | (go_at_call 40; (with_reducible refine (HA _ HV.out).mono ?_); rintro e w1 ⟨rfl, hL⟩))
  go_ret2
  exact ⟨rfl, (by have hB := bstep (w := w) (by go_grown) hL; have hs := hB.size; go_grown)⟩
end Go.Proofs.YtgfppajbegcaeaaDoor.Va
