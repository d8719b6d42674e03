/-
  The walks of the reference's Encode (layer 33).
-/
import Derived.Test.YtgfppajbegcaeaaDoorVaG
set_option linter.unusedSimpArgs false
set_option linter.unusedVariables false
namespace Go.Proofs.YtgfppajbegcaeaaDoor.Va
open Go.RowKit Go.ChangeShapes Go.WideShapes Go.Proofs.YtgfppajbegcaeaaDoor.Sl

theorem take_byte (t : ByteArray) (j : Nat) (h : j < t.size) : t.data.toList.take (j + 1) = t.data.toList.take j ++ [t[j]'h] := by
  rw [List.take_succ_eq_append_getElem (by rw [Array.length_toList]; exact h)]; rfl
set_option maxRecDepth 20000 in
set_option maxHeartbeats 4000000 in
theorem rencode_any (l : List V3) (s : Value) (w : World) (hl : l.length ≤ 1000) (hf : ∀ v ∈ l, FitV v) (hv : allV l = true) (hs : Vs w s l) :
    Calls Tryd.prog 17 #[s] w fun e w' => ∃ v, e = .returned v ∧ Bf w w' v (encL l) := by
  obtain ⟨ad, cap, rfl⟩ := hs.form
  obtain ⟨n, hn⟩ : ∃ n, n = l.length := ⟨_, rfl⟩
  have HN := Lib.hid hn
  have HL := Lib.hid (encL_take_len l · hv hl)
  rw [← hn] at hl hs ⊢
  have HV := Lib.hid hs
  have HF := Lib.hid hf
  have HVL := Lib.hid hv
  clear hs hf hn hv
  go_enter Tryd.func17, Tryd.ntmps17
  go_wp2
  go_loopw [3, 4] (fun v i wr => ∃ k : Nat, k ≤ n ∧ i = .int .i64 k ∧ Bf w wr v (encL (l.take k))) (fun _ i _ => n - (intOf i).toNat)
  case atStart => exact ⟨0, Nat.zero_le _, rfl, World.ownsRow_nil _ _ _ _, Below.refl _ _⟩
  case round =>
    obtain ⟨k, hk, rfl, hB⟩ := hrel
    by_cases hlt : k < n
    · obtain ⟨⟨kd, nm, t⟩, ht⟩ : ∃ t, l[k]? = some t := ⟨_, List.getElem?_eq_getElem (by rw [← HN.out]; exact hlt)⟩
      have h10 : ¬ l.length = 0 := by rw [← HN.out]; omega
      obtain ⟨g, off, cap, hsl, hc⟩ := HV.out.open h10
      simp only [Value.slice.injEq] at hsl
      obtain ⟨rfl, hx, rfl⟩ := hsl
      clear hx
      obtain ⟨c0, c1, c2⟩ := vs_get hc ht
      have d0 := cell_kept c0 hB.2
      have d1 := cell_kept c1 hB.2
      have d2 := cell_kept c2 hB.2
      have hlen := HL.out k
      have hval : validV (kd, nm, t) = true := List.all_eq_true.1 HVL.out _ (List.mem_of_getElem? ht)
      have HT := Lib.hid (encL_take l k _ ht)
      have hfit := HF.out _ (List.mem_of_getElem? ht)
      have hP := box_new wr #[.int .i64 kd, .int .i64 nm, .string t] 32
      replace hB := hB.alloc (.cells #[.int .i64 kd, .int .i64 nm, .string t] 32)
      have k0 : (0 : Int) ≤ (k : Int) := by omega
      have k1 : (k : Int) < (n : Int) := by omega
      have hkd := valid_kind _ hval
      clear ht hc c0 c1 c2
      rcases hkd with rfl | rfl | rfl | rfl
      · have hx1 : IntKind.u64.wrap nm = (uns nm : Int) := by rw [IntKind.wrap_u64]; unfold uns; omega
        have hx2 : IntKind.u64.wrap ((uns nm : Int) + 9223372036854775808) = (off63 nm : Int) := by
          have h1 := hfit.1
          have h2 := hfit.2
          rw [IntKind.wrap_u64]; unfold uns off63; simp at h1 h2; omega
        have hb8 := off63_lt nm hfit.1 hfit.2
        go_wp2_with (first | (at_builtin; refine wp_byte hB rfl (.tmp 19) (.tmp 23) rfl rfl 5 rfl (by simp) 1 1 (by rfl) (by (try simp only [List.length_append, List.length_cons, List.length_nil, Array.length_toList]); omega) ?_; intro v1 w1 hB1 hk1; replace hB := hB1; replace hP := hk1.2 _ _ _ (by decide) hP; replace hc := box3 hP; clear hB1 hk1))
        generalize hm : off63 nm = m at *
        have HM := Lib.hid hm
        clear hx1 hx2 hm
        refine wp_loop_rounds 9 ?_
        rw [rounds_succ]
        go_wp2_with (first | (at_builtin; refine wp_byte hB rfl (.tmp 35) (.tmp 42) rfl rfl 5 rfl (by simp) _ (byteAt m 7) (by unfold byteAt; rw [UInt8.toNat_ofNat']; omega) (by (try simp only [List.length_append, List.length_cons, List.length_nil, Array.length_toList]); omega) ?_; intro v1 w1 hB1 hk1; replace hB := hB1; replace hP := hk1.2 _ _ _ (by decide) hP; replace hc := box3 hP; clear hB1 hk1))
        rw [rounds_succ]
        go_wp2_with (first | (at_builtin; refine wp_byte hB rfl (.tmp 35) (.tmp 42) rfl rfl 5 rfl (by simp) _ (byteAt m 6) (by unfold byteAt; rw [UInt8.toNat_ofNat']; omega) (by (try simp only [List.length_append, List.length_cons, List.length_nil, Array.length_toList]); omega) ?_; intro v1 w1 hB1 hk1; replace hB := hB1; replace hP := hk1.2 _ _ _ (by decide) hP; replace hc := box3 hP; clear hB1 hk1))
        rw [rounds_succ]
        go_wp2_with (first | (at_builtin; refine wp_byte hB rfl (.tmp 35) (.tmp 42) rfl rfl 5 rfl (by simp) _ (byteAt m 5) (by unfold byteAt; rw [UInt8.toNat_ofNat']; omega) (by (try simp only [List.length_append, List.length_cons, List.length_nil, Array.length_toList]); omega) ?_; intro v1 w1 hB1 hk1; replace hB := hB1; replace hP := hk1.2 _ _ _ (by decide) hP; replace hc := box3 hP; clear hB1 hk1))
        rw [rounds_succ]
        go_wp2_with (first | (at_builtin; refine wp_byte hB rfl (.tmp 35) (.tmp 42) rfl rfl 5 rfl (by simp) _ (byteAt m 4) (by unfold byteAt; rw [UInt8.toNat_ofNat']; omega) (by (try simp only [List.length_append, List.length_cons, List.length_nil, Array.length_toList]); omega) ?_; intro v1 w1 hB1 hk1; replace hB := hB1; replace hP := hk1.2 _ _ _ (by decide) hP; replace hc := box3 hP; clear hB1 hk1))
        rw [rounds_succ]
        go_wp2_with (first | (at_builtin; refine wp_byte hB rfl (.tmp 35) (.tmp 42) rfl rfl 5 rfl (by simp) _ (byteAt m 3) (by unfold byteAt; rw [UInt8.toNat_ofNat']; omega) (by (try simp only [List.length_append, List.length_cons, List.length_nil, Array.length_toList]); omega) ?_; intro v1 w1 hB1 hk1; replace hB := hB1; replace hP := hk1.2 _ _ _ (by decide) hP; replace hc := box3 hP; clear hB1 hk1))
        rw [rounds_succ]
        go_wp2_with (first | (at_builtin; refine wp_byte hB rfl (.tmp 35) (.tmp 42) rfl rfl 5 rfl (by simp) _ (byteAt m 2) (by unfold byteAt; rw [UInt8.toNat_ofNat']; omega) (by (try simp only [List.length_append, List.length_cons, List.length_nil, Array.length_toList]); omega) ?_; intro v1 w1 hB1 hk1; replace hB := hB1; replace hP := hk1.2 _ _ _ (by decide) hP; replace hc := box3 hP; clear hB1 hk1))
        rw [rounds_succ]
        go_wp2_with (first | (at_builtin; refine wp_byte hB rfl (.tmp 35) (.tmp 42) rfl rfl 5 rfl (by simp) _ (byteAt m 1) (by unfold byteAt; rw [UInt8.toNat_ofNat']; omega) (by (try simp only [List.length_append, List.length_cons, List.length_nil, Array.length_toList]); omega) ?_; intro v1 w1 hB1 hk1; replace hB := hB1; replace hP := hk1.2 _ _ _ (by decide) hP; replace hc := box3 hP; clear hB1 hk1))
        rw [rounds_succ]
        go_wp2_with (first | (at_builtin; refine wp_byte hB rfl (.tmp 35) (.tmp 42) rfl rfl 5 rfl (by simp) _ (byteAt m 0) (by unfold byteAt; rw [UInt8.toNat_ofNat']; omega) (by (try simp only [List.length_append, List.length_cons, List.length_nil, Array.length_toList]); omega) ?_; intro v1 w1 hB1 hk1; replace hB := hB1; replace hP := hk1.2 _ _ _ (by decide) hP; replace hc := box3 hP; clear hB1 hk1))
        rw [rounds_succ]
        go_wp2
        go_roundw
        case rel => exact ⟨k + 1, by omega, by go_num, by rw [HT.out]; simpa [encV, encT, be8, HM.out] using hB⟩
        case measure => simp [intOf]; omega
      · have hts : t.size ≤ 30 := by
          simp [validV] at hval; exact hval.1.2
        have hts2 : t.data.size ≤ 30 := hts
        go_wp2_with (first | (at_builtin; refine wp_byte hB rfl (.tmp 19) (.tmp 23) rfl rfl 5 rfl (by simp) 2 2 (by rfl) (by (try simp only [List.length_append, List.length_cons, List.length_nil, Array.length_toList]); omega) ?_; intro v1 w1 hB1 hk1; replace hB := hB1; replace hP := hk1.2 _ _ _ (by decide) hP; replace hc := box3 hP; clear hB1 hk1))
        go_loopw [3, 6] (fun v i wq => ∃ j : Nat, j ≤ t.size ∧ i = .int .i64 j ∧ Bf w wq v (encL (l.take k) ++ [2] ++ t.data.toList.take j) ∧ wq.heap[wr.heap.size]? = some (Obj.cells #[Value.int IntKind.i64 2, Value.int IntKind.i64 nm, Value.string t] 32 (0, 0))) (fun _ i _ => t.size - (intOf i).toNat)
        case atStart => exact ⟨0, Nat.zero_le _, rfl, by simpa using hB, hP⟩
        case round =>
          obtain ⟨j, hj, rfl, hB, hP⟩ := hrel
          replace hc := box3 hP
          by_cases hjt : j < t.size
          · have HTB := Lib.hid (take_byte t j hjt)
            have htl : (t.data.toList.take j).length ≤ 30 := by rw [List.length_take, Array.length_toList]; omega
            have j0 : (0 : Int) ≤ (j : Int) := by omega
            have j1 : (j : Int) < (t.size : Int) := by omega
            go_wp2_with (first | (at_builtin; refine wp_byte hB rfl (.tmp 53) (.tmp 58) rfl rfl 5 rfl (by simp) _ (t[j]) (by rfl) (by (try simp only [List.length_append, List.length_cons, List.length_nil, Array.length_toList]); omega) ?_; intro v1 w1 hB1 hk1; replace hB := hB1; replace hP := hk1.2 _ _ _ (by decide) hP; replace hc := box3 hP; clear hB1 hk1))
            go_roundw
            case rel => exact ⟨j + 1, by omega, by go_num, by rw [HTB.out, ← List.append_assoc]; exact hB, hP⟩
            case measure => simp [intOf]; omega
          · have htl : t.data.toList.take j = t.data.toList := List.take_of_length_le (by rw [Array.length_toList]; show t.size ≤ j; omega)
            rw [htl] at hB
            clear htl
            go_wp2_with (first | (at_builtin; refine wp_byte hB rfl (.tmp 60) (.tmp 61) rfl rfl 5 rfl (by simp) 0 0 (by rfl) (by (try simp only [List.length_append, List.length_cons, List.length_nil, Array.length_toList]); omega) ?_; intro v1 w1 hB1 hk1; replace hB := hB1; replace hP := hk1.2 _ _ _ (by decide) hP; replace hc := box3 hP; clear hB1 hk1))
            go_roundw
            case rel => exact ⟨k + 1, by omega, by go_num, by rw [HT.out]; simpa [encV, encT] using hB⟩
            case measure => simp [intOf]; omega
      · have h01 : nm = 0 ∨ nm = 1 := by simp [validV] at hval; exact hval.2
        rcases h01 with rfl | rfl
        · go_wp2_with (first | (at_builtin; refine wp_byte hB rfl (.tmp 19) (.tmp 23) rfl rfl 5 rfl (by simp) 3 3 (by rfl) (by (try simp only [List.length_append, List.length_cons, List.length_nil, Array.length_toList]); omega) ?_; intro v1 w1 hB1 hk1; replace hB := hB1; replace hP := hk1.2 _ _ _ (by decide) hP; replace hc := box3 hP; clear hB1 hk1) | (at_builtin; refine wp_byte hB rfl (.tmp 65) (.tmp 69) rfl rfl 5 rfl (by simp) 0 0 (by rfl) (by (try simp only [List.length_append, List.length_cons, List.length_nil, Array.length_toList]); omega) ?_; intro v1 w1 hB1 hk1; replace hB := hB1; replace hP := hk1.2 _ _ _ (by decide) hP; replace hc := box3 hP; clear hB1 hk1))
          go_roundw
          case rel => exact ⟨k + 1, by omega, by go_num, by rw [HT.out]; simpa [encV, encT] using hB⟩
          case measure => simp [intOf]; omega
        · go_wp2_with (first | (at_builtin; refine wp_byte hB rfl (.tmp 19) (.tmp 23) rfl rfl 5 rfl (by simp) 3 3 (by rfl) (by (try simp only [List.length_append, List.length_cons, List.length_nil, Array.length_toList]); omega) ?_; intro v1 w1 hB1 hk1; replace hB := hB1; replace hP := hk1.2 _ _ _ (by decide) hP; replace hc := box3 hP; clear hB1 hk1) | (at_builtin; refine wp_byte hB rfl (.tmp 65) (.tmp 69) rfl rfl 5 rfl (by simp) 1 1 (by rfl) (by (try simp only [List.length_append, List.length_cons, List.length_nil, Array.length_toList]); omega) ?_; intro v1 w1 hB1 hk1; replace hB := hB1; replace hP := hk1.2 _ _ _ (by decide) hP; replace hc := box3 hP; clear hB1 hk1))
          go_roundw
          case rel => exact ⟨k + 1, by omega, by go_num, by rw [HT.out]; simpa [encV, encT] using hB⟩
          case measure => simp [intOf]; omega
      · have hx1 : IntKind.u64.wrap nm = (uns nm : Int) := by rw [IntKind.wrap_u64]; unfold uns; omega
        have hx2 : IntKind.u64.wrap ((uns nm : Int) + 9223372036854775808) = (off63 nm : Int) := by
          have h1 := hfit.1
          have h2 := hfit.2
          rw [IntKind.wrap_u64]; unfold uns off63; simp at h1 h2; omega
        have hb8 := off63_lt nm hfit.1 hfit.2
        go_wp2_with (first | (at_builtin; refine wp_byte hB rfl (.tmp 19) (.tmp 23) rfl rfl 5 rfl (by simp) 4 4 (by rfl) (by (try simp only [List.length_append, List.length_cons, List.length_nil, Array.length_toList]); omega) ?_; intro v1 w1 hB1 hk1; replace hB := hB1; replace hP := hk1.2 _ _ _ (by decide) hP; replace hc := box3 hP; clear hB1 hk1))
        generalize hm : off63 nm = m at *
        have HM := Lib.hid hm
        clear hx1 hx2 hm
        refine wp_loop_rounds 9 ?_
        rw [rounds_succ]
        go_wp2_with (first | (at_builtin; refine wp_byte hB rfl (.tmp 35) (.tmp 42) rfl rfl 5 rfl (by simp) _ (byteAt m 7) (by unfold byteAt; rw [UInt8.toNat_ofNat']; omega) (by (try simp only [List.length_append, List.length_cons, List.length_nil, Array.length_toList]); omega) ?_; intro v1 w1 hB1 hk1; replace hB := hB1; replace hP := hk1.2 _ _ _ (by decide) hP; replace hc := box3 hP; clear hB1 hk1))
        rw [rounds_succ]
        go_wp2_with (first | (at_builtin; refine wp_byte hB rfl (.tmp 35) (.tmp 42) rfl rfl 5 rfl (by simp) _ (byteAt m 6) (by unfold byteAt; rw [UInt8.toNat_ofNat']; omega) (by (try simp only [List.length_append, List.length_cons, List.length_nil, Array.length_toList]); omega) ?_; intro v1 w1 hB1 hk1; replace hB := hB1; replace hP := hk1.2 _ _ _ (by decide) hP; replace hc := box3 hP; clear hB1 hk1))
        rw [rounds_succ]
        go_wp2_with (first | (at_builtin; refine wp_byte hB rfl (.tmp 35) (.tmp 42) rfl rfl 5 rfl (by simp) _ (byteAt m 5) (by unfold byteAt; rw [UInt8.toNat_ofNat']; omega) (by (try simp only [List.length_append, List.length_cons, List.length_nil, Array.length_toList]); omega) ?_; intro v1 w1 hB1 hk1; replace hB := hB1; replace hP := hk1.2 _ _ _ (by decide) hP; replace hc := box3 hP; clear hB1 hk1))
        rw [rounds_succ]
        go_wp2_with (first | (at_builtin; refine wp_byte hB rfl (.tmp 35) (.tmp 42) rfl rfl 5 rfl (by simp) _ (byteAt m 4) (by unfold byteAt; rw [UInt8.toNat_ofNat']; omega) (by (try simp only [List.length_append, List.length_cons, List.length_nil, Array.length_toList]); omega) ?_; intro v1 w1 hB1 hk1; replace hB := hB1; replace hP := hk1.2 _ _ _ (by decide) hP; replace hc := box3 hP; clear hB1 hk1))
        rw [rounds_succ]
        go_wp2_with (first | (at_builtin; refine wp_byte hB rfl (.tmp 35) (.tmp 42) rfl rfl 5 rfl (by simp) _ (byteAt m 3) (by unfold byteAt; rw [UInt8.toNat_ofNat']; omega) (by (try simp only [List.length_append, List.length_cons, List.length_nil, Array.length_toList]); omega) ?_; intro v1 w1 hB1 hk1; replace hB := hB1; replace hP := hk1.2 _ _ _ (by decide) hP; replace hc := box3 hP; clear hB1 hk1))
        rw [rounds_succ]
        go_wp2_with (first | (at_builtin; refine wp_byte hB rfl (.tmp 35) (.tmp 42) rfl rfl 5 rfl (by simp) _ (byteAt m 2) (by unfold byteAt; rw [UInt8.toNat_ofNat']; omega) (by (try simp only [List.length_append, List.length_cons, List.length_nil, Array.length_toList]); omega) ?_; intro v1 w1 hB1 hk1; replace hB := hB1; replace hP := hk1.2 _ _ _ (by decide) hP; replace hc := box3 hP; clear hB1 hk1))
        rw [rounds_succ]
        go_wp2_with (first | (at_builtin; refine wp_byte hB rfl (.tmp 35) (.tmp 42) rfl rfl 5 rfl (by simp) _ (byteAt m 1) (by unfold byteAt; rw [UInt8.toNat_ofNat']; omega) (by (try simp only [List.length_append, List.length_cons, List.length_nil, Array.length_toList]); omega) ?_; intro v1 w1 hB1 hk1; replace hB := hB1; replace hP := hk1.2 _ _ _ (by decide) hP; replace hc := box3 hP; clear hB1 hk1))
        rw [rounds_succ]
        go_wp2_with (first | (at_builtin; refine wp_byte hB rfl (.tmp 35) (.tmp 42) rfl rfl 5 rfl (by simp) _ (byteAt m 0) (by unfold byteAt; rw [UInt8.toNat_ofNat']; omega) (by (try simp only [List.length_append, List.length_cons, List.length_nil, Array.length_toList]); omega) ?_; intro v1 w1 hB1 hk1; replace hB := hB1; replace hP := hk1.2 _ _ _ (by decide) hP; replace hc := box3 hP; clear hB1 hk1))
        rw [rounds_succ]
        go_wp2
        go_roundw
        case rel => exact ⟨k + 1, by omega, by go_num, by rw [HT.out]; simpa [encV, encT, be8, HM.out] using hB⟩
        case measure => simp [intOf]; omega
    · have e : l.take k = l := List.take_of_length_le (by rw [← HN.out]; omega)
      rw [e] at hB
      go_wp2
      go_ret
      exact ⟨_, rfl, hB⟩
end Go.Proofs.YtgfppajbegcaeaaDoor.Va
