/-
  The walk of the law LexPlaces.
-/
import Derived.Test.YtcpfbemmlmdcaaaDoorLxPp
import Derived.Test.YtcpfbemmlmdcaaaDoorLxSm
import Derived.Deep.RegionHeld3
import Derived.Test.YtcpfbemmlmdcaaaDoorLxT
set_option linter.unusedSimpArgs false
set_option linter.unusedVariables false
namespace Go.Proofs.YtcpfbemmlmdcaaaDoor.Lx
open Go.RowKit Go.ChangeShapes Go.WideShapes Go.Proofs.YtcpfbemmlmdcaaaDoor.Sl

set_option maxRecDepth 100000 in
theorem places_err (s : ByteArray) (p q n : Nat) (m : Int) (w : World) (hm : w.cell? ⟨0, 0, none⟩ = some (.int .i64 m)) (hl : s.size ≤ 4000) (hz : linesR s = ([], (p, q), n)) (hn : n ≠ 0) :
    Calls Tryd.prog 10 #[.string s] w fun e w' => e = .returned (.bool true) ∧ Below w.heap.size w w' := by
  have HZ := Lib.hid hz
  have nb : ((n : Int) != 0) = true := by simp; omega
  clear hz
  go_enter Tryd.func10, Tryd.ntmps10
  go_upto_region 6 with (first | (go_at_call 11; ((with_reducible refine (awake_any m _ hm).mono ?_); rintro e w1 ⟨rfl, hb⟩; (first | (replace hL := bstep hL hb) | (have hL := hb)); clear hb; replace hc := bcell hL)) | (go_at_call 20; with_reducible refine (lines_is s [] p q n m _ (cell_kept hm (by go_grown)) HZ.out).mono ?_; rintro e w1 ⟨v1, rfl, hv1, hb⟩; replace hL := bstep hL hb; clear hb))
  obtain ⟨hs1, sa, _⟩ := hv1
  obtain ⟨ad, cap, hv2⟩ := sa.form
  have hv3 : v1 = .slice ad 0 cap := hv2
  clear hv2
  subst hv3
  clear sa
  go_wp2
  go_ret
  exact ⟨rfl, hL.alloc hL.size _⟩

theorem any_is (x : ByteArray) (w : World) (hx : x.size < 4294967281) (h5 : ∀ b ∈ x.data.toList, b.toNat < 128 ∧ b ≠ 32 ∧ b ≠ 9 ∧ b ≠ 35) :
    Calls Tryd.prog 42 #[.string x, .string ⟨#[32, 9, 35]⟩] w fun e w' => e = .returned (.bool false) ∧ Below w.heap.size w w' := by
  refine (Tryd.strings_ContainsAny_laid x ⟨#[32, 9, 35]⟩ w hx (by decide) (fun j b hb => (h5 b (List.mem_of_getElem? hb)).1) (fun j b hb => ?_)).mono ?_
  · have hm : b ∈ [(32 : UInt8), 9, 35] := List.mem_of_getElem? hb
    simp at hm
    rcases hm with rfl | rfl | rfl <;> decide
  · rintro e w' ⟨rfl, hb⟩
    refine ⟨?_, hb⟩
    rw [show (ByteArray.mk #[32, 9, 35]).data.toList = [32, 9, 35] from rfl, any_none _ (fun b hb => (h5 b hb).2)]
theorem has_is (y : ByteArray) (w : World) (h : Lib.indexByte y.data.toList 35 = -1) :
    Calls Tryd.prog 43 #[.string y, .string ⟨#[35]⟩] w fun e w' => e = .returned (.bool false) ∧ Below w.heap.size w w' := by
  refine (Tryd.strings_Contains_one y 35 w).mono ?_
  rintro e w' ⟨rfl, rfl⟩
  rw [h]
  exact ⟨rfl, Below.refl _ _⟩
theorem kp_below {w wa : World} {cs : List (Nat × Nat × Value)} (h : Kp w cs wa) : Below w.heap.size w wa := h.1

set_option maxRecDepth 100000 in
set_option maxHeartbeats 4000000 in
theorem places_ok (s : ByteArray) (L : List (List Tok)) (p q : Nat) (m : Int) (w : World) (hm : w.cell? ⟨0, 0, none⟩ = some (.int .i64 m)) (hl : s.size ≤ 4000) (hz : linesR s = (L, (p, q), 0)) :
    Calls Tryd.prog 10 #[.string s] w fun e w' => e = .returned (.bool true) ∧ Below w.heap.size w w' := by
  have hs2 : s.size < 4294967281 := by omega
  have HZ := Lib.hid hz
  have HSH := Lib.hid (show Short L by have := linesR_short s; rw [hz] at this; exact this)
  obtain ⟨idx, hidx⟩ := linesR_places s L (p, q) hz
  have HI := Lib.hid hidx
  clear hz hidx
  go_enter Tryd.func10, Tryd.ntmps10
  go_upto_region 9 with (first | (go_at_call 11; ((with_reducible refine (awake_any m _ hm).mono ?_); rintro e w1 ⟨rfl, hb⟩; (first | (replace hL := bstep hL hb) | (have hL := hb)); clear hb; replace hc := bcell hL)) | (go_at_call 20; with_reducible refine (lines_is s L p q 0 m _ (cell_kept hm (by go_grown)) HZ.out).mono ?_; rintro e w1 ⟨v1, rfl, hv1, hb⟩; replace hL := bstep hL hb; clear hb) | (go_at_call 41; ((with_reducible refine (split_any _ _ m _ hs2 (cell_kept hm (by have := hL.size; go_grown))).mono ?_); rintro e w2 ⟨PB, hPB, hlen, rfl, hw⟩)))
  obtain ⟨w3, hw3⟩ : ∃ w3, w3 = (w1.alloc (.cells #[.int .i64 p, .int .i64 q] 38)).alloc (.cells (PB.map Value.string).toArray 9) := ⟨_, rfl⟩
  have hL3 : Below w.heap.size w w3 := by rw [hw3]; exact (hL.alloc hL.size _).alloc (by have := hL.size; simp; omega) _
  have hv3 : Ls w3 v1 L := by rw [hw3]; exact (hv1.below ((Below.refl _ _).alloc (Nat.le_refl _) _)).below ((Below.refl _ _).alloc (Nat.le_refl _) _)
  have hcell : ∀ j x, PB[j]? = some x → w3.cell? ⟨w1.heap.size + 1, j, none⟩ = some (.string x) := by
    intro j x hx
    rw [hw3]
    have := cells_str (w1.alloc (.cells #[.int .i64 p, .int .i64 q] 38)) PB 9 j x hx
    simpa using this
  have hb3 : w1.heap.size + 1 < w3.heap.size := by rw [hw3]; simp
  rw [← hw3]
  clear hw3 hv1 hL
  have HP := Lib.hid hPB
  have HCE := Lib.hid hcell
  have hPL : PB.length = (splitL 10 s.data.toList).length := by rw [← hPB, List.length_map]
  have HPL := Lib.hid hPL
  clear hPB hcell hPL
  obtain ⟨hs0, sa, ea⟩ := hv3
  by_cases h0 : L.length = 0
  · obtain ⟨ad, cap, hv⟩ := sa.form
    have hv' : v1 = .slice ad 0 cap := by rw [hv, h0]
    clear hv
    subst hv'
    clear sa ea
    go_wp2
    refine wp_loop_rounds 1 ?_
    rw [rounds_succ]
    go_wp2
    go_ret
    exact ⟨rfl, hL3⟩
  · have hla : hs0.length = L.length := by have := sa.1; omega
    obtain ⟨g, off, cap, hv, hc⟩ := sa.open h0
    subst hv
    obtain ⟨N, hn⟩ : ∃ N, N = L.length := ⟨_, rfl⟩
    have HN := Lib.hid hn
    have hNl : N ≤ 70000 := by rw [hn]; exact HSH.out.1
    rw [← hn] at h0 ⊢
    have HC := Lib.hid hc
    have EA := Lib.hid ea
    have HLA := Lib.hid hla
    clear hc sa ea hn hla
    go_wp2
    go_loopw [35, 7] (fun i l wr => ∃ j lst : Nat, j ≤ N ∧ i = .int .i64 j ∧ l = .int .i64 lst ∧ (j = 0 → lst = 0) ∧ (∀ a, 0 < j → idx[j - 1]? = some a → lst = a + 1) ∧ Below w3.heap.size w3 wr) (fun i _ _ => N - (intOf i).toNat)
    case atStart => exact ⟨0, 0, Nat.zero_le _, rfl, rfl, fun _ => rfl, fun a h => absurd h (by omega), Below.refl _ _⟩
    case round =>
      obtain ⟨j, lst, hj, rfl, rfl, hz, hla, hB⟩ := hrel
      by_cases hlt : j < N
      · obtain ⟨ws, hws⟩ : ∃ ws, L[j]? = some ws := ⟨_, List.getElem?_eq_getElem (by rw [← HN.out]; exact hlt)⟩
        obtain ⟨i, hi⟩ : ∃ i, idx[j]? = some i := ⟨_, List.getElem?_eq_getElem (by rw [HI.out.1, ← HN.out]; exact hlt)⟩
        obtain ⟨hne, hik, P, hP, hW⟩ := HI.out.2.1 j i ws hi hws
        obtain ⟨x, hx⟩ : ∃ x, hs0[j]? = some x := ⟨_, List.getElem?_eq_getElem (by rw [HLA.out, ← HN.out]; exact hlt)⟩
        have hlst : lst ≤ i := by
          rcases Nat.eq_zero_or_pos j with h | h
          · rw [hz h]; exact Nat.zero_le _
          · obtain ⟨a, ha⟩ : ∃ a, idx[j - 1]? = some a := ⟨_, List.getElem?_eq_getElem (by rw [HI.out.1, ← HN.out]; omega)⟩
            rw [hla a h ha]
            exact HI.out.2.2 (j - 1) a i ha (by rw [show j - 1 + 1 = j by omega]; exact hi)
        obtain ⟨text, htext⟩ : ∃ text, PB[i]? = some text := ⟨_, List.getElem?_eq_getElem (by rw [HPL.out]; exact hik)⟩
        have htl : text.data.toList = P := by
          have h1 : (PB.map (·.data.toList))[i]? = some text.data.toList := by rw [List.getElem?_map, htext]; rfl
          rw [HP.out, hP] at h1
          exact (Option.some.inj h1).symm
        have hiPB : i < PB.length := by rw [HPL.out]; exact hik
        have hts := piece_le s PB HP.out i text htext
        have a0 := cell_kept (HC.out _ _ hx) hB
        have ct := cell_kept (HCE.out i text htext) hB
        have hsl := (EA.out j x ws hx hws).below hB
        have hwl := HSH.out.2 ws (List.mem_of_getElem? hws)
        have hwn : ws.length ≠ 0 := fun e => hne (List.length_eq_zero_iff.1 e)
        obtain ⟨g2, off2, cap2, rfl, hc2⟩ := hsl.open hwn
        obtain ⟨K, hK⟩ : ∃ K, K = ws.length := ⟨_, rfl⟩
        have HK := Lib.hid hK
        rw [← hK] at hwl hwn
        obtain ⟨t0, ht0⟩ : ∃ t0, ws[0]? = some t0 := ⟨_, List.getElem?_eq_getElem (by rw [← hK]; omega)⟩
        obtain ⟨_, c1, _⟩ := cellsT_get ws 0 t0 ht0
        have hw0 := (hW.1 t0 (List.mem_of_getElem? ht0)).1.1
        have cl : wr.cell? ⟨g2, off2 + 1, none⟩ = some (.int .i64 ((i : Int) + 1)) := by
          have := hc2 _ _ c1
          rw [hw0] at this
          simpa using this
        have hrow := Lib.hid hla
        have hid := Lib.hid hi
        have HWS := Lib.hid hws
        have HW := Lib.hid hW
        have HC2 := Lib.hid hc2
        have HTL := Lib.hid htl
        have q1 : (0 : Int) ≤ (j : Int) := by omega
        have q2 : (j : Int) < (N : Int) := by omega
        have q3 : (i : Int) + 1 - 1 = i := by omega
        have q4 : (0 : Int) ≤ (i : Int) := by omega
        have q5 : (i : Int) < (PB.length : Int) := by omega
        have q6 : ¬ (i : Int) + 1 ≤ (lst : Int) := by omega
        have q7 : ¬ (PB.length : Int) < (i : Int) + 1 := by omega
        have hK0 : (0 : Int) < (K : Int) := by omega
        have kb : ((K : Int) == 0) = false := by simp; omega
        have hBb : g2 < wr.heap.size := block_of_cell cl
        rw [← hK] at a0
        clear hws hi hW hx hP htext hla hz ht0 c1 hw0 hK hc2 htl hne hsl
        go_wp2
        go_loopw [73, 11] (fun iq col wx => ∃ qn C : Nat, qn ≤ K ∧ iq = .int .i64 qn ∧ col = .int .i64 C ∧ (qn = 0 → C = 0) ∧ (∀ u : Tok, 0 < qn → ws[qn - 1]? = some u → C = u.2.2 - 1 + u.1.size) ∧ Below wr.heap.size wr wx) (fun iq _ _ => K - (intOf iq).toNat)
        case atStart => exact ⟨0, 0, Nat.zero_le _, rfl, rfl, fun _ => rfl, fun a h => absurd h (by omega), Below.refl _ _⟩
        case round =>
          obtain ⟨wo, rfl⟩ : ∃ wo : World, wo = wr := ⟨_, rfl⟩
          obtain ⟨qn, C, hqn, rfl, rfl, hz, hla, hBx⟩ := hrel
          by_cases hq : qn < K
          · obtain ⟨t, ht⟩ : ∃ t, ws[qn]? = some t := ⟨_, List.getElem?_eq_getElem (by rw [← HK.out]; exact hq)⟩
            obtain ⟨⟨h1, h2, h3, h4, h5, h6⟩, h7⟩ := HW.out.1 t (List.mem_of_getElem? ht)
            have hC : C ≤ t.2.2 - 1 := by
              rcases Nat.eq_zero_or_pos qn with h | h
              · rw [hz h]; exact Nat.zero_le _
              · obtain ⟨u, hu⟩ : ∃ u, ws[qn - 1]? = some u := ⟨_, List.getElem?_eq_getElem (by rw [← HK.out]; omega)⟩
                rw [hla u h hu]
                exact HW.out.2 (qn - 1) u t hu (by rw [show qn - 1 + 1 = qn by omega]; exact ht)
            obtain ⟨e0, e1, e2⟩ := cellsT_get ws qn t ht
            have b0 := cell_kept (HC2.out _ _ e0) hBx
            have b1 := cell_kept (HC2.out _ _ e1) hBx
            have b2 := cell_kept (HC2.out _ _ e2) hBx
            obtain ⟨x, la, cb⟩ := t
            simp only at h1 h2 h3 h4 h5 h6 h7 hC b0 b1 b2
            subst h1
            obtain ⟨kk, rfl⟩ : ∃ kk, cb = kk + 1 := ⟨cb - 1, by omega⟩
            rw [show kk + 1 - 1 = kk by omega] at h4 h6 h7 hC
            rw [← Nat.add_assoc, show (((i + 1 : Nat)) : Int) = (i : Int) + 1 by omega] at b1
            rw [← Nat.add_assoc, show (((kk + 1 : Nat)) : Int) = (kk : Int) + 1 by omega] at b2
            have hlen : text.size ≤ 4000 := by omega
            have hPt : P.length = text.size := by rw [← HTL.out, len_is]
            rw [hPt] at h7
            rw [← HTL.out] at h4 h6
            have hE : text.extract kk (kk + x.size) = x := by
              rw [bytes_of (text.extract kk (kk + x.size)) x.data.toList (by rw [ext_data, List.drop_take, show kk + x.size - kk = x.size by omega]; exact h4)]
            obtain ⟨y, hy⟩ : ∃ y, text.extract 0 kk = y := ⟨_, rfl⟩
            have hy35 : Lib.indexByte y.data.toList 35 = -1 := index_none _ _ (by rw [← hy, ext_head]; exact h6)
            have hany : Lib.containsAny x.data.toList [32, 9, 35] = false := any_none _ (fun b hb => (h5 b hb).2)
            have HANY := Lib.hid hany
            have H35 := Lib.hid hy35
            have HASC := Lib.hid h5
            have hxs : x.size < 4294967281 := by omega
            have hxe := not_nil x h3
            have HT := Lib.hid ht
            have r1 : (0 : Int) ≤ (qn : Int) := by omega
            have r2 : (qn : Int) < (K : Int) := by omega
            have r3 : IntKind.i64.wrap ((kk : Int) + (x.size : Int)) = (kk : Int) + (x.size : Int) := by rw [IntKind.wrap_i64]; omega
            have r4 : 0 ≤ (kk : Int) + (x.size : Int) ∧ (kk : Int) + (x.size : Int) ≤ (text.size : Int) := by omega
            have r5 : (kk : Int) ≤ (kk : Int) + (x.size : Int) := by omega
            have r6 : 0 ≤ (kk : Int) ∧ (kk : Int) ≤ (text.size : Int) := by omega
            have r7 : ((kk : Int) + (x.size : Int)).toNat = kk + x.size := by omega
            have r8 : ¬ (kk : Int) < (C : Int) := by omega
            have r9 : ¬ (text.size : Int) < (kk : Int) + (x.size : Int) := by omega
            clear ht h4 h5 h6 hla hz e0 e1 e2 hy35 hany hPt
            go_upto_region 22 with fail
            have hK : Kp wo [(wo.heap.size, 0, .string x), (wo.heap.size, 1, .int .i64 ((i : Int) + 1))] (wo.alloc (Obj.cells #[.string x, .int .i64 ((i : Int) + 1), .int .i64 ((kk : Int) + 1)] 61)).drew :=
              (((Kp.start (by go_grown)).add _ _ _ (by simp)).add _ _ _ (by simp)).drew
            have k0 : ∀ w', Kp wo [(wo.heap.size, 0, .string x), (wo.heap.size, 1, .int .i64 ((i : Int) + 1))] w' → w'.cell? ⟨wo.heap.size, 0, none⟩ = some (.string x) := fun w' h => h.at0
            have k1 : ∀ w', Kp wo [(wo.heap.size, 0, .string x), (wo.heap.size, 1, .int .i64 ((i : Int) + 1))] w' → w'.cell? ⟨wo.heap.size, 1, none⟩ = some (.int .i64 ((i : Int) + 1)) := fun w' h => h.tl.at0
            go_region_held3 (fun w' => Kp wo [(wo.heap.size, 0, .string x), (wo.heap.size, 1, .int .i64 ((i : Int) + 1))] w') (first | (with_reducible exact hK) | (with_reducible exact Kp.step (by assumption) hb) | (with_reducible exact Kp.alloc (by assumption) _)) (first | (go_at_call 42; (with_reducible refine (any_is x _ hxs HASC.out).mono ?_); rintro e w1 ⟨rfl, hb⟩) | (go_at_call 43; (with_reducible refine (has_is y _ H35.out).mono ?_); rintro e w1 ⟨rfl, hb⟩))
            clear hK
            have hf := k0 _ (by assumption)
            have hBf := kp_below (show Kp wo [(wo.heap.size, 0, .string x), (wo.heap.size, 1, .int .i64 ((i : Int) + 1))] _ by assumption)
            go_wp2
            go_roundw
            case rel =>
              refine ⟨qn + 1, kk + x.size, by omega, by go_num, by go_num, fun h => absurd h (by omega), fun u _ hu => ?_, bstep hBx hBf⟩
              rw [show qn + 1 - 1 = qn by omega, HT.out] at hu
              cases hu
              show kk + x.size = kk + 1 - 1 + x.size
              omega
            case measure => simp [intOf]; omega
          · have hqK : qn = K := by omega
            go_wp2
            go_roundw
            case rel =>
              refine ⟨j + 1, i + 1, by omega, by go_num, by go_num, fun h => absurd h (by omega), fun a _ ha => ?_, bstep hB hBx⟩
              rw [show j + 1 - 1 = j by omega, hid.out] at ha
              cases ha; rfl
            case measure => simp [intOf]; omega
      · go_wp2
        go_ret
        exact ⟨rfl, hL3.trans (hB.mono hL3.size)⟩

set_option maxRecDepth 20000 in
theorem lexPlaces_walk (s : ByteArray) (m : Int) (w : World) (hm : w.cell? ⟨0, 0, none⟩ = some (.int .i64 m)) :
    Calls Tryd.prog 10 #[.string s] w fun e w' => e = .returned (.bool true) ∧ Below w.heap.size w w' := by
  by_cases hl : 4000 < s.size
  · go_enter Tryd.func10, Tryd.ntmps10
    go_wp2_with (go_at_call 11; ((with_reducible refine (awake_any m _ hm).mono ?_); rintro e w1 ⟨rfl, hb⟩; (first | (replace hL := bstep hL hb) | (have hL := hb)); clear hb; replace hc := bcell hL))
    go_ret
    exact ⟨rfl, (by have hB := bstep (w := w) (by go_grown) hL; have hs := hB.size; go_grown)⟩
  · obtain ⟨L, p, q, n, hz⟩ : ∃ L p q n, linesR s = (L, (p, q), n) := ⟨_, _, _, _, rfl⟩
    by_cases hn : n = 0
    · subst hn
      exact places_ok s L p q m w hm (by omega) hz
    · have hL := linesR_err s L (p, q) n hz hn
      subst hL
      exact places_err s p q n m w hm (by omega) hz hn
end Go.Proofs.YtcpfbemmlmdcaaaDoor.Lx
