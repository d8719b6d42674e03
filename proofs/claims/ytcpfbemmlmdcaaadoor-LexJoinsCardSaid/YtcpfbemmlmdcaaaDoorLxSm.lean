/-
  The walks of slices.Equal and slices.EqualFunc at lists of words, and of the law's same (layer 18).
-/
import Derived.Test.YtcpfbemmlmdcaaaDoorLxLr
import Derived.Test.YtcpfbemmlmdcaaaDoorLxW
set_option linter.unusedSimpArgs false
set_option linter.unusedVariables false
namespace Go.Proofs.YtcpfbemmlmdcaaaDoor.Lx
open Go.RowKit Go.ChangeShapes Go.WideShapes Go.Proofs.YtcpfbemmlmdcaaaDoor.Sl

theorem tok_ne (a : ByteArray) (l c : Int) (w : World) : (binOp .neq 61 (.agg #[.string a, .int .i64 l, .int .i64 c]) (.agg #[.string a, .int .i64 l, .int .i64 c])).run Tryd.prog w = .ok (.bool false) w := by
  simp [go_sem, Tryd.underlying61]
theorem pos_eql (l c : Int) (w : World) : (binOp .eql 38 (.agg #[.int .i64 l, .int .i64 c]) (.agg #[.int .i64 l, .int .i64 c])).run Tryd.prog w = .ok (.bool true) w := by
  simp [go_sem, Tryd.underlying38]

theorem cellsT_get (ls : List Tok) (k : Nat) (t : Tok) (h : ls[k]? = some t) : (cellsT ls)[k * 3]? = some (.string t.1) ∧ (cellsT ls)[k * 3 + 1]? = some (.int .i64 t.2.1) ∧ (cellsT ls)[k * 3 + 2]? = some (.int .i64 t.2.2) := by
  obtain ⟨hk, he⟩ := List.getElem?_eq_some_iff.1 h
  have e : cellsT ls = cellsT (ls.take k) ++ (tokV t ++ cellsT (ls.drop (k + 1))) := by
    conv => lhs; rw [← List.take_append_drop k ls, List.drop_eq_getElem_cons hk, he]
    rw [cellsT_app]
    congr 1
  have hl : (cellsT (ls.take k)).length = k * 3 := by rw [cellsT_len, List.length_take]; congr 1; omega
  rw [e]
  refine ⟨?_, ?_, ?_⟩
  · rw [List.getElem?_append_right (by omega), hl, List.getElem?_append_left (by simp [tokV])]; simp [tokV]
  · rw [List.getElem?_append_right (by omega), hl, List.getElem?_append_left (by simp [tokV])]; simp [tokV]
  · rw [List.getElem?_append_right (by omega), hl, List.getElem?_append_left (by simp [tokV])]; simp [tokV]

set_option maxRecDepth 20000 in
theorem equal_any (ls : List Tok) (a b : Value) (w : World) (hl : ls.length ≤ 70000) (ha : Sl w a ls.length 3 (cellsT ls)) (hb : Sl w b ls.length 3 (cellsT ls)) :
    Calls Tryd.prog 52 #[a, b] w fun e w' => e = .returned (.bool true) ∧ Below w.heap.size w w' := by
  by_cases h0 : ls.length = 0
  · obtain ⟨ad, cap, rfl⟩ := ha.form
    obtain ⟨bd, bcap, rfl⟩ := hb.form
    rw [h0]
    go_enter Tryd.func52, Tryd.ntmps52
    go_wp2
    refine wp_loop_rounds 1 ?_
    rw [rounds_succ]
    go_wp2
    go_ret
    exact ⟨rfl, Below.refl _ _⟩
  · obtain ⟨g, off, cap, rfl, hc⟩ := ha.open h0
    obtain ⟨g2, off2, cap2, rfl, hc2⟩ := hb.open h0
    obtain ⟨n, hn⟩ : ∃ n, n = ls.length := ⟨_, rfl⟩
    have HN := Lib.hid hn
    rw [← hn] at hl h0 ⊢
    have HC := Lib.hid hc
    have HC2 := Lib.hid hc2
    clear hc hc2 ha hb hn
    go_enter Tryd.func52, Tryd.ntmps52
    go_wp2
    go_loopw [13] (fun i wr => ∃ k : Nat, k ≤ n ∧ i = .int .i64 k ∧ Below w.heap.size w wr) (fun i _ => n - (intOf i).toNat)
    case atStart => exact ⟨0, Nat.zero_le _, rfl, Below.refl _ _⟩
    case round =>
      obtain ⟨k, hk, rfl, hL⟩ := hrel
      by_cases hlt : k < n
      · obtain ⟨t, ht⟩ : ∃ t, ls[k]? = some t := ⟨_, List.getElem?_eq_getElem (by rw [← HN.out]; exact hlt)⟩
        obtain ⟨t0, t1, t2⟩ := cellsT_get ls k t ht
        have a0 := cell_kept (HC.out _ _ t0) hL
        have a1 := cell_kept (HC.out _ _ t1) hL
        have a2 := cell_kept (HC.out _ _ t2) hL
        have b0 := cell_kept (HC2.out _ _ t0) hL
        have b1 := cell_kept (HC2.out _ _ t1) hL
        have b2 := cell_kept (HC2.out _ _ t2) hL
        rw [← Nat.add_assoc] at a1 a2 b1 b2
        have hq : ∀ wz : World, (binOp .neq 61 (.agg #[.string t.1, .int .i64 t.2.1, .int .i64 t.2.2]) (.agg #[.string t.1, .int .i64 t.2.1, .int .i64 t.2.2])).run Tryd.prog wz = .ok (.bool false) wz := fun wz => tok_ne _ _ _ wz
        have k0 : (0 : Int) ≤ (k : Int) := by omega
        have k1 : (k : Int) < (n : Int) := by omega
        clear ht t0 t1 t2
        go_wp2
        go_region
        go_wp2
        go_roundw
        case rel => exact ⟨k + 1, by omega, by go_num, by first | exact hL.drew | go_grown⟩
        case measure => simp [intOf]; omega
      · go_wp2
        go_ret
        exact ⟨rfl, hL⟩

theorem clos_any (ls : List Tok) (a b : Value) (w : World) (hl : ls.length ≤ 70000) (ha : Sl w a ls.length 3 (cellsT ls)) (hb : Sl w b ls.length 3 (cellsT ls)) :
    Calls Tryd.prog 51 #[a, b] w fun e w' => e = .returned (.bool true) ∧ Below w.heap.size w w' := by
  go_enter Tryd.func51, Tryd.ntmps51
  go_wp2_with (go_at_call 52; with_reducible refine (equal_any ls _ _ _ hl ha hb).mono ?_; rintro e w1 ⟨rfl, hL⟩)
  go_ret
  exact ⟨rfl, hL⟩

/-- Each line is not too long. -/
def Short (L : List (List Tok)) : Prop := L.length ≤ 70000 ∧ ∀ l ∈ L, l.length ≤ 70000

set_option maxRecDepth 20000 in
theorem eqFunc_any (L : List (List Tok)) (a b : Value) (w : World) (hS : Short L) (ha : Ls w a L) (hb : Ls w b L) :
    Calls Tryd.prog 50 #[a, b, .func (.func 51) #[] #[]] w fun e w' => e = .returned (.bool true) ∧ Below w.heap.size w w' := by
  obtain ⟨hs1, sa, ea⟩ := ha
  obtain ⟨hs2, sb, eb⟩ := hb
  by_cases h0 : L.length = 0
  · obtain ⟨ad, cap, rfl⟩ := sa.form
    obtain ⟨bd, bcap, rfl⟩ := sb.form
    rw [h0]
    go_enter Tryd.func50, Tryd.ntmps50
    go_wp2
    refine wp_loop_rounds 1 ?_
    rw [rounds_succ]
    go_wp2
    go_ret
    exact ⟨rfl, Below.refl _ _⟩
  · have hla : hs1.length = L.length := by have := sa.1; omega
    have hlb : hs2.length = L.length := by have := sb.1; omega
    obtain ⟨g, off, cap, rfl, hc⟩ := sa.open h0
    obtain ⟨g2, off2, cap2, rfl, hc2⟩ := sb.open h0
    obtain ⟨n, hn⟩ : ∃ n, n = L.length := ⟨_, rfl⟩
    have HN := Lib.hid hn
    have hl := hS.1
    have HSS := Lib.hid hS.2
    rw [← hn] at hl h0 ⊢
    have HC := Lib.hid hc
    have HC2 := Lib.hid hc2
    have EA := Lib.hid ea
    have EB := Lib.hid eb
    have HLA := Lib.hid hla
    have HLB := Lib.hid hlb
    clear hc hc2 sa sb ea eb hn hla hlb hS
    go_enter Tryd.func50, Tryd.ntmps50
    go_wp2
    go_loopw [17] (fun i wr => ∃ k : Nat, k ≤ n ∧ i = .int .i64 k ∧ Below w.heap.size w wr) (fun i _ => n - (intOf i).toNat)
    case atStart => exact ⟨0, Nat.zero_le _, rfl, Below.refl _ _⟩
    case round =>
      obtain ⟨k, hk, rfl, hL⟩ := hrel
      by_cases hlt : k < n
      · obtain ⟨t, ht⟩ : ∃ t, L[k]? = some t := ⟨_, List.getElem?_eq_getElem (by rw [← HN.out]; exact hlt)⟩
        obtain ⟨x, hx⟩ : ∃ x, hs1[k]? = some x := ⟨_, List.getElem?_eq_getElem (by rw [HLA.out, ← HN.out]; exact hlt)⟩
        obtain ⟨y, hy⟩ : ∃ y, hs2[k]? = some y := ⟨_, List.getElem?_eq_getElem (by rw [HLB.out, ← HN.out]; exact hlt)⟩
        have a0 := cell_kept (HC.out _ _ hx) hL
        have b0 := cell_kept (HC2.out _ _ hy) hL
        have hlt2 := HSS.out t (List.mem_of_getElem? ht)
        have SA := Lib.hid ((EA.out k x t hx ht).below hL)
        have SB := Lib.hid ((EB.out k y t hy ht).below hL)
        have k0 : (0 : Int) ≤ (k : Int) := by omega
        have k1 : (k : Int) < (n : Int) := by omega
        clear ht hx hy
        go_wp2_with (go_at_call 51; with_reducible refine (clos_any t _ _ _ hlt2 SA.out SB.out).mono ?_; rintro e w1 ⟨rfl, hb⟩; have hL2 := bstep hL hb; clear hb)
        go_roundw
        case rel => exact ⟨k + 1, by omega, by go_num, hL2⟩
        case measure => simp [intOf]; omega
      · go_wp2
        go_ret
        exact ⟨rfl, hL⟩

theorem same_any (L : List (List Tok)) (a b : Value) (w : World) (hS : Short L) (ha : Ls w a L) (hb : Ls w b L) :
    Calls Tryd.prog 22 #[a, b] w fun e w' => e = .returned (.bool true) ∧ Below w.heap.size w w' := by
  go_enter Tryd.func22, Tryd.ntmps22
  go_wp2_with (go_at_call 50; with_reducible refine (eqFunc_any L _ _ _ hS ha hb).mono ?_; rintro e w1 ⟨rfl, hL⟩)
  go_ret
  exact ⟨rfl, hL⟩

theorem lineRun_short : ∀ (l : List UInt8) (k q : Nat) (st : St) (acc out : List (List Tok)) (M : Nat), lineRun l k q st acc = .inr out → (∀ x ∈ acc, x.length ≤ M) → st.words.length + l.length ≤ M → out.length ≤ acc.length + l.length + 1 ∧ ∀ x ∈ out, x.length ≤ M
  | [], k, q, st, acc, out, M, h, hM, hw => by
    unfold lineRun at h
    cases h
    unfold addLine
    split
    · exact ⟨by omega, hM⟩
    · refine ⟨by simp, fun x hx => ?_⟩
      rcases List.mem_append.1 hx with hx | hx
      · exact hM x hx
      · rw [List.mem_singleton.1 hx]; simp at hw; exact hw
  | c :: r, k, q, st, acc, out, M, h, hM, hw => by
    unfold lineRun at h
    simp only [List.length_cons] at hw ⊢
    split at h
    · have hA : (addLine acc st.words).length ≤ acc.length + 1 ∧ ∀ x ∈ addLine acc st.words, x.length ≤ M := by
        unfold addLine
        split
        · exact ⟨by omega, hM⟩
        · refine ⟨by simp, fun x hx => ?_⟩
          rcases List.mem_append.1 hx with hx | hx
          · exact hM x hx
          · rw [List.mem_singleton.1 hx]; omega
      have := lineRun_short r _ _ _ _ out M h hA.2 (by simp; omega)
      exact ⟨by omega, this.2⟩
    · split at h
      · cases h
      · have hw2 : (stepC (k + 1) q c st).words.length ≤ st.words.length + 1 := by
          unfold stepC
          split
          · exact Nat.le_succ _
          · split
            · show (addLast st.words c).length ≤ _
              unfold addLast
              split
              · exact Nat.zero_le _
              · rw [List.length_append, List.length_dropLast]; simp; try omega
            · simp
        have := lineRun_short r _ _ _ _ out M h hM (by omega)
        exact ⟨by omega, this.2⟩
theorem linesR_short (s : ByteArray) : Short (linesR s).1 := by
  by_cases hs : 65536 < s.size
  · rw [show linesR s = ([], (0, 0), 5) from if_pos hs]
    exact ⟨by simp, fun l hl => by simp at hl⟩
  · rw [lineRun_lines s (by omega)]
    have e := len_is s
    cases h : lineRun s.data.toList 0 0 ⟨[], false, false⟩ [] with
    | inl p => exact ⟨by simp [linOut], fun l hl => by simp [linOut] at hl⟩
    | inr out =>
      have := lineRun_short _ _ _ _ _ out s.size h (fun x hx => by simp at hx) (by first | (simp; omega) | simp)
      refine ⟨?_, fun l hl => ?_⟩
      · show out.length ≤ 70000
        have := this.1
        simp at this
        omega
      · have := this.2 l hl
        omega

theorem lines_is (s : ByteArray) (L : List (List Tok)) (p q n : Nat) (m : Int) (w : World) (hm : w.cell? ⟨0, 0, none⟩ = some (.int .i64 m)) (h : linesR s = (L, (p, q), n)) :
    Calls Tryd.prog 20 #[.string s] w fun e w' => ∃ v, e = .returned (.tuple #[v, .agg #[.int .i64 p, .int .i64 q], .int .i64 n]) ∧ Ls w' v L ∧ Below w.heap.size w w' := by
  have := lines_any s m w hm
  rw [h] at this
  exact this
theorem rlines_is (s : ByteArray) (L : List (List Tok)) (p q n : Nat) (w : World) (h : linesR s = (L, (p, q), n)) :
    Calls Tryd.prog 21 #[.string s] w fun e w' => ∃ v, e = .returned (.tuple #[v, .agg #[.int .i64 p, .int .i64 q], .int .i64 n]) ∧ Ls w' v L ∧ Below w.heap.size w w' := by
  have := rlines_any s w
  rw [h] at this
  exact this

set_option maxRecDepth 20000 in
theorem lexLines_main (s : ByteArray) (m : Int) (w : World) (hm : w.cell? ⟨0, 0, none⟩ = some (.int .i64 m)) (hl : s.size ≤ 4000 ∨ 65536 < s.size) :
    Calls Tryd.prog 5 #[.string s] w fun e w' => e = .returned (.bool true) ∧ Below w.heap.size w w' := by
  obtain ⟨L, p, q, n, hz⟩ : ∃ L p q n, linesR s = (L, (p, q), n) := ⟨_, _, _, _, rfl⟩
  have hS := linesR_short s
  rw [hz] at hS
  have HS := Lib.hid hS
  have HZ := Lib.hid hz
  have hq : ∀ wz : World, (binOp .eql 38 (.agg #[.int .i64 p, .int .i64 q]) (.agg #[.int .i64 p, .int .i64 q])).run Tryd.prog wz = .ok (.bool true) wz := fun wz => pos_eql _ _ wz
  clear hS hz
  rcases hl with hl | hl
  · go_enter Tryd.func5, Tryd.ntmps5
    go_upto_region 7 with (first | (go_at_call 11; ((with_reducible refine (awake_any m _ hm).mono ?_); rintro e w1 ⟨rfl, hb⟩; (first | (replace hL := bstep hL hb) | (have hL := hb)); clear hb; replace hc := bcell hL)) | (go_at_call 20; with_reducible refine (lines_is s L p q n m _ (cell_kept hm (by go_grown)) HZ.out).mono ?_; rintro e w1 ⟨v1, rfl, hv1, hb⟩; replace hL := bstep hL hb; clear hb) | (go_at_call 21; with_reducible refine (rlines_is s L p q n _ HZ.out).mono ?_; rintro e w2 ⟨v2, rfl, hv2, hb2⟩))
    have p0 := pos_new w1 p q 38
    have d0 := cell_kept p0.1 hb2
    have d1 := cell_kept p0.2.1 hb2
    have hv3 := (hv1.below (w' := w1.alloc (.cells #[.int .i64 p, .int .i64 q] 38)) (by go_grown)).below hb2
    have hL2 := bstep (hL.alloc hL.size _) hb2
    have hlt12 : w1.heap.size < w2.heap.size := block_of_cell d0
    clear p0 hb2 hv1
    go_wp2_with (go_at_call 22; with_reducible refine (same_any L v1 v2 _ HS.out (hv3.below (by go_grown)) (hv2.below (by go_grown))).mono ?_; rintro e w3 ⟨rfl, hb3⟩; have hL3 := bstep (hL2.alloc hL2.size _) hb3)
    go_ret
    exact ⟨rfl, hL3⟩
  · have hl2 : 4000 < s.size := by omega
    go_enter Tryd.func5, Tryd.ntmps5
    go_upto_region 7 with (first | (go_at_call 11; ((with_reducible refine (awake_any m _ hm).mono ?_); rintro e w1 ⟨rfl, hb⟩; (first | (replace hL := bstep hL hb) | (have hL := hb)); clear hb; replace hc := bcell hL)) | (go_at_call 20; with_reducible refine (lines_is s L p q n m _ (cell_kept hm (by go_grown)) HZ.out).mono ?_; rintro e w1 ⟨v1, rfl, hv1, hb⟩; replace hL := bstep hL hb; clear hb) | (go_at_call 21; with_reducible refine (rlines_is s L p q n _ HZ.out).mono ?_; rintro e w2 ⟨v2, rfl, hv2, hb2⟩))
    have p0 := pos_new w1 p q 38
    have d0 := cell_kept p0.1 hb2
    have d1 := cell_kept p0.2.1 hb2
    have hv3 := (hv1.below (w' := w1.alloc (.cells #[.int .i64 p, .int .i64 q] 38)) (by go_grown)).below hb2
    have hL2 := bstep (hL.alloc hL.size _) hb2
    have hlt12 : w1.heap.size < w2.heap.size := block_of_cell d0
    clear p0 hb2 hv1
    go_wp2_with (go_at_call 22; with_reducible refine (same_any L v1 v2 _ HS.out (hv3.below (by go_grown)) (hv2.below (by go_grown))).mono ?_; rintro e w3 ⟨rfl, hb3⟩; have hL3 := bstep (hL2.alloc hL2.size _) hb3)
    go_ret
    exact ⟨rfl, hL3⟩

set_option maxRecDepth 20000 in
theorem lexLines_walk (s : ByteArray) (m : Int) (w : World) (hm : w.cell? ⟨0, 0, none⟩ = some (.int .i64 m)) :
    Calls Tryd.prog 5 #[.string s] w fun e w' => e = .returned (.bool true) ∧ Below w.heap.size w w' := by
  by_cases h : 4000 < s.size ∧ s.size ≤ 65536
  · obtain ⟨h1, h2⟩ := h
    go_enter Tryd.func5, Tryd.ntmps5
    go_wp2_with (go_at_call 11; ((with_reducible refine (awake_any m _ hm).mono ?_); rintro e w1 ⟨rfl, hb⟩; (first | (replace hL := bstep hL hb) | (have hL := hb)); clear hb; replace hc := bcell hL))
    go_ret
    exact ⟨rfl, (by have hB := bstep (w := w) (by go_grown) hL; have hs := hB.size; go_grown)⟩
  · exact lexLines_main s m w hm (by omega)
end Go.Proofs.YtcpfbemmlmdcaaaDoor.Lx
