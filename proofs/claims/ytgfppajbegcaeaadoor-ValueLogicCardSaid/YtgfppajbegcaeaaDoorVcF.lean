/-
  The walks of find and of the reference's At (layer 33).
-/
import Derived.Test.YtgfppajbegcaeaaDoorVcP
import Derived.Test.YtgfppajbegcaeaaDoorVaM
set_option linter.unusedSimpArgs false
set_option linter.unusedVariables false
namespace Go.Proofs.YtgfppajbegcaeaaDoor.Va
open Go.RowKit Go.ChangeShapes Go.WideShapes Go.Proofs.YtgfppajbegcaeaaDoor.Sl

def flatC : List Cl → List Value
  | [] => []
  | c :: l => .string c.1 :: .int .i64 c.2 :: flatC l
theorem flatC_len : ∀ l, (flatC l).length = l.length * 2
  | [] => rfl
  | c :: l => by show (flatC l).length + 2 = (l.length + 1) * 2; rw [flatC_len l]; omega
theorem flatC_get : ∀ (l : List Cl) (k : Nat) (c : Cl), l[k]? = some c → (flatC l)[k * 2]? = some (.string c.1) ∧ (flatC l)[k * 2 + 1]? = some (.int .i64 c.2)
  | [], k, c, h => by simp at h
  | x :: l, 0, c, h => by
    simp only [List.getElem?_cons_zero, Option.some.injEq] at h
    subst h
    exact ⟨rfl, rfl⟩
  | x :: l, k + 1, c, h => by
    obtain ⟨a, b⟩ := flatC_get l k c (by simpa using h)
    refine ⟨?_, ?_⟩
    · rw [show (k + 1) * 2 = k * 2 + 1 + 1 by omega]; simpa [flatC] using a
    · rw [show (k + 1) * 2 + 1 = k * 2 + 1 + 1 + 1 by omega]; simpa [flatC] using b
theorem flatC_snoc : ∀ (l : List Cl) (c : Cl), flatC (l ++ [c]) = flatC l ++ [.string c.1, .int .i64 c.2]
  | [], c => rfl
  | x :: l, c => by rw [List.cons_append, flatC, flatC_snoc l c]; rfl
/-- The slice s holds the columns l. -/
abbrev Cs (w : World) (s : Value) (l : List Cl) : Prop := Sl w s l.length 2 (flatC l)
theorem cs_get {w : World} {g off : Nat} {l : List Cl} (hc : ∀ j u, (flatC l)[j]? = some u → w.cell? ⟨g, off + j, none⟩ = some u) {k : Nat} {a : ByteArray} {b : Int} (h : l[k]? = some (a, b)) :
    w.cell? ⟨g, off + k * 2, none⟩ = some (.string a) ∧ w.cell? ⟨g, off + k * 2 + 1, none⟩ = some (.int .i64 b) := by
  obtain ⟨h1, h2⟩ := flatC_get l k _ h
  exact ⟨hc _ _ h1, hc _ _ h2⟩
theorem find1_any (a name : ByteArray) (k : Int) (B : Nat) (w : World) (hc : w.cell? ⟨B, 0, none⟩ = some (.string name)) :
    Calls Tryd.prog 83 #[.agg #[.string a, .int .i64 k], .pointer (some ⟨B, 0, none⟩)] w fun e w' => e = .returned (.bool (decide (a = name))) ∧ Below w.heap.size w w' := by
  have hB := block_of_cell hc
  by_cases h : a = name
  · subst h
    have b2 : ∀ w : World, (binOp .eql 9 (.string a) (.string a)).run Tryd.prog w = .ok (.bool true) w := fun w => str_eq a w
    go_enter Tryd.func83, Tryd.ntmps83
    go_wp2
    go_ret
    exact ⟨by simp, by go_grown⟩
  · have b2 : ∀ w : World, (binOp .eql 9 (.string a) (.string name)).run Tryd.prog w = .ok (.bool false) w := fun w => str_ne a name h w
    have h2 : ¬ a.toList = name.toList := fun e => h (by
      rw [ByteArray.toList_eq, ByteArray.toList_eq] at e
      exact ByteArray.ext (Array.toList_inj.1 e))
    have h3 : (a.toList == name.toList) = false := by simpa using h2
    have HF := Lib.hid h
    clear h
    go_enter Tryd.func83, Tryd.ntmps83
    go_wp2
    go_ret
    exact ⟨by rw [decide_eq_false HF.out]; rfl, by go_grown⟩
set_option maxRecDepth 20000 in
theorem cidx_any (l : List Cl) (s : Value) (name : ByteArray) (B : Nat) (w : World) (hl : l.length ≤ 2000000) (hs : Cs w s l) (hn : w.cell? ⟨B, 0, none⟩ = some (.string name)) :
    Calls Tryd.prog 82 #[s, .func (.func 83) #[] #[.pointer (some ⟨B, 0, none⟩)]] w fun e w' => e = .returned (.int .i64 (idxC name 0 l)) ∧ Below w.heap.size w w' := by
  by_cases h0 : l.length = 0
  · obtain ⟨ad, cap, rfl⟩ := hs.form
    have hn2 : l = [] := List.length_eq_zero_iff.1 h0
    subst hn2
    show Calls Tryd.prog 82 #[.slice ad 0 cap, _] w fun e w' => e = .returned (.int .i64 (-1)) ∧ Below w.heap.size w w'
    go_enter Tryd.func82, Tryd.ntmps82
    go_wp2
    refine wp_loop_rounds 1 ?_
    rw [rounds_succ]
    go_wp2
    go_ret
    exact ⟨rfl, Below.refl _ _⟩
  · obtain ⟨g, off, cap, rfl, hc⟩ := hs.open h0
    obtain ⟨n, hnn⟩ : ∃ n, n = l.length := ⟨_, rfl⟩
    obtain ⟨Z, hZ⟩ : ∃ Z, idxC name 0 l = Z := ⟨_, rfl⟩
    have HN := Lib.hid hnn
    have HZ := Lib.hid hZ
    have HC := Lib.hid hc
    have HNM := Lib.hid hn
    rw [← hnn] at hl h0 ⊢
    rw [hZ]
    clear hc hs hnn hZ hn
    go_enter Tryd.func82, Tryd.ntmps82
    go_wp2
    go_loopw [8] (fun i wr => ∃ k : Nat, k ≤ n ∧ i = .int .i64 k ∧ Hid (idxC name k (l.drop k) = Z) ∧ Below w.heap.size w wr) (fun i _ => n - (intOf i).toNat)
    case atStart => exact ⟨0, Nat.zero_le _, rfl, Lib.hid HZ.out, Below.refl _ _⟩
    case round =>
      obtain ⟨k, hk, rfl, HI, hL⟩ := hrel
      by_cases hlt : k < n
      · obtain ⟨⟨a, b⟩, ht⟩ : ∃ t, l[k]? = some t := ⟨_, List.getElem?_eq_getElem (by rw [← HN.out]; exact hlt)⟩
        have hst := idxC_step name l k _ ht
        rw [HI.out] at hst
        obtain ⟨c0, c1⟩ := cs_get HC.out ht
        have d0 := cell_kept c0 hL
        have d1 := cell_kept c1 hL
        have HB := fun W h => find1_any a name b B W h
        have HNK := Lib.hid (cell_kept HNM.out hL)
        have k0 : (0 : Int) ≤ (k : Int) := by omega
        have k1 : (k : Int) < (n : Int) := by omega
        clear ht c0 c1
        by_cases hq : a = name
        · have HS2 : Hid (Z = k) := Lib.hid (by rw [if_pos hq] at hst; exact hst)
          rw [decide_eq_true hq] at HB
          clear hst hq
          go_wp2_with (go_at_call 83; with_reducible refine (HB _ HNK.out).mono ?_; rintro e w1 ⟨rfl, hb⟩; have hL2 := bstep hL hb; clear hb)
          go_ret
          exact ⟨by rw [HS2.out]; rfl, hL2⟩
        · have HS2 : Hid (idxC name (k + 1) (l.drop (k + 1)) = Z) := Lib.hid (by rw [if_neg hq] at hst; exact hst.symm)
          rw [decide_eq_false hq] at HB
          clear hst hq
          go_wp2_with (go_at_call 83; with_reducible refine (HB _ HNK.out).mono ?_; rintro e w1 ⟨rfl, hb⟩; have hL2 := bstep hL hb; clear hb)
          go_roundw
          case rel => exact ⟨k + 1, by omega, by go_num, HS2, hL2⟩
          case measure => simp [intOf]; omega
      · go_wp2
        go_ret
        exact ⟨by show Ending.returned (.int .i64 (-1)) = _; rw [← HI.out, List.drop_of_length_le (by rw [← HN.out]; omega)]; rfl, hL⟩
theorem find_any (l : List Cl) (s : Value) (name : ByteArray) (w : World) (hl : l.length ≤ 2000000) (hs : Cs w s l) : Calls Tryd.prog 68 #[s, .string name] w fun e w' => e = .returned (.int .i64 (idxC name 0 l)) ∧ Below w.heap.size w w' := by
  have HC := fun W h hn => cidx_any l s name w.heap.size W hl h hn
  have HS := Lib.hid (hs.below ((Below.refl _ w).alloc (Nat.le_refl _) (.cells #[.string name] 9)))
  generalize idxC name 0 l = z at HC ⊢
  clear hs
  go_enter Tryd.func68, Tryd.ntmps68
  go_wp2_with (go_at_call 82; (with_reducible refine (HC _ HS.out (by simp)).mono ?_); rintro e w1 ⟨rfl, hL⟩)
  go_ret
  exact ⟨rfl, (by have hB := bstep (w := w) (by go_grown) hL; have hs := hB.size; go_grown)⟩
set_option maxRecDepth 20000 in
theorem rat_any (l : List Cl) (s : Value) (name : ByteArray) (w : World) (hl : l.length ≤ 2000000) (hs : Cs w s l) : Calls Tryd.prog 69 #[s, .string name] w fun e w' => e = .returned (.int .i64 (idxC name 0 l)) ∧ w' = w := by
  obtain ⟨Z, hZ⟩ : ∃ Z, idxC name 0 l = Z := ⟨_, rfl⟩
  have HZ := Lib.hid hZ
  have HV := Lib.hid hs
  obtain ⟨ad, cap, rfl⟩ := hs.form
  obtain ⟨n, hn⟩ : ∃ n, n = l.length := ⟨_, rfl⟩
  have HN := Lib.hid hn
  rw [hZ]
  rw [← hn] at hl ⊢
  clear hs hZ hn
  go_enter Tryd.func69, Tryd.ntmps69
  go_wp2
  go_loop [5] (fun i => ∃ k : Nat, k ≤ n ∧ i = .int .i64 k ∧ Hid (idxC name k (l.drop k) = Z)) (fun i => n - (intOf i).toNat)
  case atStart => exact ⟨0, Nat.zero_le _, rfl, Lib.hid HZ.out⟩
  case round =>
    obtain ⟨k, hk, rfl, HI⟩ := hrel
    by_cases hlt : k < n
    · obtain ⟨g, off, cap, hsl, hc⟩ := HV.out.open (by rw [← HN.out]; omega)
      simp only [Value.slice.injEq] at hsl
      obtain ⟨rfl, hx, rfl⟩ := hsl
      clear hx
      obtain ⟨⟨a, b⟩, ht⟩ : ∃ t, l[k]? = some t := ⟨_, List.getElem?_eq_getElem (by rw [← HN.out]; exact hlt)⟩
      have hst := idxC_step name l k _ ht
      rw [HI.out] at hst
      obtain ⟨c0, c1⟩ := cs_get hc ht
      have k0 : (0 : Int) ≤ (k : Int) := by omega
      have k1 : (k : Int) < (n : Int) := by omega
      clear ht hc
      by_cases hq : a = name
      · subst hq
        have HS2 : Hid (Z = k) := Lib.hid (by rw [if_pos rfl] at hst; exact hst)
        clear hst
        go_wp2
        go_ret
        exact ⟨by rw [HS2.out]; rfl, rfl⟩
      · have HS2 : Hid (idxC name (k + 1) (l.drop (k + 1)) = Z) := Lib.hid (by rw [if_neg hq] at hst; exact hst.symm)
        have h2 : ¬ a.toList = name.toList := fun e => hq (by
          rw [ByteArray.toList_eq, ByteArray.toList_eq] at e
          exact ByteArray.ext (Array.toList_inj.1 e))
        have h3 : (a.toList == name.toList) = false := by simpa using h2
        clear hst hq
        go_wp2
        go_round
        case rel => exact ⟨k + 1, by omega, by go_num, HS2⟩
        case measure => simp [intOf]; omega
    · go_wp2
      go_ret
      exact ⟨by show Ending.returned (.int .i64 (-1)) = _; rw [← HI.out, List.drop_of_length_le (by rw [← HN.out]; omega)]; rfl, rfl⟩
end Go.Proofs.YtgfppajbegcaeaaDoor.Va
