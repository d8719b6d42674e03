/-
  The walks of layer 33's functions on lists of values (all, Same, Order, Compare), of the program civiltime.
-/
import Derived.Test.YtgfppajbegcaeaaDoorVaO
set_option linter.unusedSimpArgs false
set_option linter.unusedVariables false
namespace Go.Proofs.YtgfppajbegcaeaaDoor.Va
open Go.RowKit Go.ChangeShapes Go.WideShapes Go.Proofs.YtgfppajbegcaeaaDoor.Sl

/-- The slice value s holds the list l of values. -/
abbrev Vs (w : World) (s : Value) (l : List V3) : Prop := Sl w s l.length 3 (flatV l)
/-- The first place at which p holds. -/
def idxV (p : V3 → Bool) : Nat → List V3 → Int
  | _, [] => -1
  | k, v :: l => if p v then k else idxV p (k + 1) l
theorem idxV_ge (p : V3 → Bool) : ∀ (l : List V3) (k : Nat), idxV p k l = -1 ∧ l.any p = false ∨ (k : Int) ≤ idxV p k l ∧ l.any p = true
  | [], k => .inl ⟨rfl, rfl⟩
  | v :: l, k => by
    unfold idxV
    cases h : p v
    · rw [if_neg (by simp), List.any_cons, h, Bool.false_or]
      rcases idxV_ge p l (k + 1) with h1 | h1
      · exact .inl h1
      · exact .inr ⟨by omega, h1.2⟩
    · rw [if_pos rfl, List.any_cons, h]
      exact .inr ⟨Int.le_refl _, rfl⟩
theorem idxV_pos (p : V3 → Bool) (l : List V3) : decide (0 ≤ idxV p 0 l) = l.any p := by
  rcases idxV_ge p l 0 with ⟨h1, h2⟩ | ⟨h1, h2⟩
  · rw [h1, h2]; rfl
  · rw [h2]; simpa using h1
theorem idxV_step (p : V3 → Bool) (l : List V3) (k : Nat) (v : V3) (h : l[k]? = some v) : idxV p k (l.drop k) = if p v then (k : Int) else idxV p (k + 1) (l.drop (k + 1)) := by
  have hk : k < l.length := (List.getElem?_eq_some_iff.1 h).1
  rw [List.drop_eq_getElem_cons hk, idxV, (List.getElem?_eq_some_iff.1 h).2]
def badV (v : V3) : Bool := !validV v
theorem any_bad (l : List V3) : l.any badV = !allV l := by
  unfold allV
  induction l with
  | nil => rfl
  | cons v l ih => rw [List.any_cons, List.all_cons, ih]; unfold badV; cases validV v <;> simp
/-- A value of a list that can be read. -/
theorem vs_get {w : World} {g off : Nat} {l : List V3} (hc : ∀ j u, (flatV l)[j]? = some u → w.cell? ⟨g, off + j, none⟩ = some u) {k : Nat} {a b : Int} {s : ByteArray} (h : l[k]? = some (a, b, s)) :
    w.cell? ⟨g, off + k * 3, none⟩ = some (.int .i64 a) ∧ w.cell? ⟨g, off + k * 3 + 1, none⟩ = some (.int .i64 b) ∧ w.cell? ⟨g, off + k * 3 + 2, none⟩ = some (.string s) := by
  obtain ⟨h1, h2, h3⟩ := flatV_get l k _ h
  exact ⟨hc _ _ h1, hc _ _ h2, hc _ _ h3⟩

theorem all1_any (k n : Int) (s : ByteArray) (w : World) : Calls Tryd.prog 62 #[agV k n s] w fun e w' => e = .returned (.bool (badV (k, n, s))) ∧ Below w.heap.size w w' := by
  unfold badV
  have HC := fun W => valid_any (k, n, s) W
  generalize validV (k, n, s) = b at HC ⊢
  go_enter Tryd.func62, Tryd.ntmps62
  go_wp2_with (go_at_call 21; ((with_reducible refine (HC _).mono ?_); rintro e w1 ⟨rfl, hL⟩))
  go_ret
  exact ⟨rfl, (by have hB := bstep (w := w) (by go_grown) hL; have hs := hB.size; go_grown)⟩
theorem tot1_any (k n : Int) (s : ByteArray) (w : World) : Calls Tryd.prog 20 #[agV k n s] w fun e w' => e = .returned (.bool (badV (k, n, s))) ∧ Below w.heap.size w w' := by
  unfold badV
  have HC := fun W => valid_any (k, n, s) W
  generalize validV (k, n, s) = b at HC ⊢
  go_enter Tryd.func20, Tryd.ntmps20
  go_wp2_with (go_at_call 21; ((with_reducible refine (HC _).mono ?_); rintro e w1 ⟨rfl, hL⟩))
  go_ret
  exact ⟨rfl, (by have hB := bstep (w := w) (by go_grown) hL; have hs := hB.size; go_grown)⟩

set_option maxRecDepth 20000 in
theorem idx_all (l : List V3) (s : Value) (w : World) (hl : l.length ≤ 2000000) (hs : Vs w s l) :
    Calls Tryd.prog 41 #[s, .func (.func 62) #[] #[]] w fun e w' => e = .returned (.int .i64 (idxV badV 0 l)) ∧ Below w.heap.size w w' := by
  by_cases h0 : l.length = 0
  · obtain ⟨ad, cap, rfl⟩ := hs.form
    have hn : l = [] := List.length_eq_zero_iff.1 h0
    subst hn
    show Calls Tryd.prog 41 #[.slice ad 0 cap, _] w fun e w' => e = .returned (.int .i64 (-1)) ∧ Below w.heap.size w w'
    go_enter Tryd.func41, Tryd.ntmps41
    go_wp2
    refine wp_loop_rounds 1 ?_
    rw [rounds_succ]
    go_wp2
    go_ret
    exact ⟨rfl, Below.refl _ _⟩
  · obtain ⟨g, off, cap, rfl, hc⟩ := hs.open h0
    obtain ⟨n, hn⟩ : ∃ n, n = l.length := ⟨_, rfl⟩
    obtain ⟨Z, hZ⟩ : ∃ Z, idxV badV 0 l = Z := ⟨_, rfl⟩
    have HN := Lib.hid hn
    have HZ := Lib.hid hZ
    have HC := Lib.hid hc
    rw [← hn] at hl h0 ⊢
    rw [hZ]
    clear hc hs hn hZ
    go_enter Tryd.func41, Tryd.ntmps41
    go_wp2
    go_loopw [8] (fun i wr => ∃ k : Nat, k ≤ n ∧ i = .int .i64 k ∧ Hid (idxV badV k (l.drop k) = Z) ∧ Below w.heap.size w wr) (fun i _ => n - (intOf i).toNat)
    case atStart => exact ⟨0, Nat.zero_le _, rfl, Lib.hid HZ.out, Below.refl _ _⟩
    case round =>
      obtain ⟨k, hk, rfl, HI, hL⟩ := hrel
      by_cases hlt : k < n
      · obtain ⟨⟨a, b, t⟩, ht⟩ : ∃ t, l[k]? = some t := ⟨_, List.getElem?_eq_getElem (by rw [← HN.out]; exact hlt)⟩
        have hst := idxV_step badV l k _ ht
        rw [HI.out] at hst
        obtain ⟨c0, c1, c2⟩ := vs_get HC.out ht
        have d0 := cell_kept c0 hL
        have d1 := cell_kept c1 hL
        have d2 := cell_kept c2 hL
        have HB := fun W => all1_any a b t W
        generalize badV (a, b, t) = bb at HB hst
        have HS := Lib.hid hst
        have k0 : (0 : Int) ≤ (k : Int) := by omega
        have k1 : (k : Int) < (n : Int) := by omega
        clear ht hst c0 c1 c2
        cases bb
        · go_wp2_with (go_at_call 62; with_reducible refine (HB _).mono ?_; rintro e w1 ⟨rfl, hb⟩; have hL2 := bstep hL hb; clear hb)
          go_roundw
          case rel => exact ⟨k + 1, by omega, by go_num, Lib.hid (by have := HS.out; rw [if_neg (by simp)] at this; exact this.symm), hL2⟩
          case measure => simp [intOf]; omega
        · go_wp2_with (go_at_call 62; with_reducible refine (HB _).mono ?_; rintro e w1 ⟨rfl, hb⟩; have hL2 := bstep hL hb; clear hb)
          go_ret
          exact ⟨by rw [HS.out]; rfl, hL2⟩
      · go_wp2
        go_ret
        exact ⟨by show Ending.returned (.int .i64 (-1)) = _; rw [← HI.out, List.drop_of_length_le (by rw [← HN.out]; omega)]; rfl, hL⟩
theorem has_all (l : List V3) (s : Value) (w : World) (hl : l.length ≤ 2000000) (hs : Vs w s l) :
    Calls Tryd.prog 18 #[s, .func (.func 62) #[] #[]] w fun e w' => e = .returned (.bool (!allV l)) ∧ Below w.heap.size w w' := by
  have HC := fun W h => idx_all l s W hl h
  rw [← any_bad, ← idxV_pos]
  generalize idxV badV 0 l = z at HC ⊢
  go_enter Tryd.func18, Tryd.ntmps18
  go_wp2_with (go_at_call 41; ((with_reducible refine (HC _ hs).mono ?_); rintro e w1 ⟨rfl, hL⟩))
  go_ret
  exact ⟨rfl, (by have hB := bstep (w := w) (by go_grown) hL; have hs := hB.size; go_grown)⟩

set_option maxRecDepth 20000 in
theorem idx_tot (l : List V3) (s : Value) (w : World) (hl : l.length ≤ 2000000) (hs : Vs w s l) :
    Calls Tryd.prog 41 #[s, .func (.func 20) #[] #[]] w fun e w' => e = .returned (.int .i64 (idxV badV 0 l)) ∧ Below w.heap.size w w' := by
  by_cases h0 : l.length = 0
  · obtain ⟨ad, cap, rfl⟩ := hs.form
    have hn : l = [] := List.length_eq_zero_iff.1 h0
    subst hn
    show Calls Tryd.prog 41 #[.slice ad 0 cap, _] w fun e w' => e = .returned (.int .i64 (-1)) ∧ Below w.heap.size w w'
    go_enter Tryd.func41, Tryd.ntmps41
    go_wp2
    refine wp_loop_rounds 1 ?_
    rw [rounds_succ]
    go_wp2
    go_ret
    exact ⟨rfl, Below.refl _ _⟩
  · obtain ⟨g, off, cap, rfl, hc⟩ := hs.open h0
    obtain ⟨n, hn⟩ : ∃ n, n = l.length := ⟨_, rfl⟩
    obtain ⟨Z, hZ⟩ : ∃ Z, idxV badV 0 l = Z := ⟨_, rfl⟩
    have HN := Lib.hid hn
    have HZ := Lib.hid hZ
    have HC := Lib.hid hc
    rw [← hn] at hl h0 ⊢
    rw [hZ]
    clear hc hs hn hZ
    go_enter Tryd.func41, Tryd.ntmps41
    go_wp2
    go_loopw [8] (fun i wr => ∃ k : Nat, k ≤ n ∧ i = .int .i64 k ∧ Hid (idxV badV k (l.drop k) = Z) ∧ Below w.heap.size w wr) (fun i _ => n - (intOf i).toNat)
    case atStart => exact ⟨0, Nat.zero_le _, rfl, Lib.hid HZ.out, Below.refl _ _⟩
    case round =>
      obtain ⟨k, hk, rfl, HI, hL⟩ := hrel
      by_cases hlt : k < n
      · obtain ⟨⟨a, b, t⟩, ht⟩ : ∃ t, l[k]? = some t := ⟨_, List.getElem?_eq_getElem (by rw [← HN.out]; exact hlt)⟩
        have hst := idxV_step badV l k _ ht
        rw [HI.out] at hst
        obtain ⟨c0, c1, c2⟩ := vs_get HC.out ht
        have d0 := cell_kept c0 hL
        have d1 := cell_kept c1 hL
        have d2 := cell_kept c2 hL
        have HB := fun W => tot1_any a b t W
        generalize badV (a, b, t) = bb at HB hst
        have HS := Lib.hid hst
        have k0 : (0 : Int) ≤ (k : Int) := by omega
        have k1 : (k : Int) < (n : Int) := by omega
        clear ht hst c0 c1 c2
        cases bb
        · go_wp2_with (go_at_call 20; with_reducible refine (HB _).mono ?_; rintro e w1 ⟨rfl, hb⟩; have hL2 := bstep hL hb; clear hb)
          go_roundw
          case rel => exact ⟨k + 1, by omega, by go_num, Lib.hid (by have := HS.out; rw [if_neg (by simp)] at this; exact this.symm), hL2⟩
          case measure => simp [intOf]; omega
        · go_wp2_with (go_at_call 20; with_reducible refine (HB _).mono ?_; rintro e w1 ⟨rfl, hb⟩; have hL2 := bstep hL hb; clear hb)
          go_ret
          exact ⟨by rw [HS.out]; rfl, hL2⟩
      · go_wp2
        go_ret
        exact ⟨by show Ending.returned (.int .i64 (-1)) = _; rw [← HI.out, List.drop_of_length_le (by rw [← HN.out]; omega)]; rfl, hL⟩
theorem has_tot (l : List V3) (s : Value) (w : World) (hl : l.length ≤ 2000000) (hs : Vs w s l) :
    Calls Tryd.prog 18 #[s, .func (.func 20) #[] #[]] w fun e w' => e = .returned (.bool (!allV l)) ∧ Below w.heap.size w w' := by
  have HC := fun W h => idx_tot l s W hl h
  rw [← any_bad, ← idxV_pos]
  generalize idxV badV 0 l = z at HC ⊢
  go_enter Tryd.func18, Tryd.ntmps18
  go_wp2_with (go_at_call 41; ((with_reducible refine (HC _ hs).mono ?_); rintro e w1 ⟨rfl, hL⟩))
  go_ret
  exact ⟨rfl, (by have hB := bstep (w := w) (by go_grown) hL; have hs := hB.size; go_grown)⟩
theorem all_any (l : List V3) (s : Value) (w : World) (hl : l.length ≤ 2000000) (hs : Vs w s l) : Calls Tryd.prog 40 #[s] w fun e w' => e = .returned (.bool (allV l)) ∧ Below w.heap.size w w' := by
  have HC := fun W h => has_all l s W hl h
  generalize allV l = b at HC ⊢
  go_enter Tryd.func40, Tryd.ntmps40
  go_wp2_with (go_at_call 18; ((with_reducible refine (HC _ hs).mono ?_); rintro e w1 ⟨rfl, hL⟩))
  go_ret
  exact ⟨by cases b <;> rfl, (by have hB := bstep (w := w) (by go_grown) hL; have hs := hB.size; go_grown)⟩
/-- The order of two values, 0 where one is not valid. -/
def cmpV (a b : V3) : Int := if validV a && validV b then ordV a b else 0
theorem compare_any (a b : V3) (w : World) : Calls Tryd.prog 32 #[agV a.1 a.2.1 a.2.2, agV b.1 b.2.1 b.2.2] w fun e w' => e = .returned (.int .i64 (cmpV a b)) ∧ Below w.heap.size w w' := by
  obtain ⟨k, n, s⟩ := a
  obtain ⟨k2, n2, s2⟩ := b
  show Calls Tryd.prog 32 #[agV k n s, agV k2 n2 s2] w _
  unfold cmpV
  have HA := fun W => valid_any (k, n, s) W
  have HB := fun W => valid_any (k2, n2, s2) W
  have HO := fun W => order_any (k, n, s) (k2, n2, s2) W
  generalize validV (k, n, s) = x at HA ⊢
  generalize validV (k2, n2, s2) = y at HB ⊢
  generalize ordV (k, n, s) (k2, n2, s2) = z at HO ⊢
  cases x
  · go_enter Tryd.func32, Tryd.ntmps32
    go_wp2_with (first | (go_at_call 21; ((with_reducible refine (HA _).mono ?_); rintro e w1 ⟨rfl, hb⟩; (first | (replace hL := bstep hL hb) | (have hL := hb)); clear hb; replace hc := bcell hL)))
    go_ret
    exact ⟨rfl, (by have hB := bstep (w := w) (by go_grown) hL; have hs := hB.size; go_grown)⟩
  · cases y
    · go_enter Tryd.func32, Tryd.ntmps32
      go_wp2_with (first | (go_at_call 21; ((with_reducible refine (HA _).mono ?_); rintro e w1 ⟨rfl, hb⟩; (first | (replace hL := bstep hL hb) | (have hL := hb)); clear hb; replace hc := bcell hL)) | (go_at_call 21; ((with_reducible refine (HB _).mono ?_); rintro e w1 ⟨rfl, hb⟩; (first | (replace hL := bstep hL hb) | (have hL := hb)); clear hb; replace hc := bcell hL)))
      go_ret
      exact ⟨rfl, (by have hB := bstep (w := w) (by go_grown) hL; have hs := hB.size; go_grown)⟩
    · go_enter Tryd.func32, Tryd.ntmps32
      go_wp2_with (first | (go_at_call 21; ((with_reducible refine (HA _).mono ?_); rintro e w1 ⟨rfl, hb⟩; (first | (replace hL := bstep hL hb) | (have hL := hb)); clear hb; replace hc := bcell hL)) | (go_at_call 21; ((with_reducible refine (HB _).mono ?_); rintro e w1 ⟨rfl, hb⟩; (first | (replace hL := bstep hL hb) | (have hL := hb)); clear hb; replace hc := bcell hL)) | (go_at_call 46; ((with_reducible refine (HO _).mono ?_); rintro e w1 ⟨rfl, hb⟩; (first | (replace hL := bstep hL hb) | (have hL := hb)); clear hb; replace hc := bcell hL)))
      go_ret
      exact ⟨rfl, (by have hB := bstep (w := w) (by go_grown) hL; have hs := hB.size; go_grown)⟩
end Go.Proofs.YtgfppajbegcaeaaDoor.Va
