/-
  Networks: Valid, the reference's Valid, great (layer 46).
-/
import Derived.Test.YtoadihclmnjjnaaNwP
import Derived.Test.YtoadihclmnjjnaaAwk
import Derived.Test.YtoadihclmnjjnaaRef3
import Derived.Lib.Hide
set_option linter.unusedSimpArgs false
set_option linter.unusedVariables false
set_option maxRecDepth 100000
namespace Go.Proofs.Ytoadihclmnjjnaa.Nw
open Go Go.RowKit Go.ChangeShapes Go.WideShapes Go.Proofs.Ytoadihclmnjjnaa.Sl Go.Proofs.Ytoadihclmnjjnaa.Al Go.Lib

/-- A constraint. -/
structure Rl where
  i : Int
  j : Int
  s : Int
instance : Inhabited Rl := ⟨⟨0, 0, 0⟩⟩
def relC (r : Rl) : List Value := [.int .i64 r.i, .int .i64 r.j, .int .i64 r.s]
def cellsR (l : List Rl) : List Value := l.flatMap relC
theorem cellsR_len : ∀ l : List Rl, (cellsR l).length = l.length * 3
  | [] => rfl
  | r :: l => by rw [cellsR, List.flatMap_cons, List.length_append, List.length_cons, Nat.succ_mul, Nat.add_comm]; exact congrArg (· + 3) (cellsR_len l)
theorem cellsR_at : ∀ (l : List Rl) (k : Nat) (r : Rl), l[k]? = some r → (cellsR l)[k * 3]? = some (.int .i64 r.i) ∧ (cellsR l)[k * 3 + 1]? = some (.int .i64 r.j) ∧ (cellsR l)[k * 3 + 2]? = some (.int .i64 r.s)
  | [], k, r, h => by simp at h
  | x :: l, 0, r, h => by
    simp at h
    subst h
    exact ⟨rfl, rfl, rfl⟩
  | x :: l, k + 1, r, h => by
    obtain ⟨h1, h2, h3⟩ := cellsR_at l k r (by simpa using h)
    rw [show (k + 1) * 3 = k * 3 + 3 by omega, show k * 3 + 3 + 1 = k * 3 + 1 + 3 by omega, show k * 3 + 3 + 2 = k * 3 + 2 + 3 by omega]
    exact ⟨h1, h2, h3⟩
/-- The slice s holds the constraints l. -/
def Rs (w : World) (s : Value) (l : List Rl) : Prop := Sl w s l.length 3 (cellsR l) ∧ l.length ≤ 9223372036854775807
theorem Rs.below {w w' : World} {s : Value} {l : List Rl} (h : Rs w s l) (hb : Below w.heap.size w w') : Rs w' s l := ⟨h.1.below hb, h.2⟩
theorem Rs.form {w : World} {s : Value} {l : List Rl} (h : Rs w s l) : ∃ ad cap, s = .slice ad l.length cap := h.1.form
theorem Rs.get {w : World} {s : Value} {l : List Rl} (h : Rs w s l) (h0 : l.length ≠ 0) : ∃ g off cap, s = .slice (some ⟨g, off, none⟩) l.length cap ∧ ∀ (k : Nat) (r : Rl), l[k]? = some r →
    w.cell? ⟨g, off + k * 3, none⟩ = some (.int .i64 r.i) ∧ w.cell? ⟨g, off + k * 3 + 1, none⟩ = some (.int .i64 r.j) ∧ w.cell? ⟨g, off + k * 3 + 2, none⟩ = some (.int .i64 r.s) := by
  obtain ⟨g, off, cap, rfl, hc⟩ := h.1.open h0
  refine ⟨g, off, cap, rfl, fun k r hr => ?_⟩
  obtain ⟨h1, h2, h3⟩ := cellsR_at l k r hr
  exact ⟨hc _ _ h1, hc _ _ h2, hc _ _ h3⟩

/-- A constraint that is not one of a network with n intervals. -/
def badR (n : Int) (r : Rl) : Bool := decide (r.i < 0) || decide (n ≤ r.i) || decide (r.j < 0) || decide (n ≤ r.j) || !isSetB r.s
def vldN (n : Int) (l : List Rl) : Bool := decide (1 ≤ n) && decide (n ≤ 8) && decide (l.length ≤ 200) && !l.any (badR n)

/-- The first place at which p holds. -/
def idxP {α : Type} (p : α → Bool) : Nat → List α → Int
  | _, [] => -1
  | k, v :: l => if p v then k else idxP p (k + 1) l
theorem idxP_ge {α : Type} (p : α → Bool) : ∀ (l : List α) (k : Nat), (idxP p k l = -1 ∧ l.any p = false) ∨ ((k : Int) ≤ idxP p k l ∧ l.any p = true)
  | [], k => .inl ⟨rfl, rfl⟩
  | v :: l, k => by
    unfold idxP
    cases h : p v
    · rw [if_neg (by simp), List.any_cons, h, Bool.false_or]
      rcases idxP_ge p l (k + 1) with h1 | ⟨h1, h2⟩
      · exact .inl h1
      · exact .inr ⟨by omega, h2⟩
    · rw [if_pos rfl, List.any_cons, h]
      exact .inr ⟨Int.le_refl _, rfl⟩
theorem idxP_pos {α : Type} (p : α → Bool) (l : List α) : decide (0 ≤ idxP p 0 l) = l.any p := by
  rcases idxP_ge p l 0 with ⟨h1, h2⟩ | ⟨h1, h2⟩
  · rw [h1, h2]; rfl
  · rw [h2]; simpa using h1
theorem idxP_step {α : Type} (p : α → Bool) (l : List α) (k : Nat) (v : α) (h : l[k]? = some v) : idxP p k (l.drop k) = if p v then (k : Int) else idxP p (k + 1) (l.drop (k + 1)) := by
  have hk : k < l.length := (List.getElem?_eq_some_iff.1 h).1
  rw [List.drop_eq_getElem_cons hk, idxP, (List.getElem?_eq_some_iff.1 h).2]

theorem set_any (s : Int) (w : World) : Calls Try.prog 61 #[.int .i64 s] w fun e w' => e = .returned (.bool (isSetB s)) ∧ Below w.heap.size w w' := by
  unfold isSetB
  by_cases h : 0 ≤ s
  · go_enter Try.func61, Try.ntmps61
    go_wp2_with (go_at_call 85; (with_reducible refine (full_any _).mono ?_); rintro e w1 ⟨rfl, hb1⟩)
    go_ret
    exact ⟨by simp [h], hb1⟩
  · go_enter Try.func61, Try.ntmps61
    go_wp2_with (go_at_call 85; (with_reducible refine (full_any _).mono ?_); rintro e w1 ⟨rfl, hb1⟩)
    go_ret
    exact ⟨by simp [h]; omega, Below.refl _ _⟩
set_option maxHeartbeats 2000000 in
theorem valid1_any (n : Int) (B : Nat) (r : Rl) (w : World) (hc : w.cell? ⟨B, 0, none⟩ = some (.int .i64 n)) : Calls Try.prog 60 #[.agg #[.int .i64 r.i, .int .i64 r.j, .int .i64 r.s], .pointer (some ⟨B, 0, none⟩)] w fun e w' => e = .returned (.bool (badR n r)) ∧ Below w.heap.size w w' := by
  obtain ⟨i, j, s⟩ := r
  unfold badR
  dsimp only
  have hB := block_of_cell hc
  by_cases h1 : i < 0
  · go_enter Try.func60, Try.ntmps60
    go_wp2
    go_ret
    exact ⟨by simp [h1], by go_grown⟩
  · by_cases h2 : n ≤ i
    · go_enter Try.func60, Try.ntmps60
      go_wp2
      go_ret
      exact ⟨by simp [h1, h2], by go_grown⟩
    · by_cases h3 : j < 0
      · go_enter Try.func60, Try.ntmps60
        go_wp2
        go_ret
        exact ⟨by simp [h1, h2, h3], by go_grown⟩
      · by_cases h4 : n ≤ j
        · go_enter Try.func60, Try.ntmps60
          go_wp2
          go_ret
          exact ⟨by simp [h1, h2, h3, h4], by go_grown⟩
        · go_enter Try.func60, Try.ntmps60
          go_wp2_with (go_at_call 61; ((with_reducible refine (set_any s _).mono ?_); rintro e w1 ⟨rfl, hb⟩; (first | (replace hL := bstep hL hb) | (have hL := hb)); clear hb; replace hc := bcell hL))
          go_ret
          exact ⟨by simp [h1, h2, h3, h4]; intro hh; omega, (by have hB := bstep (w := w) (by go_grown) hL; have hs := hB.size; go_grown)⟩
theorem enter_valid1 (args : Array Value) (w : World) : (callFunc 60 args).run Try.prog w = .ok (.enter 60 args) w := by simp [go_sem, Try.func60]
theorem idx_rel (N : Nat) (HE : ∀ (args : Array Value) (w : World), (callFunc N args).run Try.prog w = .ok (.enter N args) w) (cps : Array Value) (p : Rl → Bool) (I : World → Prop) (hI : ∀ W W', I W → Below W.heap.size W W' → I W')
    (l : List Rl) (HP : ∀ (W : World) (r : Rl), r ∈ l → I W → Calls Try.prog N (#[.agg #[.int .i64 r.i, .int .i64 r.j, .int .i64 r.s]] ++ cps) W fun e w' => e = .returned (.bool (p r)) ∧ Below W.heap.size W w')
    (s : Value) (w : World) (hs : Rs w s l) (hw : I w) :
    Calls Try.prog 88 #[s, .func (.func N) #[] cps] w fun e w' => e = .returned (.int .i64 (idxP p 0 l)) ∧ Below w.heap.size w w' := by
  have HI0 := Lib.hid hw
  have HP0 := Lib.hid HP
  have HII := Lib.hid hI
  clear hw HP hI
  by_cases h0 : l.length = 0
  · obtain ⟨ad, cap, rfl⟩ := hs.form
    have hn2 : l = [] := List.length_eq_zero_iff.1 h0
    subst hn2
    show Calls Try.prog 88 #[.slice ad 0 cap, _] w fun e w' => e = .returned (.int .i64 (-1)) ∧ Below w.heap.size w w'
    go_enter Try.func88, Try.ntmps88
    go_wp2
    refine wp_loop_rounds 1 ?_
    rw [rounds_succ]
    go_wp2
    go_ret
    exact ⟨rfl, Below.refl _ _⟩
  · obtain ⟨g, off, cap, rfl, hc⟩ := hs.get h0
    have hl := hs.2
    obtain ⟨n, hnn⟩ : ∃ n, n = l.length := ⟨_, rfl⟩
    obtain ⟨Z, hZ⟩ : ∃ Z, idxP p 0 l = Z := ⟨_, rfl⟩
    have HN := Lib.hid hnn
    have HZ := Lib.hid hZ
    have HC := Lib.hid hc
    rw [← hnn] at h0 hl ⊢
    rw [hZ]
    clear hc hs hnn hZ
    go_enter Try.func88, Try.ntmps88
    go_wp2
    go_loopw [8] (fun i wr => ∃ k : Nat, k ≤ n ∧ i = .int .i64 k ∧ Hid (idxP p k (l.drop k) = Z) ∧ Below w.heap.size w wr) (fun i _ => n - (intOf i).toNat)
    case atStart => exact ⟨0, Nat.zero_le _, rfl, Lib.hid HZ.out, Below.refl _ _⟩
    case round =>
      obtain ⟨k, hk, rfl, HI, hL⟩ := hrel
      by_cases hlt : k < n
      · obtain ⟨x, ht⟩ : ∃ t, l[k]? = some t := ⟨_, List.getElem?_eq_getElem (by rw [← HN.out]; exact hlt)⟩
        have hst := idxP_step p l k _ ht
        rw [HI.out] at hst
        obtain ⟨z0, z1, z2⟩ := HC.out k x ht
        have d0 := Go.Proofs.Ytoadihclmnjjnaa.Sl.cell_kept z0 hL
        have d1 := Go.Proofs.Ytoadihclmnjjnaa.Sl.cell_kept z1 hL
        have d2 := Go.Proofs.Ytoadihclmnjjnaa.Sl.cell_kept z2 hL
        have HB := HP0.out wr x (List.mem_of_getElem? ht) (HII.out _ _ HI0.out hL)
        have k0 : (0 : Int) ≤ (k : Int) := by omega
        have k1 : (k : Int) < (n : Int) := by omega
        clear ht z0 z1 z2
        generalize p x = px at HB hst
        obtain ⟨xi, xj, xs⟩ := x
        dsimp only at HB d0 d1 d2
        cases px
        · have HS2 : Hid (idxP p (k + 1) (l.drop (k + 1)) = Z) := Lib.hid (by rw [if_neg (by simp)] at hst; exact hst.symm)
          clear hst
          go_wp2_with (with_reducible refine HB.mono ?_; rintro e w1 ⟨rfl, hb⟩; have hL2 := bstep hL hb; clear hb)
          go_roundw
          case rel => exact ⟨k + 1, by omega, by go_num, HS2, hL2⟩
          case measure => simp [intOf]; omega
        · have HS2 : Hid (Z = k) := Lib.hid (by rw [if_pos rfl] at hst; exact hst)
          clear hst
          go_wp2_with (with_reducible refine HB.mono ?_; rintro e w1 ⟨rfl, hb⟩; have hL2 := bstep hL hb; clear hb)
          go_ret
          exact ⟨by rw [HS2.out]; rfl, hL2⟩
      · go_wp2
        go_ret
        exact ⟨by show Ending.returned (.int .i64 (-1)) = _; rw [← HI.out, List.drop_of_length_le (by rw [← HN.out]; omega)]; rfl, hL⟩
theorem contains_rel (N : Nat) (HE : ∀ (args : Array Value) (w : World), (callFunc N args).run Try.prog w = .ok (.enter N args) w) (cps : Array Value) (p : Rl → Bool) (I : World → Prop) (hI : ∀ W W', I W → Below W.heap.size W W' → I W')
    (l : List Rl) (HP : ∀ (W : World) (r : Rl), r ∈ l → I W → Calls Try.prog N (#[.agg #[.int .i64 r.i, .int .i64 r.j, .int .i64 r.s]] ++ cps) W fun e w' => e = .returned (.bool (p r)) ∧ Below W.heap.size W w')
    (s : Value) (w : World) (hs : Rs w s l) (hw : I w) :
    Calls Try.prog 59 #[s, .func (.func N) #[] cps] w fun e w' => e = .returned (.bool (l.any p)) ∧ Below w.heap.size w w' := by
  have HX := idx_rel N HE cps p I hI l HP s w hs hw
  have HZ := Lib.hid (idxP_pos p l)
  obtain ⟨ad, cap, rfl⟩ := hs.form
  clear hs hw HP HE hI
  generalize l.length = n at *
  generalize l.any p = Z at *
  generalize idxP p 0 l = x at *
  go_enter Try.func59, Try.ntmps59
  go_wp2_with (go_at_call 88; (with_reducible refine HX.mono ?_); rintro e w1 ⟨rfl, hb1⟩)
  go_ret
  exact ⟨by show Ending.returned (.bool (decide (0 ≤ x))) = _; rw [HZ.out], hb1⟩
theorem nvalid_any (n : Int) (l : List Rl) (s : Value) (w : World) (hs : Rs w s l) : Calls Try.prog 19 #[.int .i64 n, s] w fun e w' => e = .returned (.bool (vldN n l)) ∧ Below w.heap.size w w' := by
  have HX := fun (W : World) (h : Below w.heap.size w W) (hc : W.cell? ⟨w.heap.size, 0, none⟩ = some (.int .i64 n)) => contains_rel 60 enter_valid1 #[.pointer (some ⟨w.heap.size, 0, none⟩)] (badR n) (fun W => W.cell? ⟨w.heap.size, 0, none⟩ = some (.int .i64 n)) (fun W W' h hb => Go.Proofs.Ytoadihclmnjjnaa.Sl.cell_kept h hb) l (fun W r _ hw => valid1_any n w.heap.size r W hw) s W (hs.below h) hc
  obtain ⟨ad, cap, rfl⟩ := hs.form
  have hl := hs.2
  unfold vldN
  generalize l.any (badR n) = Z at *
  generalize l.length = m at *
  clear hs
  by_cases h1 : 1 ≤ n
  · by_cases h2 : n ≤ 8
    · by_cases h3 : m ≤ 200
      · have h3' : (m : Int) ≤ 200 := by omega
        go_enter Try.func19, Try.ntmps19
        go_wp2_with (go_at_call 59; ((with_reducible refine (HX _ (by go_grown) (by simp)).mono ?_); rintro e w1 ⟨rfl, hb⟩; (first | (replace hL := bstep hL hb) | (have hL := hb)); clear hb; replace hc := bcell hL))
        go_ret
        exact ⟨by simp [h1, h2, h3], (by have hB := bstep (w := w) (by go_grown) hL; have hs := hB.size; go_grown)⟩
      · have h3' : ¬ (m : Int) ≤ 200 := by omega
        go_enter Try.func19, Try.ntmps19
        go_wp2
        go_ret
        exact ⟨by simp <;> omega, by go_grown⟩
    · go_enter Try.func19, Try.ntmps19
      go_wp2
      go_ret
      exact ⟨by simp <;> omega, by go_grown⟩
  · go_enter Try.func19, Try.ntmps19
    go_wp2
    go_ret
    exact ⟨by simp <;> omega, by go_grown⟩
theorem any_step {α : Type} (p : α → Bool) (l : List α) (k : Nat) (x : α) (h : l[k]? = some x) : (l.drop k).any p = (p x || (l.drop (k + 1)).any p) := by
  have hk : k < l.length := (List.getElem?_eq_some_iff.1 h).1
  rw [List.drop_eq_getElem_cons hk, List.any_cons, (List.getElem?_eq_some_iff.1 h).2]
set_option maxHeartbeats 4000000 in
theorem rvalid_any (n : Int) (l : List Rl) (s : Value) (w : World) (hs : Rs w s l) : Calls Try.prog 15 #[.int .i64 n, s] w fun e w' => e = .returned (.bool (vldN n l)) ∧ w = w' := by
  by_cases h1 : 1 ≤ n
  · by_cases h2 : n ≤ 8
    · by_cases h3 : l.length ≤ 200
      · by_cases h0 : l.length = 0
        · obtain ⟨ad, cap, rfl⟩ := hs.form
          obtain rfl := List.length_eq_zero_iff.1 h0
          clear hs
          have e0 : vldN n [] = true := by unfold vldN; simp [h1, h2]
          rw [e0]
          show Calls Try.prog 15 #[.int .i64 n, .slice ad 0 cap] w _
          have g1 : decide (n < 1) = false := decide_eq_false (by omega)
          have g2 : decide (8 < n) = false := decide_eq_false (by omega)
          clear h1 h2 h3 e0
          go_enter Try.func15, Try.ntmps15
          go_wp2
          refine wp_loop_rounds 1 ?_
          rw [rounds_succ]
          go_wp2
          go_ret
          exact ⟨rfl, rfl⟩
        · obtain ⟨g, off, cap, rfl, hc⟩ := hs.get h0
          have e0 : vldN n l = !l.any (badR n) := by unfold vldN; simp [h1, h2, h3]
          rw [e0]
          obtain ⟨m, hm⟩ : ∃ m, m = l.length := ⟨_, rfl⟩
          obtain ⟨Z, hZ⟩ : ∃ Z, l.any (badR n) = Z := ⟨_, rfl⟩
          have HM := Lib.hid hm
          have HZ := Lib.hid hZ
          have HC := Lib.hid hc
          rw [← hm] at h3 h0 ⊢
          rw [hZ]
          have g1 : decide (n < 1) = false := decide_eq_false (by omega)
          have g2 : decide (8 < n) = false := decide_eq_false (by omega)
          have g3 : decide (200 < (m : Int)) = false := decide_eq_false (by omega)
          have H3 := Lib.hid h3
          clear hc hs hm hZ e0 h1 h2 h3
          go_enter Try.func15, Try.ntmps15
          go_wp2
          go_loop [5] (fun i => ∃ k : Nat, k ≤ m ∧ i = .int .i64 k ∧ Hid ((l.drop k).any (badR n) = Z)) (fun i => m - (intOf i).toNat)
          case atStart => exact ⟨0, Nat.zero_le _, rfl, Lib.hid HZ.out⟩
          case round =>
            obtain ⟨k, hk, rfl, HI⟩ := hrel
            by_cases hlt : k < m
            · obtain ⟨x, ht⟩ : ∃ t, l[k]? = some t := ⟨_, List.getElem?_eq_getElem (by rw [← HM.out]; exact hlt)⟩
              have hst := any_step (badR n) l k _ ht
              rw [HI.out] at hst
              have HS := Lib.hid hst
              obtain ⟨z0, z1, z2⟩ := HC.out k x ht
              have k0 : (0 : Int) ≤ (k : Int) := by omega
              have k1 : (k : Int) < (m : Int) := by omega
              have k2 : (k : Int) < 200 := by have := H3.out; omega
              obtain ⟨xi, xj, xs⟩ := x
              dsimp only at z0 z1 z2
              clear ht hst
              have hbad : ∀ b, badR n ⟨xi, xj, xs⟩ = b → Z = (b || (l.drop (k + 1)).any (badR n)) := fun b hb => by rw [HS.out, hb]
              by_cases i1 : xi < 0
              · have HB := Lib.hid (hbad true (by unfold badR; simp [i1]))
                clear hbad
                go_wp2
                go_ret
                exact ⟨by rw [HB.out]; rfl, rfl⟩
              · by_cases i2 : n ≤ xi
                · have HB := Lib.hid (hbad true (by unfold badR; simp [i2]))
                  clear hbad
                  go_wp2
                  go_ret
                  exact ⟨by rw [HB.out]; rfl, rfl⟩
                · by_cases i3 : xj < 0
                  · have HB := Lib.hid (hbad true (by unfold badR; simp [i3]))
                    clear hbad
                    go_wp2
                    go_ret
                    exact ⟨by rw [HB.out]; rfl, rfl⟩
                  · by_cases i4 : n ≤ xj
                    · have HB := Lib.hid (hbad true (by unfold badR; simp [i4]))
                      clear hbad
                      go_wp2
                      go_ret
                      exact ⟨by rw [HB.out]; rfl, rfl⟩
                    · have HB := Lib.hid (hbad (!isSetB xs) (by unfold badR; simp [i1, i2, i3, i4]))
                      clear hbad HS
                      have HIS := fun W => rIsSet_any xs W
                      generalize isSetB xs = q at HB HIS
                      cases q
                      · go_wp2_with (go_at_call 56; ((with_reducible refine (HIS _).mono ?_); rintro e w1 ⟨rfl, rfl⟩))
                        go_ret
                        exact ⟨by rw [HB.out]; rfl, rfl⟩
                      · have HS2 : Hid ((l.drop (k + 1)).any (badR n) = Z) := Lib.hid (by have := HB.out; simpa using this.symm)
                        clear HB
                        go_wp2_with (go_at_call 56; ((with_reducible refine (HIS _).mono ?_); rintro e w1 ⟨rfl, rfl⟩))
                        go_round
                        case rel => exact ⟨k + 1, by omega, by go_num, HS2⟩
                        case measure => simp [intOf]; omega
            · have HB : Hid (Z = false) := Lib.hid (by rw [← HI.out, List.drop_of_length_le (by rw [← HM.out]; omega)]; rfl)
              go_wp2
              go_ret
              exact ⟨by rw [HB.out]; rfl, rfl⟩
      · obtain ⟨ad, cap, rfl⟩ := hs.form
        have e0 : vldN n l = false := by unfold vldN; simp [h3]
        rw [e0]
        have g1 : decide (n < 1) = false := decide_eq_false (by omega)
        have g2 : decide (8 < n) = false := decide_eq_false (by omega)
        have g3 : decide (200 < (l.length : Int)) = true := decide_eq_true (by omega)
        generalize l.length = m at *
        clear hs e0 h1 h2 h3
        go_enter Try.func15, Try.ntmps15
        go_wp2
        go_ret
        exact ⟨rfl, rfl⟩
    · obtain ⟨ad, cap, rfl⟩ := hs.form
      have e0 : vldN n l = false := by unfold vldN; simp [h2]
      rw [e0]
      have g1 : decide (n < 1) = false := decide_eq_false (by omega)
      have g2 : decide (8 < n) = true := decide_eq_true (by omega)
      clear hs e0 h1 h2
      go_enter Try.func15, Try.ntmps15
      go_wp2
      go_ret
      exact ⟨rfl, rfl⟩
  · obtain ⟨ad, cap, rfl⟩ := hs.form
    have e0 : vldN n l = false := by unfold vldN; simp [h1]
    rw [e0]
    have g1 : decide (n < 1) = true := decide_eq_true (by omega)
    clear hs e0 h1
    go_enter Try.func15, Try.ntmps15
    go_wp2
    go_ret
    exact ⟨rfl, rfl⟩
/-- What great returns: too much for the statement, but valid by its size. -/
def grN (n : Int) (k : Nat) : Bool := (decide (12 < k) && decide (k ≤ 200)) || (decide (5 < n) && decide (n ≤ 8))
theorem great_any (n : Int) (ad : Option Addr) (k c : Nat) (w : World) : Calls Try.prog 13 #[.int .i64 n, .slice ad k c] w fun e w' => e = .returned (.bool (grN n k)) ∧ w = w' := by
  unfold grN
  by_cases h1 : 12 < k
  · have h1' : (12 : Int) < (k : Int) := by omega
    by_cases h2 : k ≤ 200
    · have h2' : (k : Int) ≤ 200 := by omega
      go_enter Try.func13, Try.ntmps13
      go_wp2
      go_ret
      exact ⟨by simp [h1, h2] <;> omega, rfl⟩
    · have h2' : ¬ (k : Int) ≤ 200 := by omega
      by_cases h3 : 5 < n
      · go_enter Try.func13, Try.ntmps13
        go_wp2
        go_ret
        exact ⟨by simp [h2, h3] <;> omega, rfl⟩
      · go_enter Try.func13, Try.ntmps13
        go_wp2
        go_ret
        exact ⟨by simp [h2, h3] <;> omega, rfl⟩
  · have h1' : ¬ (12 : Int) < (k : Int) := by omega
    by_cases h3 : 5 < n
    · go_enter Try.func13, Try.ntmps13
      go_wp2
      go_ret
      exact ⟨by simp [h1, h3] <;> omega, rfl⟩
    · go_enter Try.func13, Try.ntmps13
      go_wp2
      go_ret
      exact ⟨by simp [h1, h3] <;> omega, rfl⟩
end Go.Proofs.Ytoadihclmnjjnaa.Nw
