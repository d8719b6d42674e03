/-
  Values and their order (plain lemmas; nothing of the program).
-/
import Derived.WalkKit
import Derived.ProofKit
namespace Go.Proofs.YtokbipfkpojflaaDoor.Va
open Go Go.RowKit

/-- A comparison that is a total order. -/
structure Cmp {α : Type} (f : α → α → Int) : Prop where
  rng : ∀ a b, f a b = -1 ∨ f a b = 0 ∨ f a b = 1
  anti : ∀ a b, f b a = - f a b
  eq : ∀ a b, f a b = 0 ↔ a = b
  trans : ∀ a b c, f a b ≤ 0 → f b c ≤ 0 → f a c ≤ 0
theorem Cmp.lt {α : Type} {f : α → α → Int} (h : Cmp f) {a b c : α} (h1 : f a b ≤ 0) (h2 : f b c ≤ 0) (h3 : f a b < 0 ∨ f b c < 0) : f a c < 0 := by
  have h4 := h.trans a b c h1 h2
  rcases Int.lt_or_eq_of_le h4 with h5 | h5
  · exact h5
  · have e := (h.eq a c).1 h5
    subst e
    have := h.anti a b
    omega
theorem Cmp.total {α : Type} {f : α → α → Int} (h : Cmp f) (a b c : α) : f a b > 0 ∨ f b c > 0 ∨ (f a c ≤ 0 ∧ (f a c < 0 ∨ (f a b = 0 ∧ f b c = 0))) := by
  by_cases h1 : f a b > 0
  · exact .inl h1
  by_cases h2 : f b c > 0
  · exact .inr (.inl h2)
  refine .inr (.inr ⟨h.trans a b c (by omega) (by omega), ?_⟩)
  by_cases h3 : f a b = 0 ∧ f b c = 0
  · exact .inr h3
  · exact .inl (h.lt (b := b) (by omega) (by omega) (by omega))
def cmpI (a b : Int) : Int := if a < b then -1 else if b < a then 1 else 0
theorem cmpI_cmp : Cmp cmpI := by
  constructor
  · intro a b; unfold cmpI; split <;> (try split) <;> simp
  · intro a b; unfold cmpI; split <;> split <;> (try split) <;> omega
  · intro a b; unfold cmpI; split <;> (try split) <;> omega
  · intro a b c; unfold cmpI; split <;> split <;> (try split) <;> (try split) <;> (try split) <;> (try split) <;> omega
/-- Lists, element by element. -/
def lexL {α : Type} (f : α → α → Int) : List α → List α → Int
  | [], [] => 0
  | [], _ :: _ => -1
  | _ :: _, [] => 1
  | a :: x, b :: y => if f a b = 0 then lexL f x y else f a b
theorem lexL_rng {α : Type} {f : α → α → Int} (h : Cmp f) : ∀ x y, lexL f x y = -1 ∨ lexL f x y = 0 ∨ lexL f x y = 1
  | [], [] => by simp [lexL]
  | [], _ :: _ => by simp [lexL]
  | _ :: _, [] => by simp [lexL]
  | a :: x, b :: y => by
    unfold lexL
    split
    · exact lexL_rng h x y
    · exact h.rng a b
theorem lexL_anti {α : Type} {f : α → α → Int} (h : Cmp f) : ∀ x y, lexL f y x = - lexL f x y
  | [], [] => rfl
  | [], _ :: _ => rfl
  | _ :: _, [] => rfl
  | a :: x, b :: y => by
    unfold lexL
    have e := h.anti a b
    rw [e]
    by_cases h0 : f a b = 0
    · rw [if_pos (by omega), if_pos h0]; exact lexL_anti h x y
    · rw [if_neg (by omega), if_neg h0]
theorem lexL_eq {α : Type} {f : α → α → Int} (h : Cmp f) : ∀ x y, lexL f x y = 0 ↔ x = y
  | [], [] => by simp [lexL]
  | [], _ :: _ => by simp [lexL]
  | _ :: _, [] => by simp [lexL]
  | a :: x, b :: y => by
    unfold lexL
    by_cases h0 : f a b = 0
    · rw [if_pos h0, lexL_eq h x y]
      have := (h.eq a b).1 h0
      subst this
      simp
    · rw [if_neg h0]
      exact ⟨fun h1 => absurd h1 h0, fun e => by
        simp only [List.cons.injEq] at e
        exact absurd ((h.eq a b).2 e.1) h0⟩
theorem lexL_trans {α : Type} {f : α → α → Int} (h : Cmp f) : ∀ x y z, lexL f x y ≤ 0 → lexL f y z ≤ 0 → lexL f x z ≤ 0
  | [], _, [], _, _ => by simp [lexL]
  | [], _, _ :: _, _, _ => by simp [lexL]
  | _ :: _, [], _, h1, _ => by simp [lexL] at h1
  | _ :: _, _ :: _, [], _, h2 => by simp [lexL] at h2
  | a :: x, b :: y, c :: z, h1, h2 => by
    unfold lexL at h1 h2 ⊢
    by_cases e1 : f a b = 0
    · have := (h.eq a b).1 e1
      subst this
      by_cases e2 : f a c = 0
      · rw [if_pos e1] at h1; rw [if_pos e2] at h2; rw [if_pos e2]
        exact lexL_trans h x y z h1 h2
      · rw [if_neg e2] at h2; rw [if_neg e2]; exact h2
    · rw [if_neg e1] at h1
      by_cases e2 : f b c = 0
      · have := (h.eq b c).1 e2
        subst this
        rw [if_neg e1]; exact h1
      · rw [if_neg e2] at h2
        have h3 := h.lt h1 h2 (.inl (by omega))
        rw [if_neg (by omega)]; omega
theorem lexL_cmp {α : Type} {f : α → α → Int} (h : Cmp f) : Cmp (lexL f) := ⟨lexL_rng h, lexL_anti h, lexL_eq h, lexL_trans h⟩
def cmpB (a b : UInt8) : Int := cmpI a.toNat b.toNat
theorem cmpB_cmp : Cmp cmpB := by
  refine ⟨fun a b => cmpI_cmp.rng _ _, fun a b => cmpI_cmp.anti _ _, fun a b => ?_, fun a b c => cmpI_cmp.trans _ _ _⟩
  unfold cmpB
  rw [cmpI_cmp.eq]
  exact ⟨fun e => UInt8.toNat_inj.1 (by omega), fun e => by rw [e]⟩
def cmpL : List UInt8 → List UInt8 → Int := lexL cmpB
theorem cmpL_cmp : Cmp cmpL := lexL_cmp cmpB_cmp

/-- A value: its kind, number and text. -/
abbrev V3 := Int × Int × ByteArray
def or3 (x y z : Int) : Int := if x = 0 then (if y = 0 then z else y) else x
def ordV (a b : V3) : Int := or3 (cmpI a.1 b.1) (cmpI a.2.1 b.2.1) (cmpL a.2.2.data.toList b.2.2.data.toList)
theorem bytes_ext (a b : ByteArray) : a.data.toList = b.data.toList ↔ a = b := ⟨fun h => ByteArray.ext (Array.toList_inj.1 h), fun h => by rw [h]⟩
theorem or3_cmp {α β γ : Type} {f : α → α → Int} {g : β → β → Int} {h : γ → γ → Int} (hf : Cmp f) (hg : Cmp g) (hh : Cmp h) : Cmp fun (a b : α × β × γ) => or3 (f a.1 b.1) (g a.2.1 b.2.1) (h a.2.2 b.2.2) := by
  constructor
  · rintro ⟨a, b, c⟩ ⟨a', b', c'⟩
    show or3 (f a a') (g b b') (h c c') = _ ∨ _ ∨ _
    unfold or3
    split
    · split
      · exact hh.rng _ _
      · exact hg.rng _ _
    · exact hf.rng _ _
  · rintro ⟨a, b, c⟩ ⟨a', b', c'⟩
    show or3 (f a' a) (g b' b) (h c' c) = - or3 (f a a') (g b b') (h c c')
    rw [hf.anti a a', hg.anti b b', hh.anti c c']
    unfold or3
    by_cases h1 : f a a' = 0
    · rw [if_pos (by omega), if_pos h1]
      by_cases h2 : g b b' = 0
      · rw [if_pos (by omega), if_pos h2]
      · rw [if_neg (by omega), if_neg h2]
    · rw [if_neg (by omega), if_neg h1]
  · rintro ⟨a, b, c⟩ ⟨a', b', c'⟩
    show or3 (f a a') (g b b') (h c c') = 0 ↔ _
    unfold or3
    simp only [Prod.mk.injEq, ← hf.eq a a', ← hg.eq b b', ← hh.eq c c']
    by_cases h1 : f a a' = 0
    · rw [if_pos h1]
      by_cases h2 : g b b' = 0
      · rw [if_pos h2]; simp [h1, h2]
      · rw [if_neg h2]; simp [h1, h2]
    · rw [if_neg h1]; simp [h1]
  · rintro ⟨a, b, c⟩ ⟨a', b', c'⟩ ⟨a2, b2, c2⟩
    show or3 (f a a') (g b b') (h c c') ≤ 0 → or3 (f a' a2) (g b' b2) (h c' c2) ≤ 0 → or3 (f a a2) (g b b2) (h c c2) ≤ 0
    unfold or3
    intro q1 q2
    by_cases e1 : f a a' = 0
    · have := (hf.eq a a').1 e1
      subst this
      rw [if_pos e1] at q1
      by_cases e2 : f a a2 = 0
      · rw [if_pos e2] at q2 ⊢
        by_cases d1 : g b b' = 0
        · have := (hg.eq b b').1 d1
          subst this
          rw [if_pos d1] at q1
          by_cases d2 : g b b2 = 0
          · rw [if_pos d2] at q2 ⊢
            exact hh.trans c c' c2 q1 q2
          · rw [if_neg d2] at q2 ⊢; exact q2
        · rw [if_neg d1] at q1
          by_cases d2 : g b' b2 = 0
          · have := (hg.eq b' b2).1 d2
            subst this
            rw [if_neg d1]; exact q1
          · rw [if_neg d2] at q2
            have := hg.lt q1 q2 (.inl (by omega))
            rw [if_neg (by omega)]; omega
      · rw [if_neg e2] at q2 ⊢; exact q2
    · rw [if_neg e1] at q1
      by_cases e2 : f a' a2 = 0
      · have := (hf.eq a' a2).1 e2
        subst this
        rw [if_neg e1]; exact q1
      · rw [if_neg e2] at q2
        have := hf.lt q1 q2 (.inl (by omega))
        rw [if_neg (by omega)]; omega
theorem cmpT_cmp : Cmp fun (a b : ByteArray) => cmpL a.data.toList b.data.toList := by
  refine ⟨fun a b => cmpL_cmp.rng _ _, fun a b => cmpL_cmp.anti _ _, fun a b => ?_, fun a b c => cmpL_cmp.trans _ _ _⟩
  rw [cmpL_cmp.eq, bytes_ext]
theorem ordV_cmp : Cmp ordV := or3_cmp cmpI_cmp cmpI_cmp cmpT_cmp
/-- The order of lists of values. -/
def ordL : List V3 → List V3 → Int := lexL ordV
theorem ordL_cmp : Cmp ordL := lexL_cmp ordV_cmp

/-- Which values are valid. -/
def txtB (s : ByteArray) : Bool := s.data.toList.all fun c => decide (32 ≤ c.toNat) && decide (c.toNat ≤ 126)
def validV (v : V3) : Bool :=
  if v.1 = 1 then decide (v.2.2.size = 0)
  else if v.1 = 2 then decide (v.2.1 = 0) && decide (v.2.2.size ≤ 30) && txtB v.2.2
  else if v.1 = 3 then decide (v.2.2.size = 0) && (decide (v.2.1 = 0) || decide (v.2.1 = 1))
  else if v.1 = 4 then decide (v.2.2.size = 0) && decide (-62135596800 ≤ v.2.1) && decide (v.2.1 ≤ 253402300800)
  else false
def allV (l : List V3) : Bool := l.all validV
/-- A list of values as cells. -/
def rowV (v : V3) : List Value := [.int .i64 v.1, .int .i64 v.2.1, .string v.2.2]
def flatV (l : List V3) : List Value := (l.map rowV).flatten
theorem flatV_len (l : List V3) : (flatV l).length = l.length * 3 := by
  unfold flatV
  induction l with
  | nil => rfl
  | cons v l ih => rw [List.map_cons, List.flatten_cons, List.length_append, ih, List.length_cons]; show 3 + _ = _; omega
theorem flatV_cons (v : V3) (l : List V3) : flatV (v :: l) = .int .i64 v.1 :: .int .i64 v.2.1 :: .string v.2.2 :: flatV l := rfl
theorem flatV_get : ∀ (l : List V3) (k : Nat) (v : V3), l[k]? = some v → (flatV l)[k * 3]? = some (.int .i64 v.1) ∧ (flatV l)[k * 3 + 1]? = some (.int .i64 v.2.1) ∧ (flatV l)[k * 3 + 2]? = some (.string v.2.2)
  | [], k, v, h => by simp at h
  | x :: l, 0, v, h => by
    simp only [List.getElem?_cons_zero, Option.some.injEq] at h
    subst h
    rw [flatV_cons]
    exact ⟨rfl, rfl, rfl⟩
  | x :: l, k + 1, v, h => by
    obtain ⟨a, b, c⟩ := flatV_get l k v (by simpa using h)
    rw [flatV_cons]
    refine ⟨?_, ?_, ?_⟩
    · rw [show (k + 1) * 3 = k * 3 + 1 + 1 + 1 by omega]; simpa using a
    · rw [show (k + 1) * 3 + 1 = k * 3 + 1 + 1 + 1 + 1 by omega]; simpa using b
    · rw [show (k + 1) * 3 + 2 = k * 3 + 2 + 1 + 1 + 1 by omega]; simpa using c
end Go.Proofs.YtokbipfkpojflaaDoor.Va
