/-
  Networks: which networks can be satisfied (the plain law), and the closure of Minimal (layer 46).
-/
import Derived.Test.YtoadihclmnjjnaaNwL
set_option linter.unusedSimpArgs false
set_option linter.unusedVariables false
set_option maxRecDepth 100000
namespace Go.Proofs.Ytoadihclmnjjnaa.Nw
open Go Go.RowKit Go.ChangeShapes Go.WideShapes Go.Proofs.Ytoadihclmnjjnaa.Sl Go.Proofs.Ytoadihclmnjjnaa.Al Go.Lib

/-- A scenario has a relation of this constraint. -/
def SatR (N : Mt) (r : Rl) : Prop := Sub (N r.i.toNat r.j.toNat) r.s.toNat
theorem pow_inj : ∀ r < 13, ∀ s < 13, 2 ^ r = 2 ^ s → r = s := of_decide_eq_true (by kernel_rfl)
theorem Sc.diag {n : Nat} {N : Mt} (h : Sc n N) {i : Nat} (hi : i < n) : N i i = 64 := by
  obtain ⟨r, hr, e⟩ := h.1 i i hi hi
  have h2 := h.2.2 i i hi hi
  rw [e, inv_pow r hr] at h2
  have : r = 12 - r := pow_inj r hr (12 - r) (by omega) h2
  rw [e, show r = 6 by omega]
theorem Sc.mat0 {n : Nat} {N : Mt} (h : Sc n N) : LeM n N mat0 := fun i j hi hj => by
  unfold Nw.mat0
  by_cases e : i = j
  · subst e; rw [if_pos rfl, h.diag hi]; exact Sub.refl _
  · rw [if_neg e]
    obtain ⟨r, hr, e2⟩ := h.1 i j hi hj
    rw [e2]
    intro c hc
    have : c = r := by
      by_cases e3 : c = r
      · exact e3
      · rw [Nat.testBit_two_pow_of_ne (Ne.symm e3)] at hc; cases hc
    subst this
    have hall : ∀ c < 13, (8191 : Nat).testBit c = true := of_decide_eq_true (by kernel_rfl)
    exact hall c hr
theorem le_step {n : Nat} {M N : Mt} (hN : Sc n N) {i j s : Nat} (hi : i < n) (hj : j < n) : LeM n N (stepM M ⟨i, j, s⟩) ↔ LeM n N M ∧ Sub (N i j) s := by
  rw [stepM_ok]
  have hA : ∀ x y, stepB M i j s x y = if x = j ∧ y = i then (if i = j then (M i j &&& s) &&& invN s else M j i &&& invN s) else if x = i ∧ y = j then M i j &&& s else M x y := fun x y => by
    unfold stepB stepA setM
    by_cases q1 : x = j ∧ y = i
    · rw [if_pos q1, if_pos q1]
      by_cases e : i = j
      · subst e; simp
      · rw [if_neg (by omega), if_neg e]
    · rw [if_neg q1, if_neg q1]
  constructor
  · intro h
    by_cases hz : i = j ∧ stepB M i j s i i = 0
    · rw [if_pos hz] at h
      exact (hN.nz i i hi hi (h i i hi hi).zero).elim
    · rw [if_neg hz] at h
      refine ⟨h.trans fun a b _ _ => stepB_sub _ _ _ _ _ _, ?_⟩
      have := h i j hi hj
      rw [hA] at this
      by_cases e : i = j
      · rw [if_pos ⟨e, e.symm⟩, if_pos e] at this
        exact (sub_and.1 (sub_and.1 this).1).2
      · rw [if_neg (by omega), if_pos ⟨rfl, rfl⟩] at this
        exact (sub_and.1 this).2
  · rintro ⟨h1, h2⟩
    have h3 : Sub (N j i) (invN s) := by rw [hN.2.2 i j hi hj]; exact inv_mono h2
    have hle : LeM n N (stepB M i j s) := fun a b ha hb => by
      rw [hA]
      by_cases q1 : a = j ∧ b = i
      · obtain ⟨rfl, rfl⟩ := q1
        rw [if_pos ⟨rfl, rfl⟩]
        split
        · rename_i e
          subst e
          exact sub_and.2 ⟨sub_and.2 ⟨h1 _ _ ha hb, h2⟩, h3⟩
        · exact sub_and.2 ⟨h1 _ _ ha hb, h3⟩
      · rw [if_neg q1]
        by_cases q2 : a = i ∧ b = j
        · obtain ⟨rfl, rfl⟩ := q2
          rw [if_pos ⟨rfl, rfl⟩]
          exact sub_and.2 ⟨h1 _ _ ha hb, h2⟩
        · rw [if_neg q2]; exact h1 a b ha hb
    rw [if_neg]
    · exact hle
    · rintro ⟨rfl, hz⟩
      have := hle i i hi hi
      rw [hz] at this
      exact hN.nz i i hi hi this.zero
theorem le_mat {n : Nat} {N : Mt} (hN : Sc n N) : ∀ (l : List Rl) (M : Mt), (∀ r ∈ l, OkR n r) → (LeM n N (l.foldl stepM M) ↔ LeM n N M ∧ ∀ r ∈ l, SatR N r)
  | [], M, _ => by simp
  | r :: l, M, hok => by
    rw [List.foldl_cons, le_mat hN l _ (fun r hr => hok r (by simp [hr]))]
    obtain ⟨i, j, s, rfl, hi, hj, hs⟩ := hok r (by simp)
    rw [le_step hN hi hj]
    unfold SatR
    simp only [List.mem_cons, forall_eq_or_imp, Int.toNat_natCast]
    exact ⟨fun ⟨⟨h1, h2⟩, h3⟩ => ⟨h1, h2, h3⟩, fun ⟨h1, h2, h3⟩ => ⟨⟨h1, h2⟩, h3⟩⟩
/-- The network can be satisfied. -/
def SatL (n : Nat) (l : List Rl) : Prop := ∃ N, Sc n N ∧ ∀ r ∈ l, SatR N r
theorem sat_iff {n : Nat} {l : List Rl} (hok : ∀ r ∈ l, OkR n r) : Sat n (matN l) ↔ SatL n l := by
  constructor
  · rintro ⟨N, h1, h2⟩
    exact ⟨N, h1, ((le_mat h1 l mat0 hok).1 h2).2⟩
  · rintro ⟨N, h1, h2⟩
    exact ⟨N, h1, (le_mat h1 l mat0 hok).2 ⟨h1.mat0, h2⟩⟩
theorem SatL.mono {n : Nat} {l l' : List Rl} (h : SatL n l) (hs : ∀ r ∈ l', r ∈ l) : SatL n l' := by
  obtain ⟨N, h1, h2⟩ := h
  exact ⟨N, h1, fun r hr => h2 r (hs r hr)⟩
/-- The constraints at these places. -/
def selL (l : List Rl) (ks : List Nat) : List Rl := ks.map fun k => l.getD k default
theorem selL_ok {n : Nat} {l : List Rl} (hok : ∀ r ∈ l, OkR n r) {ks : List Nat} (hk : ∀ k ∈ ks, k < l.length) : ∀ r ∈ selL l ks, OkR n r := by
  intro r hr
  obtain ⟨k, hk1, rfl⟩ := List.mem_map.1 hr
  have := hk k hk1
  rw [List.getD_eq_getElem?_getD, List.getElem?_eq_getElem this]
  exact hok _ (List.getElem_mem this)
theorem selL_mono {l : List Rl} {ks ks' : List Nat} (h : ∀ k ∈ ks', k ∈ ks) : ∀ r ∈ selL l ks', r ∈ selL l ks := by
  intro r hr
  obtain ⟨k, hk1, rfl⟩ := List.mem_map.1 hr
  exact List.mem_map.2 ⟨k, h k hk1, rfl⟩
theorem selL_all (l : List Rl) : selL l (List.range l.length) = l := by
  apply List.ext_getElem?
  intro i
  unfold selL
  rw [List.getElem?_map]
  by_cases h : i < l.length
  · rw [List.getElem?_range h, List.getElem?_eq_getElem h]
    simp [h]
  · rw [List.getElem?_eq_none (by simpa using h), List.getElem?_eq_none (by omega)]; rfl
end Go.Proofs.Ytoadihclmnjjnaa.Nw
