/-
  Arguments that are slices of rows of cells, opened (plain lemmas; nothing of the program).
-/
import Derived.Test.YtokbipfkpojflaaDoorSl
import Derived.Deep.Slices
import Derived.Deep.Strs
import Derived.OpenShut
set_option linter.unusedVariables false
namespace Go.Proofs.YtokbipfkpojflaaDoor.Opn
open Go Go.RowKit Go.Deep Go.Proofs.YtokbipfkpojflaaDoor.Sl

section
variable {H : Type} {enc : TypeId × Value → H} {P : Program} {w : World} {base : Nat} {spare : Nat → Bool} {held : Bool}

/-- A slice, opened at every element: the element's cells, and that they can be read. -/
theorem open_rows {t e : TypeId} {fuel : Nat} {cs : List Value} {x : DataW H × List MemPlace} (ht : P.underlying t = some (.slice e)) (h : DataW.trod enc P w base spare held fuel t cs = some x) :
    ∃ (ad : Option Addr) (len cap n : Nat) (C : Nat → List Value), cs = [.slice ad len cap] ∧ len ≤ cap ∧ cap ≤ maxLen ∧
      (len ≠ 0 → P.cellsOf e ≠ 0 → ∃ g off, ad = some ⟨g, off, none⟩ ∧ ∀ i, i < len → ∀ j u, (C i)[j]? = some u → w.cell? ⟨g, off + (i * P.cellsOf e + j), none⟩ = some u) ∧
      ∀ i, i < len → (C i).length = P.cellsOf e ∧ ∃ y, DataW.trod enc P w base spare held n e (C i) = some y := by
  rcases open_slice ht h with ⟨rfl, _⟩ | ⟨a, len, cap, m, n, D, Pl, rfl, hb, hl, hm, hmm, _, hx⟩
  · exact ⟨none, 0, 0, 0, fun _ => [], rfl, Nat.le_refl _, by decide, fun h => absurd rfl h, fun i hi => by omega⟩
  · have hlm : len ≤ m := by rw [hmm]; split <;> omega
    obtain ⟨C, hC⟩ := choose_lt (α := List Value) (p := fun i cs' => w.cells? base (a.add (i * P.cellsOf e)) (P.cellsOf e) = some cs' ∧ ∃ y, DataW.trod enc P w base spare held n e cs' = some y) (fun i hi => by
      obtain ⟨cs', h1, h2⟩ := hx i hi
      exact ⟨cs', h1, _, h2⟩)
    refine ⟨some a, len, cap, n, C, rfl, hl, hm, fun h0 hk => ?_, fun i hi => ?_⟩
    · obtain ⟨b, off, spot⟩ := a
      have hc0 := (hC 0 (by omega)).1
      obtain ⟨_, hlen, hcell⟩ := World.cells?_some hc0
      have hfirst := hcell 0 (by omega)
      rw [add_add] at hfirst
      obtain ⟨v, hv⟩ : ∃ v, (C 0)[0]? = some v := ⟨_, List.getElem?_eq_getElem (by omega)⟩
      have hspot : spot = none := by
        simpa [Addr.add] using World.cell?_spot (hfirst.trans hv)
      subst hspot
      refine ⟨b, off, rfl, fun i hi j u hu => ?_⟩
      obtain ⟨_, hlen, hcell⟩ := World.cells?_some (hC i (by omega)).1
      have hj : j < P.cellsOf e := by rw [← hlen]; exact (List.getElem?_eq_some_iff.1 hu).1
      have := hcell j hj
      rw [add_add, Go.WideShapes.add_plain] at this
      rw [this]; exact hu
    · obtain ⟨_, hlen, _⟩ := World.cells?_some (hC i (by omega)).1
      exact ⟨hlen, (hC i (by omega)).2⟩

/-- Rows laid end to end. -/
theorem get_rows : ∀ (L : List (List Value)) (k : Nat), (∀ l ∈ L, l.length = k) → ∀ (m : Nat) (u : Value), L.flatten[m]? = some u → ∃ i l j, L[i]? = some l ∧ l[j]? = some u ∧ m = i * k + j
  | [], k, _, m, u, h => by simp at h
  | r :: L, k, hk, m, u, h => by
    rw [List.flatten_cons] at h
    have hr : r.length = k := hk r (by simp)
    by_cases hm : m < r.length
    · rw [List.getElem?_append_left hm] at h
      exact ⟨0, r, m, rfl, h, by omega⟩
    · rw [List.getElem?_append_right (by omega)] at h
      obtain ⟨i, l, j, h1, h2, h3⟩ := get_rows L k (fun l hl => hk l (by simp [hl])) _ u h
      refine ⟨i + 1, l, j, by simpa using h1, h2, ?_⟩
      have : (i + 1) * k = i * k + k := Nat.succ_mul i k
      omega
/-- .. as a slice that can be read. -/
theorem sl_rows {ad : Option Addr} {len cap k : Nat} {C : Nat → List Value} (hk : k ≠ 0) (hc : len ≠ 0 → ∃ g off, ad = some ⟨g, off, none⟩ ∧ ∀ i, i < len → ∀ j u, (C i)[j]? = some u → w.cell? ⟨g, off + (i * k + j), none⟩ = some u)
    (L : List (List Value)) (hL : L.length = len) (hi : ∀ i l, L[i]? = some l → C i = l) (hlen : ∀ l ∈ L, l.length = k) : Sl w (.slice ad len cap) len k L.flatten := by
  refine ⟨?_, ad, cap, rfl, fun h0 => ?_⟩
  · rw [List.length_flatten]
    have : ∀ (M : List (List Value)), (∀ l ∈ M, l.length = k) → (M.map List.length).sum = M.length * k := by
      intro M
      induction M with
      | nil => intro _; simp
      | cons r M ih =>
        intro h
        rw [List.map_cons, List.sum_cons, ih (fun l hl => h l (by simp [hl])), h r (by simp), List.length_cons, Nat.succ_mul]; omega
    rw [this L hlen, hL]
  · obtain ⟨g, off, rfl, hcell⟩ := hc h0
    refine ⟨g, off, rfl, fun m u hu => ?_⟩
    obtain ⟨i, l, j, h1, h2, h3⟩ := get_rows L k hlen m u hu
    have hil : i < len := by rw [← hL]; exact (List.getElem?_eq_some_iff.1 h1).1
    rw [h3]
    exact hcell i hil j u (by rw [hi i l h1]; exact h2)
theorem trod_cell {t : TypeId} {n : Nat} {c : Value} {y : DataW H × List MemPlace} {k : IntKind} (ht : P.underlying t = some (.int k)) (h : DataW.trod enc P w base spare held n t [c] = some y) : ∃ z, c = .int k z ∧ (Lit.int k z).wf = true := by
  obtain ⟨z, e0, _, hz⟩ := DataW.trod_int ht h
  simp at e0
  exact ⟨z, e0, hz⟩
theorem trod_str {t : TypeId} {n : Nat} {c : Value} {y : DataW H × List MemPlace} (ht : P.underlying t = some .string) (h : DataW.trod enc P w base spare held n t [c] = some y) : ∃ s, c = .string s ∧ s.size ≤ maxLen := by
  obtain ⟨s, e0, _, hz⟩ := DataW.trod_string ht h
  simp at e0
  exact ⟨s, e0, hz⟩
end
end Go.Proofs.YtokbipfkpojflaaDoor.Opn
