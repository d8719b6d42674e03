/-
  The laws' arguments opened: constraints, lists of constraints and of spans (layer 46).
-/
import Derived.Test.YtoadihclmnjjnaaNwA
import Derived.Test.YtoadihclmnjjnaaOpn
import Derived.ChangeArms
import Derived.Deep.Strs
set_option linter.unusedSimpArgs false
set_option linter.unusedVariables false
namespace Go.Proofs.Ytoadihclmnjjnaa.Nw
open Go Go.RowKit Go.ChangeShapes Go.WideShapes Go.Deep Go.Proofs.Ytoadihclmnjjnaa.Sl Go.Proofs.Ytoadihclmnjjnaa.Opn

section
variable {H : Type} {enc : TypeId × Value → H} {P : Program} {w : World} {base : Nat} {spare : Nat → Bool} {held : Bool}

theorem rows_n {t e : TypeId} {fuel k : Nat} {cs : List Value} {x : DataW H × List MemPlace} (ht : P.underlying t = some (.slice e)) (hk : P.cellsOf e = k) (hk0 : k ≠ 0) (h : DataW.trod enc P w base spare held fuel t cs = some x) :
    ∃ (ad : Option Addr) (len cap n : Nat) (C : Nat → List Value), cs = [.slice ad len cap] ∧ len ≤ cap ∧ cap ≤ maxLen ∧ n < fuel ∧
      (len ≠ 0 → ∃ g off, ad = some ⟨g, off, none⟩ ∧ ∀ i, i < len → ∀ j u, (C i)[j]? = some u → w.cell? ⟨g, off + (i * k + j), none⟩ = some u) ∧
      ∀ i, i < len → (C i).length = k ∧ ∃ y, DataW.trod enc P w base spare held n e (C i) = some y := by
  have hf : 0 < fuel := by
    cases fuel with
    | zero => simp [DataW.trod] at h
    | succ n => omega
  rcases DataW.trod_slice ht h with ⟨rfl, _⟩ | ⟨a, len, cap, elems, rest, n, hn, rfl, rfl, hb, hl, hm, hlen, hel, _, _⟩
  · exact ⟨none, 0, 0, 0, fun _ => [], rfl, Nat.le_refl _, by decide, hf, fun h => absurd rfl h, fun i hi => by omega⟩
  · have key : ∀ i, i < len → ∃ cs', w.cells? base (a.add (i * P.cellsOf e)) (P.cellsOf e) = some cs' ∧ ∃ y, DataW.trod enc P w base spare held n e cs' = some y := by
      intro i hi
      have h1 := hel i hi
      rw [List.getElem?_eq_getElem (by omega)] at h1
      obtain ⟨cs', h2, h3⟩ := Option.bind_eq_some_iff.1 h1
      exact ⟨cs', h2, _, h3⟩
    obtain ⟨C, hC⟩ := choose_lt (α := List Value) key
    refine ⟨some a, len, cap, n, C, rfl, hl, hm, by omega, fun h0 => ?_, fun i hi => ?_⟩
    · obtain ⟨b, off, spot⟩ := a
      have hc0 := (hC 0 (by omega)).1
      obtain ⟨_, hlen2, hcell⟩ := World.cells?_some hc0
      have hfirst := hcell 0 (by omega)
      rw [add_add] at hfirst
      obtain ⟨v, hv⟩ : ∃ v, (C 0)[0]? = some v := ⟨_, List.getElem?_eq_getElem (by omega)⟩
      have hspot : spot = none := by
        simpa [Addr.add] using World.cell?_spot (hfirst.trans hv)
      subst hspot
      refine ⟨b, off, rfl, fun i hi j u hu => ?_⟩
      obtain ⟨_, hlen3, hcell⟩ := World.cells?_some (hC i hi).1
      have hj : j < P.cellsOf e := by rw [← hlen3]; exact (List.getElem?_eq_some_iff.1 hu).1
      have := hcell j hj
      rw [add_add, Go.WideShapes.add_plain, hk] at this
      rw [this]; exact hu
    · obtain ⟨_, hlen2, _⟩ := World.cells?_some (hC i hi).1
      exact ⟨hlen2.trans hk, (hC i hi).2⟩
theorem open_l {α : Type} [Inhabited α] {t e : TypeId} {fuel k : Nat} {cs : List Value} {x : DataW H × List MemPlace} (row : α → List Value) (G : α → Prop) (ht : P.underlying t = some (.slice e)) (hk : P.cellsOf e = k) (hk0 : k ≠ 0)
    (elem : ∀ n cs y, n < fuel → DataW.trod enc P w base spare held n e cs = some y → ∃ u, cs = row u ∧ G u) (h : DataW.trod enc P w base spare held fuel t cs = some x) :
    ∃ (ad : Option Addr) (cap : Nat) (l : List α), cs = [.slice ad l.length cap] ∧ l.length ≤ cap ∧ cap ≤ maxLen ∧ Sl w (.slice ad l.length cap) l.length k (l.map row).flatten ∧ ∀ u ∈ l, G u := by
  obtain ⟨ad, len, cap, n, C, rfl, hl, hm, hn, hc, hi⟩ := rows_n ht hk hk0 h
  obtain ⟨f, hf⟩ := choose_lt (α := α) (n := len) (p := fun i u => C i = row u ∧ G u) (fun i hi2 => by
    obtain ⟨_, y, hy⟩ := hi i hi2
    exact elem n _ y hn hy)
  have hL : ((List.range len).map f).length = len := by simp
  have hget : ∀ i u, ((List.range len).map f)[i]? = some u → i < len ∧ u = f i := by
    intro i u hu
    rw [List.getElem?_map] at hu
    obtain ⟨a, ha, hb⟩ := Option.map_eq_some_iff.1 hu
    obtain ⟨h1, h2⟩ := List.getElem?_eq_some_iff.1 ha
    simp at h1 h2
    subst h2
    exact ⟨h1, hb.symm⟩
  refine ⟨ad, cap, (List.range len).map f, by rw [hL], by rw [hL]; exact hl, hm, ?_, ?_⟩
  · rw [hL]
    refine (sl_rows (C := C) hk0 hc (((List.range len).map f).map row) (by simp) (fun i l hil => ?_) (fun l hl2 => ?_))
    · rw [List.getElem?_map] at hil
      obtain ⟨a, ha, hb⟩ := Option.map_eq_some_iff.1 hil
      obtain ⟨h1, rfl⟩ := hget i a ha
      rw [(hf i h1).1, hb]
    · obtain ⟨a, ha, rfl⟩ := List.mem_map.1 hl2
      obtain ⟨i, hi2⟩ := List.mem_iff_getElem?.1 ha
      obtain ⟨h1, rfl⟩ := hget i a hi2
      rw [← (hf i h1).1]; exact (hi i h1).1
  · intro u hu
    obtain ⟨i, hi2⟩ := List.mem_iff_getElem?.1 hu
    obtain ⟨h1, rfl⟩ := hget i u hi2
    exact (hf i h1).2
end

theorem maxLen_is : maxLen = 9223372036854775807 := by decide
section
variable {H : Type} {enc : TypeId × Value → H} {w : World} {base : Nat} {spare : Nat → Bool} {held : Bool}

theorem ci : Try.prog.cellsOf 3 = 1 := by kernel_rfl
theorem crel : Try.prog.cellsOf 30 = 3 := by kernel_rfl
theorem len3 {cs : List Value} (h : cs.length = 3) : ∃ a b c, cs = [a, b, c] := by
  match cs, h with
  | [a, b, c], _ => exact ⟨a, b, c, rfl⟩
/-- Fits: the three numbers. -/
def fitI (z : Int) : Prop := -9223372036854775808 ≤ z ∧ z < 9223372036854775808
def FitR (r : Rl) : Prop := fitI r.i ∧ fitI r.j ∧ fitI r.s
theorem wf_fit {z : Int} (h : (Lit.int .i64 z).wf = true) : fitI z := by
  simp [Lit.wf, IntKind.min, IntKind.max, IntKind.signed, IntKind.bits] at h
  unfold fitI
  omega
theorem trod_rel {n : Nat} {cs : List Value} {y : DataW H × List MemPlace} (h : DataW.trod enc Try.prog w base spare held n 30 cs = some y) : ∃ r : Rl, cs = relC r ∧ FitR r := by
  obtain ⟨y0, y1, y2, n, _, hl, h0, h1, h2⟩ := trod_struct3 Try.underlying30 h
  rw [crel] at hl
  obtain ⟨a, b, c, rfl⟩ := len3 hl
  simp only [ci, List.drop_zero, List.take_succ_cons, List.take_zero, List.drop_succ_cons] at h0 h1 h2
  obtain ⟨z0, rfl, hz0⟩ := trod_cell Try.underlying3 h0
  obtain ⟨z1, rfl, hz1⟩ := trod_cell Try.underlying3 h1
  obtain ⟨z2, rfl, hz2⟩ := trod_cell Try.underlying3 h2
  exact ⟨⟨z0, z1, z2⟩, rfl, wf_fit hz0, wf_fit hz1, wf_fit hz2⟩
theorem cellsR_rows (l : List Rl) : cellsR l = (l.map relC).flatten := by
  unfold cellsR
  rw [List.flatMap_def]
set_option maxRecDepth 100000 in
theorem open_rels {v : Value} {d : DataW H} {p : List MemPlace} {r : Reach} {b0 : Nat} (hv : Value.okWide Try.prog w r b0 22 v) (h : DataW.Trod enc Try.prog w base spare held 22 v d p) :
    ∃ l : List Rl, Rs w v l ∧ ∀ u ∈ l, FitR u := by
  obtain ⟨a, len, cap, rfl⟩ := okWide_slice Try.underlying22 hv
  obtain ⟨fuel, hf⟩ := h
  obtain ⟨ad, cap2, l, hcs, hl, hm, hs, hg⟩ := open_l relC FitR Try.underlying22 crel (by decide) (fun n cs y _ h => trod_rel h) hf
  simp [Value.cells] at hcs
  obtain ⟨rfl, rfl, rfl⟩ := hcs
  rw [← cellsR_rows] at hs
  exact ⟨l, ⟨hs, Nat.le_trans hl (Nat.le_trans hm (Nat.le_of_eq maxLen_is))⟩, hg⟩
set_option maxRecDepth 100000 in
theorem open_relation {v : Value} {d : DataW H} {p : List MemPlace} {r : Reach} {b0 : Nat} (hv : Value.okWide Try.prog w r b0 30 v) (h : DataW.Trod enc Try.prog w base spare held 30 v d p) :
    ∃ u : Rl, v = .agg #[.int .i64 u.i, .int .i64 u.j, .int .i64 u.s] ∧ FitR u := by
  obtain ⟨cs, rfl, hsz⟩ := okWide_struct Try.underlying30 hv
  obtain ⟨fuel, hf⟩ := h
  obtain ⟨u, h1, h2⟩ := trod_rel hf
  refine ⟨u, ?_, h2⟩
  congr 1
  apply Array.ext'
  exact h1
end
end Go.Proofs.Ytoadihclmnjjnaa.Nw
