/-
  The laws' arguments opened: schemas, lists of schemas, values (layer 34).
-/
import Derived.Test.YtokbipfkpojflaaDoorScY
import Derived.Test.YtokbipfkpojflaaDoorOpn
import Derived.Test.YtokbipfkpojflaaDoorVaM
import Derived.ChangeArms
import Derived.Deep.Strs
set_option linter.unusedSimpArgs false
set_option linter.unusedVariables false
namespace Go.Proofs.YtokbipfkpojflaaDoor.Sc
open Go Go.RowKit Go.ChangeShapes Go.WideShapes Go.Deep Go.Proofs.YtokbipfkpojflaaDoor.Sl Go.Proofs.YtokbipfkpojflaaDoor.Opn
open Go.Proofs.YtokbipfkpojflaaDoor.Va (Cl flatC Cs)

section
variable {H : Type} {enc : TypeId × Value → H} {P : Program} {w : World} {base : Nat} {spare : Nat → Bool} {held : Bool}

theorem rows_n {t e : TypeId} {fuel k : Nat} {cs : List Value} {x : DataW H × List MemPlace} (ht : P.underlying t = some (.slice e)) (hk : P.cellsOf e = k) (hk0 : k ≠ 0) (h : DataW.trod enc P w base spare held fuel t cs = some x) :
    ∃ (ad : Option Addr) (len cap n : Nat) (C : Nat → List Value), cs = [.slice ad len cap] ∧ len ≤ cap ∧ cap ≤ maxLen ∧ n < fuel ∧
      (len ≠ 0 → ∃ g off, ad = some ⟨g, off, none⟩ ∧ ∀ i, i < len → ∀ j u, (C i)[j]? = some u → w.cell? ⟨g, off + (i * k + j), none⟩ = some u) ∧
      ∀ i, i < len → (C i).length = k ∧ ∃ y, DataW.trod enc P w base spare held n e (C i) = some y := by
  have hf : 0 < fuel := by
    cases fuel with
    | zero => simp [DataW.trod] at h
    | succ n => omega
  rcases DataW.trod_slice ht h with ⟨rfl, _⟩ | ⟨a, len, cap, elems, rest, n, hn, rfl, rfl, hb, hl, hm, hlen, hel, _, _⟩
  · exact ⟨none, 0, 0, 0, fun _ => [], rfl, Nat.le_refl _, by decide, hf, fun h => absurd rfl h, fun i hi => by omega⟩
  · have key : ∀ i, i < len → ∃ cs', w.cells? base (a.add (i * P.cellsOf e)) (P.cellsOf e) = some cs' ∧ ∃ y, DataW.trod enc P w base spare held n e cs' = some y := by
      intro i hi
      have h1 := hel i hi
      rw [List.getElem?_eq_getElem (by omega)] at h1
      obtain ⟨cs', h2, h3⟩ := Option.bind_eq_some_iff.1 h1
      exact ⟨cs', h2, _, h3⟩
    obtain ⟨C, hC⟩ := choose_lt (α := List Value) key
    refine ⟨some a, len, cap, n, C, rfl, hl, hm, by omega, fun h0 => ?_, fun i hi => ?_⟩
    · obtain ⟨b, off, spot⟩ := a
      have hc0 := (hC 0 (by omega)).1
      obtain ⟨_, hlen2, hcell⟩ := World.cells?_some hc0
      have hfirst := hcell 0 (by omega)
      rw [add_add] at hfirst
      obtain ⟨v, hv⟩ : ∃ v, (C 0)[0]? = some v := ⟨_, List.getElem?_eq_getElem (by omega)⟩
      have hspot : spot = none := by
        simpa [Addr.add] using World.cell?_spot (hfirst.trans hv)
      subst hspot
      refine ⟨b, off, rfl, fun i hi j u hu => ?_⟩
      obtain ⟨_, hlen3, hcell⟩ := World.cells?_some (hC i hi).1
      have hj : j < P.cellsOf e := by rw [← hlen3]; exact (List.getElem?_eq_some_iff.1 hu).1
      have := hcell j hj
      rw [add_add, Go.WideShapes.add_plain, hk] at this
      rw [this]; exact hu
    · obtain ⟨_, hlen2, _⟩ := World.cells?_some (hC i hi).1
      exact ⟨hlen2.trans hk, (hC i hi).2⟩
theorem trod_struct4 {t : TypeId} {f0 f1 f2 f3 : Field} {fuel : Nat} {cs : List Value} {x : DataW H × List MemPlace} (ht : P.underlying t = some (.struct #[f0, f1, f2, f3])) (h : DataW.trod enc P w base spare held fuel t cs = some x) :
    ∃ y0 y1 y2 y3 n, fuel = n + 1 ∧ cs.length = P.cellsOf t ∧ DataW.trod enc P w base spare held n f0.type ((cs.drop f0.offset).take (P.cellsOf f0.type)) = some y0 ∧
      DataW.trod enc P w base spare held n f1.type ((cs.drop f1.offset).take (P.cellsOf f1.type)) = some y1 ∧ DataW.trod enc P w base spare held n f2.type ((cs.drop f2.offset).take (P.cellsOf f2.type)) = some y2 ∧
      DataW.trod enc P w base spare held n f3.type ((cs.drop f3.offset).take (P.cellsOf f3.type)) = some y3 := by
  obtain ⟨xs, n, hn, rfl, hl, hlen, hf⟩ := DataW.trod_struct ht h
  match xs, hlen with
  | [y0, y1, y2, y3], _ => exact ⟨y0, y1, y2, y3, n, hn, hl, by simpa using hf 0 f0 rfl, by simpa using hf 1 f1 rfl, by simpa using hf 2 f2 rfl, by simpa using hf 3 f3 rfl⟩
theorem open_l {α : Type} [Inhabited α] {t e : TypeId} {fuel k : Nat} {cs : List Value} {x : DataW H × List MemPlace} (row : α → List Value) (G : α → Prop) (ht : P.underlying t = some (.slice e)) (hk : P.cellsOf e = k) (hk0 : k ≠ 0)
    (elem : ∀ n cs y, n < fuel → DataW.trod enc P w base spare held n e cs = some y → ∃ u, cs = row u ∧ G u) (h : DataW.trod enc P w base spare held fuel t cs = some x) :
    ∃ (ad : Option Addr) (cap : Nat) (l : List α), cs = [.slice ad l.length cap] ∧ l.length ≤ cap ∧ cap ≤ maxLen ∧ Sl w (.slice ad l.length cap) l.length k (l.map row).flatten ∧ ∀ u ∈ l, G u := by
  obtain ⟨ad, len, cap, n, C, rfl, hl, hm, hn, hc, hi⟩ := rows_n ht hk hk0 h
  obtain ⟨f, hf⟩ := choose_lt (α := α) (n := len) (p := fun i u => C i = row u ∧ G u) (fun i hi2 => by
    obtain ⟨_, y, hy⟩ := hi i hi2
    exact elem n _ y hn hy)
  have hL : ((List.range len).map f).length = len := by simp
  have hget : ∀ i u, ((List.range len).map f)[i]? = some u → i < len ∧ u = f i := by
    intro i u hu
    rw [List.getElem?_map] at hu
    obtain ⟨a, ha, hb⟩ := Option.map_eq_some_iff.1 hu
    obtain ⟨h1, h2⟩ := List.getElem?_eq_some_iff.1 ha
    simp at h1 h2
    subst h2
    exact ⟨h1, hb.symm⟩
  refine ⟨ad, cap, (List.range len).map f, by rw [hL], by rw [hL]; exact hl, hm, ?_, ?_⟩
  · rw [hL]
    refine (sl_rows (C := C) hk0 hc (((List.range len).map f).map row) (by simp) (fun i l hil => ?_) (fun l hl2 => ?_))
    · rw [List.getElem?_map] at hil
      obtain ⟨a, ha, hb⟩ := Option.map_eq_some_iff.1 hil
      obtain ⟨h1, rfl⟩ := hget i a ha
      rw [(hf i h1).1, hb]
    · obtain ⟨a, ha, rfl⟩ := List.mem_map.1 hl2
      obtain ⟨i, hi2⟩ := List.mem_iff_getElem?.1 ha
      obtain ⟨h1, rfl⟩ := hget i a hi2
      rw [← (hf i h1).1]; exact (hi i h1).1
  · intro u hu
    obtain ⟨i, hi2⟩ := List.mem_iff_getElem?.1 hu
    obtain ⟨h1, rfl⟩ := hget i u hi2
    exact (hf i h1).2
end

theorem maxLen_is : maxLen = 9223372036854775807 := by decide
section
variable {H : Type} {enc : TypeId × Value → H} {w : World} {base : Nat} {spare : Nat → Bool} {held : Bool}

theorem ci : Tryd.prog.cellsOf 3 = 1 := by kernel_rfl
theorem cstr : Tryd.prog.cellsOf 9 = 1 := by kernel_rfl
theorem ccol : Tryd.prog.cellsOf 53 = 2 := by kernel_rfl
theorem cfrn : Tryd.prog.cellsOf 50 = 2 := by kernel_rfl
theorem csch : Tryd.prog.cellsOf 25 = 4 := by kernel_rfl
theorem cs1 : Tryd.prog.cellsOf 37 = 1 := by kernel_rfl
theorem cs2 : Tryd.prog.cellsOf 22 = 1 := by kernel_rfl
theorem cs3 : Tryd.prog.cellsOf 23 = 1 := by kernel_rfl
theorem len2 {cs : List Value} (h : cs.length = 2) : ∃ a b, cs = [a, b] := by
  match cs, h with
  | [a, b], _ => exact ⟨a, b, rfl⟩
theorem len4 {cs : List Value} (h : cs.length = 4) : ∃ a b c d, cs = [a, b, c, d] := by
  match cs, h with
  | [a, b, c, d], _ => exact ⟨a, b, c, d, rfl⟩
def rowC (c : Cl) : List Value := [.string c.1, .int .i64 c.2]
theorem flatC_rows : ∀ l : List Cl, flatC l = (l.map rowC).flatten
  | [] => rfl
  | c :: l => by rw [flatC, flatC_rows l]; rfl
theorem trod_col {n : Nat} {cs : List Value} {y : DataW H × List MemPlace} (h : DataW.trod enc Tryd.prog w base spare held n 53 cs = some y) : ∃ u : Cl, cs = rowC u ∧ True := by
  obtain ⟨y0, y1, n, _, hl, h0, h1⟩ := trod_struct2 Tryd.underlying53 h
  rw [ccol] at hl
  obtain ⟨a, b, rfl⟩ := len2 hl
  simp only [ci, cstr, List.drop_zero, List.take_succ_cons, List.take_zero, List.drop_succ_cons] at h0 h1
  obtain ⟨z0, rfl, hz0⟩ := trod_str Tryd.underlying9 h0
  obtain ⟨z1, rfl, hz1⟩ := trod_cell Tryd.underlying3 h1
  exact ⟨(z0, z1), rfl, trivial⟩
theorem flat1 {α : Type} (f : α → Value) : ∀ l : List α, (l.map fun u => [f u]).flatten = l.map f
  | [] => rfl
  | u :: l => by rw [List.map_cons, List.flatten_cons, flat1 f l]; rfl
theorem trod_texts {n : Nat} {c : Value} {y : DataW H × List MemPlace} (h : DataW.trod enc Tryd.prog w base spare held n 37 [c] = some y) : ∃ l : List ByteArray, Ss w c l ∧ l.length ≤ 9223372036854775807 := by
  obtain ⟨ad, cap, l, hcs, hl, hm, hs, hg⟩ := open_l (fun s => [Value.string s]) (fun _ => True) Tryd.underlying37 cstr (by decide) (fun n cs y _ h => by
    obtain ⟨s, rfl, _⟩ := DataW.trod_string Tryd.underlying9 h
    exact ⟨s, rfl, trivial⟩) h
  simp only [List.cons.injEq, and_true] at hcs
  subst hcs
  rw [flat1] at hs
  exact ⟨l, ⟨hs, Cap.mk hl⟩, Nat.le_trans hl (Nat.le_trans hm (Nat.le_of_eq maxLen_is))⟩
theorem trod_cols {n : Nat} {c : Value} {y : DataW H × List MemPlace} (h : DataW.trod enc Tryd.prog w base spare held n 22 [c] = some y) : ∃ l : List Cl, Cs w c l ∧ l.length ≤ 9223372036854775807 := by
  obtain ⟨ad, cap, l, hcs, hl, hm, hs, hg⟩ := open_l rowC (fun _ => True) Tryd.underlying22 ccol (by decide) (fun n cs y _ h => trod_col h) h
  simp only [List.cons.injEq, and_true] at hcs
  subst hcs
  rw [← flatC_rows] at hs
  exact ⟨l, hs, Nat.le_trans hl (Nat.le_trans hm (Nat.le_of_eq maxLen_is))⟩
def szF (f : Fr) : Prop := f.cols.length ≤ 9223372036854775807
def szS (s : Sch) : Prop := s.cols.length ≤ 9223372036854775807 ∧ s.frn.length ≤ 9223372036854775807 ∧ ∀ f ∈ s.frn, szF f
theorem trod_frn {n : Nat} {cs : List Value} {y : DataW H × List MemPlace} (h : DataW.trod enc Tryd.prog w base spare held n 50 cs = some y) : ∃ f : Fr, FrAt w cs f ∧ szF f := by
  obtain ⟨y0, y1, n, _, hl, h0, h1⟩ := trod_struct2 Tryd.underlying50 h
  rw [cfrn] at hl
  obtain ⟨a, b, rfl⟩ := len2 hl
  simp only [cs1, cstr, List.drop_zero, List.take_succ_cons, List.take_zero, List.drop_succ_cons] at h0 h1
  obtain ⟨l, hl1, hl2⟩ := trod_texts h0
  obtain ⟨z1, rfl, hz1⟩ := trod_str Tryd.underlying9 h1
  exact ⟨⟨l, z1⟩, ⟨a, rfl, hl1⟩, hl2⟩
theorem nest_of {α : Type} {k : Nat} {Pr : World → List Value → α → Prop} {ad : Option Addr} {cap : Nat} {l : List (List Value × α)} (hk : ∀ u ∈ l, u.1.length = k) (hl : l.length ≤ cap) (hs : Sl w (.slice ad l.length cap) l.length k (l.map (·.1)).flatten) (hg : ∀ u ∈ l, Pr w u.1 u.2) : Nest k Pr w (.slice ad l.length cap) (l.map (·.2)) := by
  refine ⟨l.map (·.1), by simp, ⟨?_, Cap.mk hl⟩, fun r hr => ?_, fun i r x hr hx => ?_⟩
  · rw [List.length_map]; exact hs
  · obtain ⟨u, hu, rfl⟩ := List.mem_map.1 hr
    exact hk u hu
  · rw [List.getElem?_map] at hr hx
    obtain ⟨u, hu, rfl⟩ := Option.map_eq_some_iff.1 hr
    rw [hu] at hx
    simp at hx
    subst hx
    exact hg u (List.mem_of_getElem? hu)
theorem FrAt.len {cs : List Value} {f : Fr} (h : FrAt w cs f) : cs.length = 2 := by obtain ⟨s, rfl, _⟩ := h; rfl
theorem ScAt.len {cs : List Value} {s : Sch} (h : ScAt w cs s) : cs.length = 4 := by obtain ⟨a, b, rfl, _⟩ := h; rfl
theorem trod_frns {n : Nat} {c : Value} {y : DataW H × List MemPlace} (h : DataW.trod enc Tryd.prog w base spare held n 23 [c] = some y) : ∃ l : List Fr, FsAt w c l ∧ l.length ≤ 9223372036854775807 ∧ ∀ f ∈ l, szF f := by
  obtain ⟨ad, cap, l, hcs, hl, hm, hs, hg⟩ := open_l (α := List Value × Fr) (fun u => u.1) (fun u => FrAt w u.1 u.2 ∧ szF u.2) Tryd.underlying23 cfrn (by decide) (fun n2 cs2 y2 hn2 h2 => by
      obtain ⟨c, h5, h6⟩ := trod_frn h2
      exact ⟨(cs2, c), rfl, h5, h6⟩) h
  simp only [List.cons.injEq, and_true] at hcs
  subst hcs
  refine ⟨l.map (·.2), nest_of (fun u hu => (hg u hu).1.len) hl hs (fun u hu => (hg u hu).1), by rw [List.length_map]; exact Nat.le_trans hl (Nat.le_trans hm (Nat.le_of_eq maxLen_is)), fun f hf => ?_⟩
  obtain ⟨u, hu, rfl⟩ := List.mem_map.1 hf
  exact (hg u hu).2
theorem trod_sch {n : Nat} {cs : List Value} {y : DataW H × List MemPlace} (h : DataW.trod enc Tryd.prog w base spare held n 25 cs = some y) : ∃ s : Sch, ScAt w cs s ∧ szS s := by
  obtain ⟨y0, y1, y2, y3, n, _, hl, h0, h1, h2, h3⟩ := trod_struct4 Tryd.underlying25 h
  rw [csch] at hl
  obtain ⟨a, b, c, d, rfl⟩ := len4 hl
  simp only [ci, cs2, cs3, cstr, List.drop_zero, List.take_succ_cons, List.take_zero, List.drop_succ_cons] at h0 h1 h2 h3
  obtain ⟨z0, rfl, hz0⟩ := trod_str Tryd.underlying9 h0
  obtain ⟨cl, hc1, hc2⟩ := trod_cols h1
  obtain ⟨z2, rfl, hz2⟩ := trod_cell Tryd.underlying3 h2
  obtain ⟨fl, hf1, hf2, hf3⟩ := trod_frns h3
  exact ⟨⟨z0, cl, z2, fl⟩, ⟨b, d, rfl, hc1, hf1⟩, hc2, hf2, hf3⟩
set_option maxRecDepth 100000 in
theorem open_schs {v : Value} {d : DataW H} {p : List MemPlace} {r : Reach} {b0 : Nat} (hv : Value.okWide Tryd.prog w r b0 45 v) (h : DataW.Trod enc Tryd.prog w base spare held 45 v d p) :
    ∃ l : List Sch, LsAt w v l ∧ l.length ≤ 9223372036854775807 ∧ ∀ s ∈ l, szS s := by
  obtain ⟨a, len, cap, rfl⟩ := okWide_slice Tryd.underlying45 hv
  obtain ⟨fuel, hf⟩ := h
  obtain ⟨ad, cap2, l, hcs, hl, hm, hs, hg⟩ := open_l (α := List Value × Sch) (fun u => u.1) (fun u => ScAt w u.1 u.2 ∧ szS u.2) Tryd.underlying45 csch (by decide) (fun n2 cs2 y2 hn2 h2 => by
      obtain ⟨c, h5, h6⟩ := trod_sch h2
      exact ⟨(cs2, c), rfl, h5, h6⟩) hf
  simp [Value.cells] at hcs
  obtain ⟨rfl, rfl, rfl⟩ := hcs
  refine ⟨l.map (·.2), nest_of (fun u hu => (hg u hu).1.len) hl hs (fun u hu => (hg u hu).1), by rw [List.length_map]; exact Nat.le_trans hl (Nat.le_trans hm (Nat.le_of_eq maxLen_is)), fun f hf => ?_⟩
  obtain ⟨u, hu, rfl⟩ := List.mem_map.1 hf
  exact (hg u hu).2
set_option maxRecDepth 100000 in
theorem open_sch {v : Value} {d : DataW H} {p : List MemPlace} {r : Reach} {b0 : Nat} (hv : Value.okWide Tryd.prog w r b0 25 v) (h : DataW.Trod enc Tryd.prog w base spare held 25 v d p) :
    ∃ (cs : List Value) (s : Sch), v = .agg cs.toArray ∧ ScAt w cs s ∧ szS s := by
  obtain ⟨cs, rfl, hsz⟩ := okWide_struct Tryd.underlying25 hv
  obtain ⟨fuel, hf⟩ := h
  obtain ⟨c, h1, h2⟩ := trod_sch hf
  exact ⟨cs.toList, c, by simp, h1, h2⟩
end
end Go.Proofs.YtokbipfkpojflaaDoor.Sc
