/-
  The laws' arguments opened: lists of values, of texts, of columns, of bytes; conditions (layer 33).
-/
import Derived.Test.YtgfppajbegcaeaaDoorVcZ
import Derived.Test.YtgfppajbegcaeaaDoorVcJ
import Derived.Test.YtgfppajbegcaeaaDoorOpn
import Derived.ChangeArms
import Derived.Deep.Strs
set_option linter.unusedSimpArgs false
set_option linter.unusedVariables false
namespace Go.Proofs.YtgfppajbegcaeaaDoor.Va
open Go Go.RowKit Go.ChangeShapes Go.WideShapes Go.Deep Go.Proofs.YtgfppajbegcaeaaDoor.Sl Go.Proofs.YtgfppajbegcaeaaDoor.Opn

section
variable {H : Type} {enc : TypeId × Value → H} {P : Program} {w : World} {base : Nat} {spare : Nat → Bool} {held : Bool}

theorem rows_n {t e : TypeId} {fuel k : Nat} {cs : List Value} {x : DataW H × List MemPlace} (ht : P.underlying t = some (.slice e)) (hk : P.cellsOf e = k) (hk0 : k ≠ 0) (h : DataW.trod enc P w base spare held fuel t cs = some x) :
    ∃ (ad : Option Addr) (len cap n : Nat) (C : Nat → List Value), cs = [.slice ad len cap] ∧ len ≤ cap ∧ cap ≤ maxLen ∧ n < fuel ∧
      (len ≠ 0 → ∃ g off, ad = some ⟨g, off, none⟩ ∧ ∀ i, i < len → ∀ j u, (C i)[j]? = some u → w.cell? ⟨g, off + (i * k + j), none⟩ = some u) ∧
      ∀ i, i < len → (C i).length = k ∧ ∃ y, DataW.trod enc P w base spare held n e (C i) = some y := by
  have hf : 0 < fuel := by
    cases fuel with
    | zero => simp [DataW.trod] at h
    | succ n => omega
  rcases DataW.trod_slice ht h with ⟨rfl, _⟩ | ⟨a, len, cap, elems, rest, n, hn, rfl, rfl, hb, hl, hm, hlen, hel, _, _⟩
  · exact ⟨none, 0, 0, 0, fun _ => [], rfl, Nat.le_refl _, by decide, hf, fun h => absurd rfl h, fun i hi => by omega⟩
  · have key : ∀ i, i < len → ∃ cs', w.cells? base (a.add (i * P.cellsOf e)) (P.cellsOf e) = some cs' ∧ ∃ y, DataW.trod enc P w base spare held n e cs' = some y := by
      intro i hi
      have h1 := hel i hi
      rw [List.getElem?_eq_getElem (by omega)] at h1
      obtain ⟨cs', h2, h3⟩ := Option.bind_eq_some_iff.1 h1
      exact ⟨cs', h2, _, h3⟩
    obtain ⟨C, hC⟩ := choose_lt (α := List Value) key
    refine ⟨some a, len, cap, n, C, rfl, hl, hm, by omega, fun h0 => ?_, fun i hi => ?_⟩
    · obtain ⟨b, off, spot⟩ := a
      have hc0 := (hC 0 (by omega)).1
      obtain ⟨_, hlen2, hcell⟩ := World.cells?_some hc0
      have hfirst := hcell 0 (by omega)
      rw [add_add] at hfirst
      obtain ⟨v, hv⟩ : ∃ v, (C 0)[0]? = some v := ⟨_, List.getElem?_eq_getElem (by omega)⟩
      have hspot : spot = none := by
        simpa [Addr.add] using World.cell?_spot (hfirst.trans hv)
      subst hspot
      refine ⟨b, off, rfl, fun i hi j u hu => ?_⟩
      obtain ⟨_, hlen3, hcell⟩ := World.cells?_some (hC i hi).1
      have hj : j < P.cellsOf e := by rw [← hlen3]; exact (List.getElem?_eq_some_iff.1 hu).1
      have := hcell j hj
      rw [add_add, Go.WideShapes.add_plain, hk] at this
      rw [this]; exact hu
    · obtain ⟨_, hlen2, _⟩ := World.cells?_some (hC i hi).1
      exact ⟨hlen2.trans hk, (hC i hi).2⟩
theorem trod_struct5 {t : TypeId} {f0 f1 f2 f3 f4 : Field} {fuel : Nat} {cs : List Value} {x : DataW H × List MemPlace} (ht : P.underlying t = some (.struct #[f0, f1, f2, f3, f4])) (h : DataW.trod enc P w base spare held fuel t cs = some x) :
    ∃ y0 y1 y2 y3 y4 n, fuel = n + 1 ∧ cs.length = P.cellsOf t ∧ DataW.trod enc P w base spare held n f0.type ((cs.drop f0.offset).take (P.cellsOf f0.type)) = some y0 ∧
      DataW.trod enc P w base spare held n f1.type ((cs.drop f1.offset).take (P.cellsOf f1.type)) = some y1 ∧ DataW.trod enc P w base spare held n f2.type ((cs.drop f2.offset).take (P.cellsOf f2.type)) = some y2 ∧
      DataW.trod enc P w base spare held n f3.type ((cs.drop f3.offset).take (P.cellsOf f3.type)) = some y3 ∧ DataW.trod enc P w base spare held n f4.type ((cs.drop f4.offset).take (P.cellsOf f4.type)) = some y4 := by
  obtain ⟨xs, n, hn, rfl, hl, hlen, hf⟩ := DataW.trod_struct ht h
  match xs, hlen with
  | [y0, y1, y2, y3, y4], _ => exact ⟨y0, y1, y2, y3, y4, n, hn, hl, by simpa using hf 0 f0 rfl, by simpa using hf 1 f1 rfl, by simpa using hf 2 f2 rfl, by simpa using hf 3 f3 rfl, by simpa using hf 4 f4 rfl⟩
theorem open_l {α : Type} [Inhabited α] {t e : TypeId} {fuel k : Nat} {cs : List Value} {x : DataW H × List MemPlace} (row : α → List Value) (G : α → Prop) (ht : P.underlying t = some (.slice e)) (hk : P.cellsOf e = k) (hk0 : k ≠ 0)
    (elem : ∀ n cs y, n < fuel → DataW.trod enc P w base spare held n e cs = some y → ∃ u, cs = row u ∧ G u) (h : DataW.trod enc P w base spare held fuel t cs = some x) :
    ∃ (ad : Option Addr) (cap : Nat) (l : List α), cs = [.slice ad l.length cap] ∧ l.length ≤ cap ∧ cap ≤ maxLen ∧ Sl w (.slice ad l.length cap) l.length k (l.map row).flatten ∧ ∀ u ∈ l, G u := by
  obtain ⟨ad, len, cap, n, C, rfl, hl, hm, hn, hc, hi⟩ := rows_n ht hk hk0 h
  obtain ⟨f, hf⟩ := choose_lt (α := α) (n := len) (p := fun i u => C i = row u ∧ G u) (fun i hi2 => by
    obtain ⟨_, y, hy⟩ := hi i hi2
    exact elem n _ y hn hy)
  have hL : ((List.range len).map f).length = len := by simp
  have hget : ∀ i u, ((List.range len).map f)[i]? = some u → i < len ∧ u = f i := by
    intro i u hu
    rw [List.getElem?_map] at hu
    obtain ⟨a, ha, hb⟩ := Option.map_eq_some_iff.1 hu
    obtain ⟨h1, h2⟩ := List.getElem?_eq_some_iff.1 ha
    simp at h1 h2
    subst h2
    exact ⟨h1, hb.symm⟩
  refine ⟨ad, cap, (List.range len).map f, by rw [hL], by rw [hL]; exact hl, hm, ?_, ?_⟩
  · rw [hL]
    refine (sl_rows (C := C) hk0 hc (((List.range len).map f).map row) (by simp) (fun i l hil => ?_) (fun l hl2 => ?_))
    · rw [List.getElem?_map] at hil
      obtain ⟨a, ha, hb⟩ := Option.map_eq_some_iff.1 hil
      obtain ⟨h1, rfl⟩ := hget i a ha
      rw [(hf i h1).1, hb]
    · obtain ⟨a, ha, rfl⟩ := List.mem_map.1 hl2
      obtain ⟨i, hi2⟩ := List.mem_iff_getElem?.1 ha
      obtain ⟨h1, rfl⟩ := hget i a hi2
      rw [← (hf i h1).1]; exact (hi i h1).1
  · intro u hu
    obtain ⟨i, hi2⟩ := List.mem_iff_getElem?.1 hu
    obtain ⟨h1, rfl⟩ := hget i u hi2
    exact (hf i h1).2
end

theorem maxLen_is : maxLen = 9223372036854775807 := by decide
section
variable {H : Type} {enc : TypeId × Value → H} {w : World} {base : Nat} {spare : Nat → Bool} {held : Bool}

theorem ci : Tryd.prog.cellsOf 3 = 1 := by kernel_rfl
theorem cstr : Tryd.prog.cellsOf 9 = 1 := by kernel_rfl
theorem cu8 : Tryd.prog.cellsOf 5 = 1 := by kernel_rfl
theorem cval : Tryd.prog.cellsOf 32 = 3 := by kernel_rfl
theorem ccol : Tryd.prog.cellsOf 80 = 2 := by kernel_rfl
theorem ccnd : Tryd.prog.cellsOf 46 = 7 := by kernel_rfl
theorem csl : Tryd.prog.cellsOf 44 = 1 := by kernel_rfl
theorem len2 {cs : List Value} (h : cs.length = 2) : ∃ a b, cs = [a, b] := by
  match cs, h with
  | [a, b], _ => exact ⟨a, b, rfl⟩
theorem len3 {cs : List Value} (h : cs.length = 3) : ∃ a b c, cs = [a, b, c] := by
  match cs, h with
  | [a, b, c], _ => exact ⟨a, b, c, rfl⟩
theorem len7 {cs : List Value} (h : cs.length = 7) : ∃ a b c d e f g, cs = [a, b, c, d, e, f, g] := by
  match cs, h with
  | [a, b, c, d, e, f, g], _ => exact ⟨a, b, c, d, e, f, g, rfl⟩
/-- Fits: the number, and the text's size. -/
def GoodV (u : V3) : Prop := FitV u ∧ u.2.2.size ≤ 9223372036854775807
theorem wf_fit {z : Int} (h : (Lit.int .i64 z).wf = true) : -9223372036854775808 ≤ z ∧ z < 9223372036854775808 := by
  simp [Lit.wf, IntKind.min, IntKind.max, IntKind.signed, IntKind.bits] at h
  omega
theorem trod_v3 {n : Nat} {cs : List Value} {y : DataW H × List MemPlace} (h : DataW.trod enc Tryd.prog w base spare held n 32 cs = some y) : ∃ u : V3, cs = rowV u ∧ GoodV u := by
  obtain ⟨y0, y1, y2, n, _, hl, h0, h1, h2⟩ := trod_struct3 Tryd.underlying32 h
  rw [cval] at hl
  obtain ⟨a, b, c, rfl⟩ := len3 hl
  simp only [ci, cstr, List.drop_zero, List.take_succ_cons, List.take_zero, List.drop_succ_cons] at h0 h1 h2
  obtain ⟨z0, rfl, hz0⟩ := trod_cell Tryd.underlying3 h0
  obtain ⟨z1, rfl, hz1⟩ := trod_cell Tryd.underlying3 h1
  obtain ⟨z2, rfl, hz2⟩ := trod_str Tryd.underlying9 h2
  exact ⟨(z0, z1, z2), rfl, wf_fit hz1, Nat.le_trans hz2 (Nat.le_of_eq maxLen_is)⟩
def rowC (c : Cl) : List Value := [.string c.1, .int .i64 c.2]
theorem flatC_rows : ∀ l : List Cl, flatC l = (l.map rowC).flatten
  | [] => rfl
  | c :: l => by rw [flatC, flatC_rows l]; rfl
theorem trod_col {n : Nat} {cs : List Value} {y : DataW H × List MemPlace} (h : DataW.trod enc Tryd.prog w base spare held n 80 cs = some y) : ∃ u : Cl, cs = rowC u ∧ True := by
  obtain ⟨y0, y1, n, _, hl, h0, h1⟩ := trod_struct2 Tryd.underlying80 h
  rw [ccol] at hl
  obtain ⟨a, b, rfl⟩ := len2 hl
  simp only [ci, cstr, List.drop_zero, List.take_succ_cons, List.take_zero, List.drop_succ_cons] at h0 h1
  obtain ⟨z0, rfl, hz0⟩ := trod_str Tryd.underlying9 h0
  obtain ⟨z1, rfl, hz1⟩ := trod_cell Tryd.underlying3 h1
  exact ⟨(z0, z1), rfl, trivial⟩
theorem flat1 {α : Type} (f : α → Value) : ∀ l : List α, (l.map fun u => [f u]).flatten = l.map f
  | [] => rfl
  | u :: l => by rw [List.map_cons, List.flatten_cons, flat1 f l]; rfl
set_option maxRecDepth 100000 in
theorem open_vals {v : Value} {d : DataW H} {p : List MemPlace} {r : Reach} {b0 : Nat} (hv : Value.okWide Tryd.prog w r b0 22 v) (h : DataW.Trod enc Tryd.prog w base spare held 22 v d p) :
    ∃ l : List V3, Vs w v l ∧ l.length ≤ 9223372036854775807 ∧ ∀ u ∈ l, GoodV u := by
  obtain ⟨a, len, cap, rfl⟩ := okWide_slice Tryd.underlying22 hv
  obtain ⟨fuel, hf⟩ := h
  obtain ⟨ad, cap2, l, hcs, hl, hm, hs, hg⟩ := open_l rowV GoodV Tryd.underlying22 cval (by decide) (fun n cs y _ h => trod_v3 h) hf
  simp [Value.cells] at hcs
  obtain ⟨rfl, rfl, rfl⟩ := hcs
  exact ⟨l, hs, Nat.le_trans hl (Nat.le_trans hm (Nat.le_of_eq maxLen_is)), hg⟩
set_option maxRecDepth 100000 in
theorem open_names {v : Value} {d : DataW H} {p : List MemPlace} {r : Reach} {b0 : Nat} (hv : Value.okWide Tryd.prog w r b0 47 v) (h : DataW.Trod enc Tryd.prog w base spare held 47 v d p) :
    ∃ l : List ByteArray, Ss w v l ∧ l.length ≤ 9223372036854775807 := by
  obtain ⟨a, len, cap, rfl⟩ := okWide_slice Tryd.underlying47 hv
  obtain ⟨fuel, hf⟩ := h
  obtain ⟨ad, cap2, l, hcs, hl, hm, hs, hg⟩ := open_l (fun s => [Value.string s]) (fun _ => True) Tryd.underlying47 cstr (by decide) (fun n cs y _ h => by
    obtain ⟨s, rfl, _⟩ := DataW.trod_string Tryd.underlying9 h
    exact ⟨s, rfl, trivial⟩) hf
  simp [Value.cells] at hcs
  obtain ⟨rfl, rfl, rfl⟩ := hcs
  rw [flat1] at hs
  exact ⟨l, hs, Nat.le_trans hl (Nat.le_trans hm (Nat.le_of_eq maxLen_is))⟩
set_option maxRecDepth 100000 in
theorem open_cols {v : Value} {d : DataW H} {p : List MemPlace} {r : Reach} {b0 : Nat} (hv : Value.okWide Tryd.prog w r b0 48 v) (h : DataW.Trod enc Tryd.prog w base spare held 48 v d p) :
    ∃ l : List Cl, Cs w v l ∧ l.length ≤ 9223372036854775807 := by
  obtain ⟨a, len, cap, rfl⟩ := okWide_slice Tryd.underlying48 hv
  obtain ⟨fuel, hf⟩ := h
  obtain ⟨ad, cap2, l, hcs, hl, hm, hs, hg⟩ := open_l rowC (fun _ => True) Tryd.underlying48 ccol (by decide) (fun n cs y _ h => trod_col h) hf
  simp [Value.cells] at hcs
  obtain ⟨rfl, rfl, rfl⟩ := hcs
  rw [← flatC_rows] at hs
  exact ⟨l, hs, Nat.le_trans hl (Nat.le_trans hm (Nat.le_of_eq maxLen_is))⟩
theorem wf_byte {z : Int} (h : (Lit.int .u8 z).wf = true) : z = ((UInt8.ofNat z.toNat).toNat : Int) := by
  simp [Lit.wf, IntKind.min, IntKind.max, IntKind.signed, IntKind.bits] at h
  rw [UInt8.toNat_ofNat']
  omega
set_option maxRecDepth 100000 in
theorem open_bytes {v : Value} {d : DataW H} {p : List MemPlace} {r : Reach} {b0 : Nat} (hv : Value.okWide Tryd.prog w r b0 23 v) (h : DataW.Trod enc Tryd.prog w base spare held 23 v d p) :
    ∃ l : List UInt8, Bs w v l ∧ l.length ≤ 9223372036854775807 := by
  obtain ⟨a, len, cap, rfl⟩ := okWide_slice Tryd.underlying23 hv
  obtain ⟨fuel, hf⟩ := h
  obtain ⟨ad, cap2, l, hcs, hl, hm, hs, hg⟩ := open_l (fun c : UInt8 => [Value.int .u8 c.toNat]) (fun _ => True) Tryd.underlying23 cu8 (by decide) (fun n cs y _ h => by
    obtain ⟨z, rfl, _, hz⟩ := DataW.trod_int Tryd.underlying5 h
    exact ⟨UInt8.ofNat z.toNat, by rw [← wf_byte hz], trivial⟩) hf
  simp [Value.cells] at hcs
  obtain ⟨rfl, rfl, rfl⟩ := hcs
  rw [flat1] at hs
  exact ⟨l, ⟨hs, _, _, rfl, hl, hm⟩, Nat.le_trans hl (Nat.le_trans hm (Nat.le_of_eq maxLen_is))⟩
set_option maxRecDepth 100000 in
theorem open_val {v : Value} {d : DataW H} {p : List MemPlace} {r : Reach} {b0 : Nat} (hv : Value.okWide Tryd.prog w r b0 32 v) (h : DataW.Trod enc Tryd.prog w base spare held 32 v d p) :
    ∃ u : V3, v = agV u.1 u.2.1 u.2.2 ∧ GoodV u := by
  obtain ⟨cs, rfl, hsz⟩ := okWide_struct Tryd.underlying32 hv
  obtain ⟨fuel, hf⟩ := h
  obtain ⟨u, hu, hg⟩ := trod_v3 hf
  refine ⟨u, ?_, hg⟩
  have : cs.toList = rowV u := hu
  rw [← Array.toArray_toList (xs := cs), this]
  rfl
theorem szCL_of : ∀ (L : List CN), (∀ x ∈ L, szC x) → szCL L
  | [], _ => by rw [szCL]; trivial
  | x :: L, h => by rw [szCL]; exact ⟨h x (by simp), szCL_of L fun y hy => h y (by simp [hy])⟩
instance : Inhabited CN := ⟨.mk 0 ⟨#[]⟩ ⟨#[]⟩ zeroV []⟩
theorem trod_cond : ∀ (N fuel : Nat), fuel ≤ N → ∀ (cs : List Value) (y : DataW H × List MemPlace), DataW.trod enc Tryd.prog w base spare held fuel 46 cs = some y → ∃ c : CN, CnAt w cs c ∧ szC c := by
  intro N
  induction N with
  | zero =>
    intro fuel hN cs y h
    obtain rfl : fuel = 0 := by omega
    simp [DataW.trod] at h
  | succ N ih =>
    intro fuel hN cs y h
    obtain ⟨y0, y1, y2, y3, y4, n, hn, hl, h0, h1, h2, h3, h4⟩ := trod_struct5 Tryd.underlying46 h
    rw [ccnd] at hl
    obtain ⟨a, b, c, d, e, f, g, rfl⟩ := len7 hl
    simp only [ci, cstr, cval, csl, List.drop_zero, List.take_succ_cons, List.take_zero, List.drop_succ_cons] at h0 h1 h2 h3 h4
    obtain ⟨k, rfl, _⟩ := trod_cell Tryd.underlying3 h0
    obtain ⟨col, rfl, _⟩ := trod_str Tryd.underlying9 h1
    obtain ⟨oth, rfl, _⟩ := trod_str Tryd.underlying9 h2
    obtain ⟨v, hv, hg⟩ := trod_v3 h3
    obtain ⟨ad, cap, l, hcs, _, _, hs, hgl⟩ := open_l (α := List Value × CN) (fun u => u.1) (fun u => CnAt w u.1 u.2 ∧ szC u.2) Tryd.underlying44 ccnd (by decide) (fun n2 cs2 y2 hn2 h2 => by
      obtain ⟨c, h5, h6⟩ := ih n2 (by omega) cs2 y2 h2
      exact ⟨(cs2, c), rfl, h5, h6⟩) h4
    simp only [List.cons.injEq, and_true] at hcs
    subst hcs
    refine ⟨.mk k col oth v (l.map (·.2)), ?_, ?_⟩
    · rw [CnAt]
      refine ⟨.slice ad l.length cap, ?_, l.map (·.1), ?_, ?_⟩
      · simp only [rowV, List.cons.injEq, and_true] at hv
        obtain ⟨rfl, rfl, rfl⟩ := hv
        rfl
      · rw [List.length_map]; exact hs
      · refine RowsAt.mk (by simp) fun i r x hr hx => ?_
        rw [List.getElem?_map] at hr hx
        obtain ⟨u, hu, rfl⟩ := Option.map_eq_some_iff.1 hr
        rw [hu] at hx
        simp at hx
        subst hx
        exact (hgl u (List.mem_of_getElem? hu)).1
    · rw [szC]
      refine ⟨hg.2, szCL_of _ fun x hx => ?_⟩
      obtain ⟨u, hu, rfl⟩ := List.mem_map.1 hx
      exact (hgl u hu).2
set_option maxRecDepth 100000 in
theorem open_cond {v : Value} {d : DataW H} {p : List MemPlace} {r : Reach} {b0 : Nat} (hv : Value.okWide Tryd.prog w r b0 46 v) (h : DataW.Trod enc Tryd.prog w base spare held 46 v d p) :
    ∃ (cs : List Value) (c : CN), v = .agg cs.toArray ∧ CnAt w cs c ∧ szC c := by
  obtain ⟨cs, rfl, hsz⟩ := okWide_struct Tryd.underlying46 hv
  obtain ⟨fuel, hf⟩ := h
  obtain ⟨c, h1, h2⟩ := trod_cond fuel fuel (Nat.le_refl _) _ _ hf
  exact ⟨cs.toList, c, by simp, h1, h2⟩
end
end Go.Proofs.YtgfppajbegcaeaaDoor.Va
