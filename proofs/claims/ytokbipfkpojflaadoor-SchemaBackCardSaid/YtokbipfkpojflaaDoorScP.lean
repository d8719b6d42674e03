/-
  Schemas: the plain model (layer 34; nothing of the program's functions).
-/
import Derived.Test.YtokbipfkpojflaaDoorLxM
import Derived.Test.YtokbipfkpojflaaDoorVcF
import Derived.Lib.SlicesS
set_option linter.unusedSimpArgs false
set_option linter.unusedVariables false
namespace Go.Proofs.YtokbipfkpojflaaDoor.Sc
open Go Go.RowKit Go.Proofs.YtokbipfkpojflaaDoor.Sl
open Go.Proofs.YtokbipfkpojflaaDoor.Va (Cl idxC idxC_ge idxC_step flatC Cs)

/-- A foreign key: its columns, and the table that it refers to. -/
structure Fr where
  cols : List ByteArray
  tab : ByteArray
/-- A schema. -/
structure Sch where
  name : ByteArray
  cols : List Cl
  key : Int
  frn : List Fr
instance : Inhabited Fr := ⟨[], ⟨#[]⟩⟩
instance : Inhabited Sch := ⟨⟨#[]⟩, [], 0, []⟩
def nmB (s : ByteArray) : Bool := Lx.nameL s.data.toList
/-- All are names, and none stands twice (what stands ahead: seen). -/
def distL : List ByteArray → List ByteArray → Bool
  | _, [] => true
  | seen, s :: l => nmB s && !Lib.containsS seen s && distL (seen ++ [s]) l
theorem distL_step (l : List ByteArray) (i : Nat) (s : ByteArray) (h : l[i]? = some s) : distL (l.take i) (l.drop i) = (nmB s && !Lib.containsS (l.take i) s && distL (l.take (i + 1)) (l.drop (i + 1))) := by
  have hk : i < l.length := (List.getElem?_eq_some_iff.1 h).1
  have e := (List.getElem?_eq_some_iff.1 h).2
  rw [List.drop_eq_getElem_cons hk, distL, e, List.take_add_one, h]
  rfl
theorem idxFrom_col (name : ByteArray) : ∀ (l : List Cl) (k : Nat), Lib.idxFromS (l.map (·.1)) name k = idxC name k l
  | [], k => rfl
  | c :: l, k => by rw [List.map_cons, Lib.idxFromS, idxC, idxFrom_col name l (k + 1)]
theorem idx_col (name : ByteArray) (l : List Cl) : Lib.idxOfS (l.map (·.1)) name = idxC name 0 l := idxFrom_col name l 0
/-- A foreign key that fits a schema's columns. -/
def frB (cols : List Cl) (f : Fr) : Bool := nmB f.tab && decide (1 ≤ f.cols.length) && decide (f.cols.length ≤ 8) && distL [] f.cols && f.cols.all fun c => decide (0 ≤ idxC c 0 cols)
/-- A schema is valid. -/
def vldS (s : Sch) : Bool := nmB s.name && decide (1 ≤ s.cols.length) && decide (s.cols.length ≤ 8) && decide (1 ≤ s.key) && decide (s.key ≤ s.cols.length) && decide (s.frn.length ≤ 8) && distL [] (s.cols.map (·.1)) && (s.cols.all fun c => decide (1 ≤ c.2) && decide (c.2 ≤ 4)) && s.frn.all (frB s.cols)
/-- The first schema with a name. -/
def fndS (name : ByteArray) : Nat → List Sch → Int
  | _, [] => -1
  | k, s :: l => if s.name = name then k else fndS name (k + 1) l
theorem fndS_ge (name : ByteArray) : ∀ (l : List Sch) (k : Nat), fndS name k l = -1 ∨ (k : Int) ≤ fndS name k l ∧ fndS name k l < k + l.length
  | [], k => .inl rfl
  | c :: l, k => by
    unfold fndS
    by_cases h : c.name = name
    · rw [if_pos h]; exact .inr ⟨Int.le_refl _, by rw [List.length_cons]; omega⟩
    · rw [if_neg h]
      rcases fndS_ge name l (k + 1) with h1 | h1
      · exact .inl h1
      · exact .inr ⟨by omega, by rw [List.length_cons]; omega⟩
theorem fndS_step (name : ByteArray) (l : List Sch) (k : Nat) (c : Sch) (h : l[k]? = some c) : fndS name k (l.drop k) = if c.name = name then (k : Int) else fndS name (k + 1) (l.drop (k + 1)) := by
  have hk : k < l.length := (List.getElem?_eq_some_iff.1 h).1
  rw [List.drop_eq_getElem_cons hk, fndS, (List.getElem?_eq_some_iff.1 h).2]
/-- The kind of a schema's column number i. -/
def kdAt (cols : List Cl) (i : Int) : Int := ((cols[i.toNat]?).map (·.2)).getD 0
/-- The kinds of a foreign key are those of a schema's key. -/
def fitK (cols : List Cl) (tt : List Cl) : Nat → List ByteArray → Bool
  | _, [] => true
  | i, c :: l => decide (kdAt cols (idxC c 0 cols) = kdAt tt i) && fitK cols tt (i + 1) l
def fitS (s : Sch) (f : Fr) (t : Sch) : Bool := decide ((f.cols.length : Int) = t.key) && fitK s.cols t.cols 0 f.cols
/-- The first fault of single schemas. -/
def fltA (all : List Sch) : Nat → List Sch → Option (ByteArray × Int)
  | _, [] => none
  | i, s :: l => if vldS s = false then some (s.name, 1) else if 0 ≤ fndS s.name 0 (all.take i) then some (s.name, 8) else fltA all (i + 1) l
/-- The first fault of the foreign keys of one. -/
def fltF (all : List Sch) (s : Sch) : List Fr → Option (ByteArray × Int)
  | [] => none
  | f :: l => if fndS f.tab 0 all < 0 then some (f.tab, 7) else if fitS s f ((all[(fndS f.tab 0 all).toNat]?).getD default) = false then some (f.tab, 13) else fltF all s l
def fltG (all : List Sch) : List Sch → Option (ByteArray × Int)
  | [] => none
  | s :: l => match fltF all s s.frn with
    | some x => some x
    | none => fltG all l
/-- What All returns. -/
def allS (l : List Sch) : ByteArray × Int := if 8 < l.length then (⟨#[]⟩, 5) else match fltA l 0 l with
  | some x => x
  | none => match fltG l l with
    | some x => x
    | none => (⟨#[]⟩, 0)

/-- A slice's capacity holds its elements. -/
def Cap (v : Value) : Prop := ∀ ad n cap, v = .slice ad n cap → n ≤ cap
theorem Cap.le {ad : Option Addr} {n cap : Nat} (h : Cap (.slice ad n cap)) : n ≤ cap := h ad n cap rfl
theorem Cap.mk {ad : Option Addr} {n cap : Nat} (h : n ≤ cap) : Cap (.slice ad n cap) := by
  intro a m c e
  simp only [Value.slice.injEq] at e
  omega
/-- A slice of nested things: k cells each, and what P says of each. -/
def Nest {α : Type} (k : Nat) (P : World → List Value → α → Prop) (w : World) (s : Value) (l : List α) : Prop :=
  ∃ rows : List (List Value), rows.length = l.length ∧ (Sl w s l.length k rows.flatten ∧ Cap s) ∧ (∀ r ∈ rows, r.length = k) ∧ ∀ (i : Nat) (r : List Value) (x : α), rows[i]? = some r → l[i]? = some x → P w r x
theorem Nest.below {α : Type} {k : Nat} {P : World → List Value → α → Prop} {w w' : World} {s : Value} {l : List α} (hP : ∀ r x, P w r x → P w' r x) (h : Nest k P w s l) (hb : Below w.heap.size w w') : Nest k P w' s l := by
  obtain ⟨rows, h1, h2, h3, h4⟩ := h
  exact ⟨rows, h1, ⟨h2.1.below hb, h2.2⟩, h3, fun i r x hr hx => hP r x (h4 i r x hr hx)⟩
theorem Nest.form {α : Type} {k : Nat} {P : World → List Value → α → Prop} {w : World} {s : Value} {l : List α} (h : Nest k P w s l) : ∃ ad cap, s = .slice ad l.length cap ∧ l.length ≤ cap := by
  obtain ⟨_, _, h2, _⟩ := h
  obtain ⟨ad, cap, rfl⟩ := h2.1.form
  exact ⟨ad, cap, rfl, h2.2.le⟩
theorem flatK (k : Nat) : ∀ (rows : List (List Value)) (i : Nat) (r : List Value) (j : Nat) (u : Value), (∀ r ∈ rows, r.length = k) → rows[i]? = some r → r[j]? = some u → rows.flatten[i * k + j]? = some u
  | [], i, r, j, u, _, h, _ => by simp at h
  | x :: rows, 0, r, j, u, hl, h, hj => by
    simp at h
    subst h
    have hjl := (List.getElem?_eq_some_iff.1 hj).1
    rw [List.flatten_cons, Nat.zero_mul, Nat.zero_add, List.getElem?_append_left hjl]
    exact hj
  | x :: rows, i + 1, r, j, u, hl, h, hj => by
    have hx := hl x (by simp)
    have e : (i + 1) * k + j - x.length = i * k + j := by rw [hx, Nat.succ_mul]; omega
    rw [List.flatten_cons, List.getElem?_append_right (by rw [hx, Nat.succ_mul]; omega), e]
    exact flatK k rows i r j u (fun r hr => hl r (by simp [hr])) (by simpa using h) hj
/-- One of them. -/
theorem Nest.get {α : Type} {k : Nat} {P : World → List Value → α → Prop} {w : World} {s : Value} {l : List α} (h : Nest k P w s l) (h0 : l.length ≠ 0) :
    ∃ g off cap, s = .slice (some ⟨g, off, none⟩) l.length cap ∧ ∀ (i : Nat) (x : α), l[i]? = some x → ∃ r : List Value, r.length = k ∧ P w r x ∧ ∀ (j : Nat) (u : Value), r[j]? = some u → w.cell? ⟨g, off + (i * k + j), none⟩ = some u := by
  obtain ⟨rows, h1, h2, h3, h4⟩ := h
  obtain ⟨g, off, cap, rfl, hc⟩ := h2.1.open h0
  refine ⟨g, off, cap, rfl, fun i x hx => ?_⟩
  have hi : i < rows.length := by rw [h1]; exact (List.getElem?_eq_some_iff.1 hx).1
  exact ⟨rows[i], h3 _ (List.getElem_mem hi), h4 i _ x (List.getElem?_eq_getElem hi) hx, fun j u hu => hc _ u (flatK k rows i _ j u h3 (List.getElem?_eq_getElem hi) hu)⟩
/-- The slice s holds the texts l. -/
def Ss (w : World) (s : Value) (l : List ByteArray) : Prop := Sl w s l.length 1 (l.map .string) ∧ Cap s
theorem Ss.below {w w' : World} {s : Value} {l : List ByteArray} (h : Ss w s l) (hb : Below w.heap.size w w') : Ss w' s l := ⟨h.1.below hb, h.2⟩
theorem Ss.form {w : World} {s : Value} {l : List ByteArray} (h : Ss w s l) : ∃ ad cap, s = .slice ad l.length cap ∧ l.length ≤ cap := by
  obtain ⟨ad, cap, rfl⟩ := h.1.form
  exact ⟨ad, cap, rfl, h.2.le⟩
theorem ss_get {w : World} {g off : Nat} {l : List ByteArray} (hc : ∀ j u, (l.map Value.string)[j]? = some u → w.cell? ⟨g, off + j, none⟩ = some u) {k : Nat} {a : ByteArray} (h : l[k]? = some a) : w.cell? ⟨g, off + k, none⟩ = some (.string a) :=
  hc k _ (by rw [List.getElem?_map, h]; rfl)
/-- The cells of a foreign key. -/
def FrAt (w : World) (cs : List Value) (f : Fr) : Prop := ∃ s, cs = [s, .string f.tab] ∧ Ss w s f.cols
theorem FrAt.below {w w' : World} (hb : Below w.heap.size w w') {cs : List Value} {f : Fr} (h : FrAt w cs f) : FrAt w' cs f := by
  obtain ⟨s, h1, h2⟩ := h
  exact ⟨s, h1, h2.below hb⟩
abbrev FsAt (w : World) (s : Value) (l : List Fr) : Prop := Nest 2 FrAt w s l
/-- The cells of a schema. -/
def ScAt (w : World) (cs : List Value) (s : Sch) : Prop := ∃ sc sf, cs = [.string s.name, sc, .int .i64 s.key, sf] ∧ Cs w sc s.cols ∧ FsAt w sf s.frn
theorem ScAt.below {w w' : World} (hb : Below w.heap.size w w') {cs : List Value} {s : Sch} (h : ScAt w cs s) : ScAt w' cs s := by
  obtain ⟨sc, sf, h1, h2, h3⟩ := h
  exact ⟨sc, sf, h1, h2.below hb, h3.below (fun r x hx => hx.below hb) hb⟩
abbrev LsAt (w : World) (s : Value) (l : List Sch) : Prop := Nest 4 ScAt w s l
theorem LsAt.below {w w' : World} (hb : Below w.heap.size w w') {s : Value} {l : List Sch} (h : LsAt w s l) : LsAt w' s l := Nest.below (fun r x hx => ScAt.below hb hx) h hb
theorem ScAt.shape {w : World} {cs : List Value} {s : Sch} (h : ScAt w cs s) : ∃ a1 c1 a2 c2, cs = [.string s.name, .slice a1 s.cols.length c1, .int .i64 s.key, .slice a2 s.frn.length c2] ∧ Cs w (.slice a1 s.cols.length c1) s.cols ∧ FsAt w (.slice a2 s.frn.length c2) s.frn := by
  obtain ⟨sc, sf, h1, h2, h3⟩ := h
  obtain ⟨a1, c1, rfl⟩ := h2.form
  obtain ⟨a2, c2, rfl, _⟩ := h3.form
  exact ⟨a1, c1, a2, c2, h1, h2, h3⟩
end Go.Proofs.YtokbipfkpojflaaDoor.Sc
