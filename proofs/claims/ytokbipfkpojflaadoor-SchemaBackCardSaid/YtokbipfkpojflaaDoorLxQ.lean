/-
  The words of a text's lines (plain definitions and lemmas; nothing of the program).
-/
import Derived.Test.YtokbipfkpojflaaDoorLxP
import Derived.Test.YtokbipfkpojflaaDoorSl
namespace Go.Proofs.YtokbipfkpojflaaDoor.Lx
open Go Go.RowKit Go.Proofs.YtokbipfkpojflaaDoor.Sl

/-- A word: its text, its line, its column. -/
abbrev Tok := ByteArray × Nat × Nat
def tokV (t : Tok) : List Value := [.string t.1, .int .i64 t.2.1, .int .i64 t.2.2]
def cellsT (l : List Tok) : List Value := l.flatMap tokV
def badC (c : UInt8) : Bool := !(c.toNat == 9) && (decide (c.toNat < 32) || decide (126 < c.toNat))
/-- A byte that stands in no word: in a comment, or a blank. -/
def offC (cm : Bool) (c : UInt8) : Bool := cm || c.toNat == 35 || c.toNat == 32 || c.toNat == 9
structure St where
  words : List Tok
  comment : Bool
  opened : Bool
def addLast (l : List Tok) (c : UInt8) : List Tok := match l.getLast? with
  | none => []
  | some t => l.dropLast ++ [(t.1 ++ ⟨#[c]⟩, t.2)]
def stepC (ln k : Nat) (c : UInt8) (st : St) : St :=
  if offC st.comment c then ⟨st.words, st.comment || c.toNat == 35, false⟩
  else if st.opened then ⟨addLast st.words c, false, true⟩
  else ⟨st.words ++ [(⟨#[c]⟩, ln, k + 1)], false, true⟩
def scanL (ln : Nat) : Nat → List UInt8 → St → Nat ⊕ St
  | _, [], st => .inr st
  | k, c :: cs, st => if badC c then .inl (k + 1) else scanL ln (k + 1) cs (stepC ln k c st)
def addLine (acc : List (List Tok)) (l : List Tok) : List (List Tok) := if l = [] then acc else acc ++ [l]
def linesZ : Nat → List (List UInt8) → List (List Tok) → (Nat × Nat) ⊕ List (List Tok)
  | _, [], acc => .inr acc
  | i, p :: ps, acc => match scanL (i + 1) 0 p ⟨[], false, false⟩ with
    | .inl c => .inl (i + 1, c)
    | .inr st => linesZ (i + 1) ps (addLine acc st.words)
def linOut : (Nat × Nat) ⊕ List (List Tok) → List (List Tok) × (Nat × Nat) × Nat
  | .inl p => ([], p, 3)
  | .inr l => (l, (0, 0), 0)
/-- What Lines returns: the lines' words, the place of an error, its number. -/
def linesR (s : ByteArray) : List (List Tok) × (Nat × Nat) × Nat :=
  if 65536 < s.size then ([], (0, 0), 5) else linOut (linesZ 0 (splitL 10 s.data.toList) [])

theorem scanL_bad (ln k : Nat) (l : List UInt8) (c : UInt8) (st : St) (h : l[k]? = some c) (hb : badC c = true) : scanL ln k (l.drop k) st = .inl (k + 1) := by
  obtain ⟨hk, he⟩ := List.getElem?_eq_some_iff.1 h
  rw [List.drop_eq_getElem_cons hk, he, scanL, if_pos hb]
theorem scanL_ok (ln k : Nat) (l : List UInt8) (c : UInt8) (st : St) (h : l[k]? = some c) (hb : badC c = false) : scanL ln k (l.drop k) st = scanL ln (k + 1) (l.drop (k + 1)) (stepC ln k c st) := by
  obtain ⟨hk, he⟩ := List.getElem?_eq_some_iff.1 h
  rw [List.drop_eq_getElem_cons hk, he, scanL, if_neg (by simp [hb])]
theorem scanL_end (ln k : Nat) (l : List UInt8) (st : St) (h : l.length ≤ k) : scanL ln k (l.drop k) st = .inr st := by
  rw [List.drop_eq_nil_of_le h, scanL]
theorem linesZ_bad (k c : Nat) (ps : List (List UInt8)) (p : List UInt8) (acc : List (List Tok)) (h : ps[k]? = some p) (hb : scanL (k + 1) 0 p ⟨[], false, false⟩ = .inl c) : linesZ k (ps.drop k) acc = .inl (k + 1, c) := by
  obtain ⟨hk, he⟩ := List.getElem?_eq_some_iff.1 h
  rw [List.drop_eq_getElem_cons hk, he, linesZ, hb]
theorem linesZ_ok (k : Nat) (ps : List (List UInt8)) (p : List UInt8) (acc : List (List Tok)) (st : St) (h : ps[k]? = some p) (hb : scanL (k + 1) 0 p ⟨[], false, false⟩ = .inr st) : linesZ k (ps.drop k) acc = linesZ (k + 1) (ps.drop (k + 1)) (addLine acc st.words) := by
  obtain ⟨hk, he⟩ := List.getElem?_eq_some_iff.1 h
  rw [List.drop_eq_getElem_cons hk, he, linesZ, hb]
theorem linesZ_end (k : Nat) (ps : List (List UInt8)) (acc : List (List Tok)) (h : ps.length ≤ k) : linesZ k (ps.drop k) acc = .inr acc := by
  rw [List.drop_eq_nil_of_le h, linesZ]

theorem cellsT_len (l : List Tok) : (cellsT l).length = l.length * 3 := by
  induction l with
  | nil => rfl
  | cons t l ih => rw [cellsT, List.flatMap_cons, List.length_append, show (l.flatMap tokV).length = l.length * 3 from ih]; simp [tokV]; omega
theorem cellsT_app (l m : List Tok) : cellsT (l ++ m) = cellsT l ++ cellsT m := by simp [cellsT]
theorem cellsT_one (t : Tok) : cellsT [t] = tokV t := by simp [cellsT]
/-- The last word's text. -/
theorem cellsT_last (l : List Tok) (t : Tok) : (cellsT (l ++ [t]))[l.length * 3]? = some (.string t.1) := by
  rw [cellsT_app, List.getElem?_append_right (by rw [cellsT_len]; omega), cellsT_len, cellsT_one]
  simp [tokV]
theorem cellsT_set (l : List Tok) (t : Tok) (x : ByteArray) : (cellsT (l ++ [t])).set (l.length * 3) (.string x) = cellsT (l ++ [(x, t.2)]) := by
  rw [cellsT_app, cellsT_app, cellsT_one, cellsT_one, List.set_append_right (h := by rw [cellsT_len]; omega), cellsT_len]
  simp [tokV]
theorem addLast_snoc (l : List Tok) (t : Tok) (c : UInt8) : addLast (l ++ [t]) c = l ++ [(t.1 ++ ⟨#[c]⟩, t.2)] := by simp [addLast]
theorem snoc_of {α : Type} (l : List α) (h : l ≠ []) : ∃ m t, l = m ++ [t] := ⟨l.dropLast, l.getLast h, (List.dropLast_concat_getLast h).symm⟩
theorem ext_one (s : ByteArray) (k : Nat) (h : k < s.size) : s.extract k (k + 1) = ⟨#[s[k]]⟩ := by
  obtain ⟨⟨l⟩⟩ := s
  have hl : k < l.length := h
  show ByteArray.mk _ = _
  rw [ByteArray.mk.injEq]
  apply Array.ext'
  simp [List.take_one, List.head?_drop]
  exact List.getElem?_eq_getElem hl

/-- The lines' words can be read: the slice v holds a slice of words for each line. -/
def Ls (w : World) (v : Value) (ls : List (List Tok)) : Prop :=
  ∃ hs : List Value, Sl w v ls.length 1 hs ∧ ∀ (j : Nat) (h : Value) (l : List Tok), hs[j]? = some h → ls[j]? = some l → Sl w h l.length 3 (cellsT l)
theorem Ls.below {w w' : World} {v : Value} {ls : List (List Tok)} (h : Ls w v ls) (hb : Below w.heap.size w w') : Ls w' v ls := by
  obtain ⟨hs, h1, h2⟩ := h
  exact ⟨hs, h1.below hb, fun j x l hx hl => (h2 j x l hx hl).below hb⟩
theorem Ls.nil (w : World) (ad : Option Addr) (cap : Nat) : Ls w (.slice ad 0 cap) [] := ⟨[], Sl.mk0 .., fun j h l hj => by simp at hj⟩
end Go.Proofs.YtokbipfkpojflaaDoor.Lx
