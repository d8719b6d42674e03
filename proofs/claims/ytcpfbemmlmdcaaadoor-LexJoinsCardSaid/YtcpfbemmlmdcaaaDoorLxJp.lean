/-
  Lines of joined texts, and of texts with more blanks and comments (plain lemmas).
-/
import Derived.Test.YtcpfbemmlmdcaaaDoorLxLp
import Derived.Test.YtcpfbemmlmdcaaaDoorLxR
import Derived.Lib.Replace
set_option linter.unusedSimpArgs false
set_option linter.unusedVariables false
namespace Go.Proofs.YtcpfbemmlmdcaaaDoor.Lx
open Go.RowKit Go.Proofs.YtcpfbemmlmdcaaaDoor.Sl

def repL (c : UInt8) (new l : List UInt8) : List UInt8 := l.flatMap fun x => if x = c then new else [x]
theorem replK (c : UInt8) (new : List UInt8) : ∀ l : List UInt8, Lib.replaceK [c] new (Lib.count l [c]) l = repL c new l
  | [] => by rw [Lib.count_one]; rfl
  | x :: xs => by
    have ih := replK c new xs
    by_cases h : x = c
    · subst h
      rw [Lib.count_cons_eq, Nat.add_comm, Lib.replaceK]
      have hi : Lib.index (x :: xs) [x] = 0 := by rw [Lib.index]; simp [List.isPrefixOf]
      rw [hi]
      simp [ih, repL]
    · rw [Lib.count_cons_ne _ _ _ h]
      have hp : ([c] : List UInt8).isPrefixOf (x :: xs) = false := by simp [List.isPrefixOf, Ne.symm h]
      have hix : Lib.index (x :: xs) [c] = if Lib.index xs [c] == -1 then -1 else Lib.index xs [c] + 1 := by rw [Lib.index, hp]; simp
      have hr : repL c new (x :: xs) = x :: repL c new xs := by simp [repL, h]
      rw [hr, ← ih]
      cases hk : Lib.count xs [c] with
      | zero => rfl
      | succ k =>
        by_cases hm : Lib.index xs [c] = -1
        · rw [Lib.replaceK, Lib.replaceK, hix, if_pos (beq_iff_eq.2 hm)]; simp [hm]
        · have hge := Lib.index_ge xs [c]
          obtain ⟨j, hj⟩ : ∃ j : Nat, Lib.index xs [c] = j := ⟨(Lib.index xs [c]).toNat, by omega⟩
          rw [Lib.replaceK, Lib.replaceK, hix, hj]
          have hm2 : ¬ ((j : Int) == -1) = true := by simp; try omega
          have hm3 : ¬ ((j : Int) + 1 == -1) = true := by simp; omega
          rw [if_neg hm2, if_neg hm3]
          have e1 : ((j : Int) + 1).toNat = j + 1 := by omega
          simp [e1]
          try omega
theorem replaceAll_one (c : UInt8) (new l : List UInt8) (h : ¬ [c] = new) : Lib.replaceAll l [c] new = repL c new l := by
  unfold Lib.replaceAll Lib.replace Lib.replaceNum
  rw [if_neg (by simpa using h), if_pos (.inl (by decide))]
  exact replK c new l

theorem splitL_join (c : UInt8) : ∀ a b : List UInt8, splitL c (a ++ c :: b) = splitL c a ++ splitL c b
  | [], b => by simp [splitL]
  | x :: a, b => by
    have ih := splitL_join c a b
    rw [List.cons_append, splitL, splitL]
    by_cases h : x = c
    · rw [if_pos h, if_pos h, ih]; rfl
    · rw [if_neg h, if_neg h, ih]
      cases hs : splitL c a with
      | nil => exact absurd hs (splitL_ne c a)
      | cons p ps => rfl
theorem linesZ_join : ∀ (pa pb : List (List UInt8)) (k : Nat) (acc : List (List Tok)), linesZ k (pa ++ pb) acc = (match linesZ k pa acc with
    | .inl q => .inl q
    | .inr X => linesZ (k + pa.length) pb X)
  | [], pb, k, acc => rfl
  | p :: pa, pb, k, acc => by
    rw [List.cons_append, linesZ, linesZ]
    cases scanL (k + 1) 0 p ⟨[], false, false⟩ with
    | inl c => rfl
    | inr st =>
      show linesZ (k + 1) (pa ++ pb) _ = _
      rw [linesZ_join pa pb (k + 1)]
      simp only [List.length_cons]
      rw [show k + 1 + pa.length = k + (pa.length + 1) by omega]

/-- The words without their places. -/
def tx (l : List Tok) : List ByteArray := l.map (·.1)
def txs (L : List (List Tok)) : List (List ByteArray) := L.map tx
def addT (l : List ByteArray) (c : UInt8) : List ByteArray := match l.getLast? with
  | none => []
  | some t => l.dropLast ++ [t ++ ⟨#[c]⟩]
theorem tx_addLast (l : List Tok) (c : UInt8) : tx (addLast l c) = addT (tx l) c := by
  unfold addLast addT tx
  rw [List.getLast?_map]
  cases l.getLast? with
  | none => rfl
  | some t => simp [List.map_dropLast]
theorem tx_nil {l : List Tok} : tx l = [] ↔ l = [] := by unfold tx; exact List.map_eq_nil_iff
def Rel (s t : St) : Prop := tx s.words = tx t.words ∧ s.comment = t.comment ∧ s.opened = t.opened
theorem step_rel {s t : St} (h : Rel s t) (ln k ln' k' : Nat) (c : UInt8) : Rel (stepC ln k c s) (stepC ln' k' c t) := by
  obtain ⟨ws, cm, op⟩ := s
  obtain ⟨ws', cm', op'⟩ := t
  obtain ⟨h1, h2, h3⟩ := h
  simp only at h1 h2 h3
  subst h2; subst h3
  unfold stepC
  simp only
  split
  · exact ⟨h1, rfl, rfl⟩
  · split
    · exact ⟨by show tx (addLast ws c) = tx (addLast ws' c); rw [tx_addLast, tx_addLast, h1], rfl, rfl⟩
    · exact ⟨by show tx (ws ++ [_]) = tx (ws' ++ [_]); unfold tx at h1 ⊢; rw [List.map_append, List.map_append, h1]; rfl, rfl, rfl⟩
theorem add_rel {acc acc' : List (List Tok)} {P : List (List ByteArray)} {s t : St} (h : Rel s t) (ha : txs acc' = P ++ txs acc) : txs (addLine acc' t.words) = P ++ txs (addLine acc s.words) := by
  have hn : s.words = [] ↔ t.words = [] := by rw [← tx_nil, h.1, tx_nil]
  unfold addLine
  by_cases h0 : s.words = []
  · rw [if_pos h0, if_pos (hn.1 h0)]; exact ha
  · rw [if_neg h0, if_neg (fun e => h0 (hn.2 e))]
    unfold txs at ha ⊢
    rw [List.map_append, List.map_append, ha, List.append_assoc]
    show P ++ (List.map tx acc ++ [tx t.words]) = P ++ (List.map tx acc ++ [tx s.words])
    rw [h.1]
theorem scan_rel : ∀ (p : List UInt8) (ln q ln' q' : Nat) (s t : St), Rel s t → (∀ s2, scanL ln q p s = .inr s2 → ∃ t2, scanL ln' q' p t = .inr t2 ∧ Rel s2 t2) ∧ (∀ c, scanL ln q p s = .inl c → ∃ c', scanL ln' q' p t = .inl c')
  | [], ln, q, ln', q', s, t, h => ⟨fun s2 e => by cases e; exact ⟨t, rfl, h⟩, fun c e => by cases e⟩
  | c :: p, ln, q, ln', q', s, t, h => by
    rw [scanL, scanL]
    by_cases hb : badC c = true
    · rw [if_pos hb, if_pos hb]
      exact ⟨fun s2 e => (by cases e), fun c e => ⟨_, rfl⟩⟩
    · rw [if_neg hb, if_neg hb]
      exact scan_rel p _ _ _ _ _ _ (step_rel h _ _ _ _ c)
theorem lines_rel : ∀ (ps : List (List UInt8)) (k k' : Nat) (acc acc' : List (List Tok)) (P : List (List ByteArray)), txs acc' = P ++ txs acc →
    (∀ o, linesZ k ps acc = .inr o → ∃ o', linesZ k' ps acc' = .inr o' ∧ txs o' = P ++ txs o) ∧ (∀ q, linesZ k ps acc = .inl q → ∃ q', linesZ k' ps acc' = .inl q')
  | [], k, k', acc, acc', P, h => ⟨fun o e => by cases e; exact ⟨acc', rfl, h⟩, fun q e => by cases e⟩
  | p :: ps, k, k', acc, acc', P, h => by
    have hr := scan_rel p (k + 1) 0 (k' + 1) 0 ⟨[], false, false⟩ ⟨[], false, false⟩ ⟨rfl, rfl, rfl⟩
    rw [linesZ, linesZ]
    cases hs : scanL (k + 1) 0 p ⟨[], false, false⟩ with
    | inl c =>
      obtain ⟨c', hc'⟩ := hr.2 c hs
      rw [hc']
      exact ⟨fun o e => (by cases e), fun q e => ⟨_, rfl⟩⟩
    | inr st =>
      obtain ⟨t2, ht, hrel⟩ := hr.1 st hs
      rw [ht]
      exact lines_rel ps _ _ _ _ P (add_rel hrel h)

theorem joins (a b : ByteArray) (ha : a.size ≤ 2000) (hb : b.size ≤ 2000) (c : ByteArray) (hc : c.data.toList = a.data.toList ++ 10 :: b.data.toList) :
    (∀ X p n, linesR a = (X, p, n) → n ≠ 0 → linesR c = ([], p, n)) ∧
    (∀ X p Y q f, linesR a = (X, p, 0) → linesR b = (Y, q, f) → f ≠ 0 → ∃ q', linesR c = ([], q', f)) ∧
    (∀ X p Y q, linesR a = (X, p, 0) → linesR b = (Y, q, 0) → ∃ Z, linesR c = (Z, (0, 0), 0) ∧ txs Z = txs X ++ txs Y) := by
  have e := len_is c
  rw [hc, List.length_append, List.length_cons, len_is, len_is] at e
  have ea : linesR a = linOut (linesZ 0 (splitL 10 a.data.toList) []) := if_neg (by omega)
  have eb : linesR b = linOut (linesZ 0 (splitL 10 b.data.toList) []) := if_neg (by omega)
  have ec : linesR c = linOut (linesZ 0 (splitL 10 c.data.toList) []) := if_neg (by omega)
  rw [hc, splitL_join, linesZ_join] at ec
  refine ⟨fun X p n h hn => ?_, fun X p Y q f h hb2 hf => ?_, fun X p Y q h hb2 => ?_⟩
  · rw [ea] at h
    cases hz : linesZ 0 (splitL 10 a.data.toList) [] with
    | inl r =>
      rw [hz] at h ec
      rw [ec]
      simp [linOut] at h
      obtain ⟨_, h1, h2⟩ := h
      simp [linOut, h1, h2]
    | inr o => rw [hz] at h; simp [linOut] at h; exact absurd h.2.2.symm hn
  · rw [ea] at h
    rw [eb] at hb2
    cases hz : linesZ 0 (splitL 10 a.data.toList) [] with
    | inl r => rw [hz] at h; simp [linOut] at h
    | inr o =>
      rw [hz] at ec
      cases hy : linesZ 0 (splitL 10 b.data.toList) [] with
      | inr o2 => rw [hy] at hb2; simp [linOut] at hb2; exact absurd hb2.2.2.symm hf
      | inl r =>
        rw [hy] at hb2
        simp [linOut] at hb2
        obtain ⟨q', hq'⟩ := (lines_rel (splitL 10 b.data.toList) 0 (0 + (splitL 10 a.data.toList).length) [] o (txs o) (by simp [txs])).2 r hy
        simp only [hq'] at ec
        exact ⟨q', by rw [ec]; simp [linOut, hb2.2.2]⟩
  · rw [ea] at h
    rw [eb] at hb2
    cases hz : linesZ 0 (splitL 10 a.data.toList) [] with
    | inl r => rw [hz] at h; simp [linOut] at h
    | inr o =>
      rw [hz] at ec h
      simp [linOut] at h
      cases hy : linesZ 0 (splitL 10 b.data.toList) [] with
      | inl r => rw [hy] at hb2; simp [linOut] at hb2
      | inr o2 =>
        rw [hy] at hb2
        simp [linOut] at hb2
        obtain ⟨Z, hZ, ht⟩ := (lines_rel (splitL 10 b.data.toList) 0 (0 + (splitL 10 a.data.toList).length) [] o (txs o) (by simp [txs])).1 o2 hy
        simp only [hZ] at ec
        exact ⟨Z, by rw [ec]; rfl, by rw [ht, h.1, hb2.1]⟩

/-- What comes behind a line: a comment. -/
def sfx : List UInt8 := [9, 32, 35, 9, 32, 99, 111, 109, 109, 101, 110, 116]
theorem run_sfx (k q : Nat) (st : St) (acc : List (List Tok)) : lineRun sfx k q st acc = .inr (addLine acc st.words) := by
  obtain ⟨ws, cm, op⟩ := st
  cases cm <;> simp [sfx, lineRun, badC, stepC, offC]
theorem run_rel : ∀ (l : List UInt8) (k q k' q' : Nat) (s t : St) (acc acc' : List (List Tok)), Rel s t → txs acc' = [] ++ txs acc → ∀ o, lineRun l k q s acc = .inr o → ∃ o', lineRun (repL 32 [9, 32] l ++ sfx) k' q' t acc' = .inr o' ∧ txs o' = txs o
  | [], k, q, k', q', s, t, acc, acc', h, ha, o, e => by
    cases e
    exact ⟨_, run_sfx k' q' t acc', by have := add_rel h ha; simpa using this⟩
  | c :: l, k, q, k', q', s, t, acc, acc', h, ha, o, e => by
    rw [lineRun] at e
    by_cases h10 : c = 10
    · subst h10
      rw [if_pos rfl] at e
      have hr : repL 32 [9, 32] (10 :: l) = 10 :: repL 32 [9, 32] l := by simp [repL]
      rw [hr, List.cons_append, lineRun, if_pos rfl]
      exact run_rel l _ _ _ _ _ _ _ _ ⟨rfl, rfl, rfl⟩ (add_rel h ha) o e
    · rw [if_neg h10] at e
      by_cases hb : badC c = true
      · rw [if_pos hb] at e; cases e
      · rw [if_neg hb] at e
        by_cases h32 : c = 32
        · subst h32
          have hr : repL 32 [9, 32] (32 :: l) = 9 :: 32 :: repL 32 [9, 32] l := by simp [repL]
          rw [hr, List.cons_append, List.cons_append, lineRun, if_neg (by decide), if_neg (by decide), lineRun, if_neg (by decide), if_neg (by decide)]
          refine run_rel l _ _ _ _ _ _ _ _ ?_ ha o e
          obtain ⟨ws, cm, op⟩ := s
          obtain ⟨ws', cm', op'⟩ := t
          obtain ⟨h1, h2, h3⟩ := h
          simp only at h1 h2 h3
          subst h2
          simp [Rel, stepC, offC, h1]
        · have hr : repL 32 [9, 32] (c :: l) = c :: repL 32 [9, 32] l := by simp [repL, h32]
          rw [hr, List.cons_append, lineRun, if_neg h10, if_neg hb]
          exact run_rel l _ _ _ _ _ _ _ _ (step_rel h _ _ _ _ c) ha o e
theorem blanks (a c : ByteArray) (ha : a.size ≤ 2000) (hc : c.data.toList = repL 32 [9, 32] (32 :: (a.data.toList ++ [32, 35, 32, 99, 111, 109, 109, 101, 110, 116]))) (X : List (List Tok)) (p : Nat × Nat) (h : linesR a = (X, p, 0)) :
    c.size ≤ 4100 ∧ ∃ C, linesR c = (C, (0, 0), 0) ∧ txs C = txs X := by
  have hrl : ∀ l : List UInt8, (repL 32 [9, 32] l).length ≤ 2 * l.length := by
    intro l
    induction l with
    | nil => exact Nat.zero_le _
    | cons x l ih =>
      have : repL 32 [9, 32] (x :: l) = (if x = 32 then [9, 32] else [x]) ++ repL 32 [9, 32] l := by simp [repL]
      rw [this, List.length_append, List.length_cons]
      split <;> simp <;> omega
  have hsz : c.size ≤ 4100 := by
    have e := len_is c
    have := hrl (32 :: (a.data.toList ++ [32, 35, 32, 99, 111, 109, 109, 101, 110, 116]))
    rw [hc] at e
    simp only [List.length_cons, List.length_append, len_is] at this
    simp at this
    omega
  refine ⟨hsz, ?_⟩
  have hl : c.data.toList = 9 :: 32 :: (repL 32 [9, 32] a.data.toList ++ sfx) := by
    rw [hc]
    simp [repL, sfx]
  rw [lineRun_lines c (by omega), hl, lineRun, if_neg (by decide), if_neg (by decide), lineRun, if_neg (by decide), if_neg (by decide)]
  rw [lineRun_lines a (by omega)] at h
  cases hz : lineRun a.data.toList 0 0 ⟨[], false, false⟩ [] with
  | inl r => rw [hz] at h; simp [linOut] at h
  | inr o =>
    rw [hz] at h
    simp [linOut] at h
    obtain ⟨o', ho, ht⟩ := run_rel a.data.toList 0 0 0 2 ⟨[], false, false⟩ (stepC 1 1 32 (stepC 1 0 9 ⟨[], false, false⟩)) [] [] ⟨rfl, rfl, rfl⟩ rfl o hz
    exact ⟨o', by show linOut (lineRun (repL 32 [9, 32] a.data.toList ++ sfx) 0 2 (stepC 1 1 32 (stepC 1 0 9 ⟨[], false, false⟩)) []) = _; rw [ho]; rfl, by rw [ht, h.1]⟩
end Go.Proofs.YtcpfbemmlmdcaaaDoor.Lx
