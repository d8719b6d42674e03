/-
  Each word stands at its place (plain lemmas on the words of lines).
-/
import Derived.Test.YtcpfbemmlmdcaaaDoorLxQ
import Derived.Lib.IndexAny
set_option linter.unusedSimpArgs false
set_option linter.unusedVariables false
namespace Go.Proofs.YtcpfbemmlmdcaaaDoor.Lx
open Go Go.RowKit Go.Proofs.YtcpfbemmlmdcaaaDoor.Sl

/-- A word stands at its place in a line. -/
def TokOk (p : List UInt8) (ln : Nat) (t : Tok) : Prop :=
  t.2.1 = ln ∧ 1 ≤ t.2.2 ∧ 0 < t.1.size ∧ (p.drop (t.2.2 - 1)).take t.1.size = t.1.data.toList ∧ (∀ b ∈ t.1.data.toList, b.toNat < 128 ∧ b ≠ 32 ∧ b ≠ 9 ∧ b ≠ 35) ∧ (35 : UInt8) ∉ p.take (t.2.2 - 1)
/-- Words of one line, in order, up to column k. -/
def WOk (p : List UInt8) (ln k : Nat) (ws : List Tok) : Prop :=
  (∀ t ∈ ws, TokOk p ln t ∧ t.2.2 - 1 + t.1.size ≤ k) ∧ ∀ (i : Nat) (s t : Tok), ws[i]? = some s → ws[i + 1]? = some t → s.2.2 - 1 + s.1.size ≤ t.2.2 - 1
def SOk (p : List UInt8) (ln k : Nat) (st : St) : Prop :=
  WOk p ln k st.words ∧ (st.comment = false → (35 : UInt8) ∉ p.take k) ∧ (st.opened = true → ∃ ws t, st.words = ws ++ [t] ∧ t.2.2 - 1 + t.1.size = k)

theorem take_snoc (p : List UInt8) (k : Nat) (c : UInt8) (h : p[k]? = some c) : p.take (k + 1) = p.take k ++ [c] := by
  obtain ⟨hk, e⟩ := List.getElem?_eq_some_iff.1 h
  rw [List.take_add_one, h]; rfl
theorem WOk.more {p : List UInt8} {ln k : Nat} {ws : List Tok} (h : WOk p ln k ws) : WOk p ln (k + 1) ws :=
  ⟨fun t ht => ⟨(h.1 t ht).1, by have := (h.1 t ht).2; omega⟩, h.2⟩
theorem WOk.snoc {p : List UInt8} {ln k e : Nat} {ws : List Tok} {t : Tok} (h : WOk p ln k ws) (ht : TokOk p ln t) (h1 : k ≤ t.2.2 - 1) (h2 : t.2.2 - 1 + t.1.size ≤ e) : WOk p ln e (ws ++ [t]) := by
  refine ⟨fun x hx => ?_, fun i s u hs hu => ?_⟩
  · rcases List.mem_append.1 hx with hx | hx
    · obtain ⟨a, b⟩ := h.1 x hx
      exact ⟨a, by omega⟩
    · rw [List.mem_singleton.1 hx]; exact ⟨ht, h2⟩
  · have hil := (List.getElem?_eq_some_iff.1 hu).1
    rw [List.length_append, List.length_singleton] at hil
    rw [List.getElem?_append_left (by omega)] at hs
    by_cases hi : i + 1 < ws.length
    · rw [List.getElem?_append_left hi] at hu
      exact h.2 i s u hs hu
    · rw [List.getElem?_append_right (by omega), show i + 1 - ws.length = 0 by omega] at hu
      cases hu
      have := (h.1 s (List.mem_of_getElem? hs)).2
      omega
theorem WOk.init {p : List UInt8} {ln k : Nat} {ws : List Tok} {t : Tok} (h : WOk p ln k (ws ++ [t])) : WOk p ln (t.2.2 - 1) ws ∧ TokOk p ln t := by
  refine ⟨⟨fun x hx => ⟨(h.1 x (List.mem_append_left _ hx)).1, ?_⟩, fun i s u hs hu => ?_⟩, (h.1 t (by simp)).1⟩
  · obtain ⟨i, hi, e⟩ := List.mem_iff_getElem.1 hx
    -- the words from i on are in order
    have key : ∀ (d i : Nat) (x : Tok), ws.length - i = d → ws[i]? = some x → x.2.2 - 1 + x.1.size ≤ t.2.2 - 1 := by
      intro d
      induction d with
      | zero => intro i x hd hx; have := (List.getElem?_eq_some_iff.1 hx).1; omega
      | succ d ih =>
        intro i x hd hx
        have hi := (List.getElem?_eq_some_iff.1 hx).1
        have hx2 : (ws ++ [t])[i]? = some x := by rw [List.getElem?_append_left hi]; exact hx
        by_cases h1 : i + 1 < ws.length
        · have hy : ws[i + 1]? = some ws[i + 1] := List.getElem?_eq_getElem h1
          have hy2 : (ws ++ [t])[i + 1]? = some ws[i + 1] := by rw [List.getElem?_append_left h1]; exact hy
          have a := h.2 i x _ hx2 hy2
          have b := ih (i + 1) _ (by omega) hy
          omega
        · have hy2 : (ws ++ [t])[i + 1]? = some t := by
            rw [List.getElem?_append_right (by omega), show i + 1 - ws.length = 0 by omega]; rfl
          exact h.2 i x _ hx2 hy2
    exact key _ i x rfl (by rw [List.getElem?_eq_getElem hi, e])
  · have h1 := (List.getElem?_eq_some_iff.1 hs).1
    have h2 := (List.getElem?_eq_some_iff.1 hu).1
    exact h.2 i s u (by rw [List.getElem?_append_left h1]; exact hs) (by rw [List.getElem?_append_left h2]; exact hu)

theorem word_byte (c : UInt8) (hb : badC c = false) (ho : offC false c = false) : c.toNat < 128 ∧ c ≠ 32 ∧ c ≠ 9 ∧ c ≠ 35 := by
  simp [offC] at ho
  simp [badC] at hb
  refine ⟨by omega, ?_, ?_, ?_⟩
  · rintro rfl; simp at ho
  · rintro rfl; simp at ho
  · rintro rfl; simp at ho

theorem step_ok (p : List UInt8) (ln k : Nat) (c : UInt8) (st : St) (hc : p[k]? = some c) (hb : badC c = false) (h : SOk p ln k st) : SOk p ln (k + 1) (stepC ln k c st) := by
  obtain ⟨hw, hcm, hop⟩ := h
  obtain ⟨ws, cm, op⟩ := st
  simp only at hw hcm hop
  unfold stepC
  simp only
  by_cases ho : offC cm c = true
  · rw [if_pos ho]
    refine ⟨hw.more, fun h => ?_, fun h => by cases h⟩
    simp only [Bool.or_eq_false_iff] at h
    rw [take_snoc p k c hc, List.mem_append]
    intro hm
    rcases hm with hm | hm
    · exact hcm h.1 hm
    · rw [← List.mem_singleton.1 hm] at h; simp at h
  · rw [if_neg ho]
    have hcf : cm = false := by
      cases cm
      · rfl
      · simp [offC] at ho
    subst hcf
    have ho' : offC false c = false := by simpa using ho
    have hby := word_byte c hb ho'
    have h35 : (35 : UInt8) ∉ p.take (k + 1) := by
      rw [take_snoc p k c hc, List.mem_append]
      intro hm
      rcases hm with hm | hm
      · exact hcm rfl hm
      · exact hby.2.2.2 (List.mem_singleton.1 hm).symm
    obtain ⟨hk, hce⟩ := List.getElem?_eq_some_iff.1 hc
    cases op
    · refine ⟨?_, fun _ => h35, fun _ => ⟨ws, (⟨#[c]⟩, ln, k + 1), rfl, rfl⟩⟩
      show WOk p ln (k + 1) (ws ++ [((⟨#[c]⟩ : ByteArray), ln, k + 1)])
      refine hw.snoc ⟨rfl, Nat.le_add_left _ _, Nat.zero_lt_one, ?_, ?_, hcm rfl⟩ (Nat.le_refl _) (Nat.le_refl _)
      · show (p.drop k).take 1 = [c]
        rw [List.drop_eq_getElem_cons hk, hce]; rfl
      · intro b hb2
        have : b = c := List.mem_singleton.1 hb2
        rw [this]; exact hby
    · obtain ⟨ws', t, rfl, hend⟩ := hop rfl
      obtain ⟨hi, ht⟩ := hw.init
      refine ⟨?_, fun _ => h35, fun _ => ⟨ws', (t.1 ++ ⟨#[c]⟩, t.2), by rw [show (if (true : Bool) = true then (⟨addLast (ws' ++ [t]) c, false, true⟩ : St) else ⟨ws' ++ [t] ++ [(⟨#[c]⟩, ln, k + 1)], false, true⟩).words = addLast (ws' ++ [t]) c from rfl, addLast_snoc], ?_⟩⟩
      · show WOk p ln (k + 1) (addLast (ws' ++ [t]) c)
        rw [addLast_snoc]
        obtain ⟨h1, h2, h3, h4, h5, h6⟩ := ht
        have hsz : (t.1 ++ (⟨#[c]⟩ : ByteArray)).size = t.1.size + 1 := by rw [ByteArray.size_append]; rfl
        have hdl : (t.1 ++ (⟨#[c]⟩ : ByteArray)).data.toList = t.1.data.toList ++ [c] := by simp
        refine hi.snoc ⟨h1, h2, by rw [hsz]; omega, ?_, ?_, h6⟩ (Nat.le_refl _) (by rw [hsz]; show t.2.2 - 1 + (t.1.size + 1) ≤ k + 1; omega)
        · show (p.drop (t.2.2 - 1)).take (t.1 ++ (⟨#[c]⟩ : ByteArray)).size = _
          rw [hsz, hdl, List.take_add_one, h4, List.getElem?_drop, hend, hc]; rfl
        · intro b hb2
          show _
          rw [show ((t.1 ++ (⟨#[c]⟩ : ByteArray), t.2) : Tok).1.data.toList = t.1.data.toList ++ [c] from hdl] at hb2
          rcases List.mem_append.1 hb2 with hb2 | hb2
          · exact h5 b hb2
          · rw [List.mem_singleton.1 hb2]; exact hby
      · show t.2.2 - 1 + (t.1 ++ (⟨#[c]⟩ : ByteArray)).size = k + 1
        rw [ByteArray.size_append]
        show t.2.2 - 1 + (t.1.size + 1) = k + 1
        omega
theorem scan_ok (p : List UInt8) (ln : Nat) : ∀ (d k : Nat) (st st' : St), p.length - k = d → k ≤ p.length → SOk p ln k st → scanL ln k (p.drop k) st = .inr st' → SOk p ln p.length st'
  | 0, k, st, st', hd, hk, h, hs => by
    obtain rfl : k = p.length := by omega
    rw [scanL_end ln _ p st (Nat.le_refl _)] at hs
    cases hs; exact h
  | d + 1, k, st, st', hd, hk, h, hs => by
    have hlt : k < p.length := by omega
    have hc : p[k]? = some p[k] := List.getElem?_eq_getElem hlt
    cases hb : badC p[k] with
    | true => rw [scanL_bad ln k p _ st hc hb] at hs; cases hs
    | false =>
      rw [scanL_ok ln k p _ st hc hb] at hs
      exact scan_ok p ln d (k + 1) _ st' (by omega) (by omega) (step_ok p ln k _ st hc hb h) hs

/-- The lines' words stand at their places: line j is that of piece idx j. -/
def LOk (ps : List (List UInt8)) (k : Nat) (L : List (List Tok)) (idx : List Nat) : Prop :=
  idx.length = L.length ∧ (∀ (j i : Nat) (ws : List Tok), idx[j]? = some i → L[j]? = some ws → ws ≠ [] ∧ i < k ∧ ∃ p, ps[i]? = some p ∧ WOk p (i + 1) p.length ws) ∧ ∀ (j a b : Nat), idx[j]? = some a → idx[j + 1]? = some b → a < b
theorem lines_ok2 (ps : List (List UInt8)) : ∀ (d k : Nat) (acc out : List (List Tok)) (idx : List Nat), ps.length - k = d → k ≤ ps.length → LOk ps k acc idx → linesZ k (ps.drop k) acc = .inr out → ∃ idx', LOk ps ps.length out idx'
  | 0, k, acc, out, idx, hd, hk, h, hl => by
    obtain rfl : k = ps.length := by omega
    rw [linesZ_end _ ps acc (Nat.le_refl _)] at hl
    cases hl; exact ⟨idx, h⟩
  | d + 1, k, acc, out, idx, hd, hk, h, hl => by
    have hlt : k < ps.length := by omega
    have hp : ps[k]? = some ps[k] := List.getElem?_eq_getElem hlt
    cases hs : scanL (k + 1) 0 ps[k] ⟨[], false, false⟩ with
    | inl c => rw [linesZ_bad k c ps _ acc hp hs] at hl; cases hl
    | inr st =>
      rw [linesZ_ok k ps _ acc st hp hs] at hl
      have hS : SOk ps[k] (k + 1) 0 ⟨[], false, false⟩ := ⟨⟨fun t ht => by simp at ht, fun i s t hs => by simp at hs⟩, fun _ => by simp, fun h => by cases h⟩
      have hw := (scan_ok ps[k] (k + 1) _ 0 _ st rfl (Nat.zero_le _) hS (by rw [List.drop_zero]; exact hs)).1
      obtain ⟨h1, h2, h3⟩ := h
      by_cases hn : st.words = []
      · refine lines_ok2 ps d (k + 1) _ out idx (by omega) hlt ?_ hl
        rw [addLine, if_pos hn]
        exact ⟨h1, fun j i ws hj hw => by obtain ⟨a, b, c⟩ := h2 j i ws hj hw; exact ⟨a, by omega, c⟩, h3⟩
      · refine lines_ok2 ps d (k + 1) _ out (idx ++ [k]) (by omega) hlt ?_ hl
        rw [addLine, if_neg hn]
        refine ⟨by simp [h1], fun j i ws hj hw2 => ?_, fun j a b ha hb => ?_⟩
        · by_cases hjl : j < acc.length
          · rw [List.getElem?_append_left (by omega)] at hj
            rw [List.getElem?_append_left hjl] at hw2
            obtain ⟨a, b, c⟩ := h2 j i ws hj hw2
            exact ⟨a, by omega, c⟩
          · have hj2 := (List.getElem?_eq_some_iff.1 hw2).1
            rw [List.length_append, List.length_singleton] at hj2
            rw [List.getElem?_append_right (by omega), show j - idx.length = 0 by omega] at hj
            rw [List.getElem?_append_right (by omega), show j - acc.length = 0 by omega] at hw2
            cases hj; cases hw2
            exact ⟨hn, by omega, _, hp, hw⟩
        · have hj2 := (List.getElem?_eq_some_iff.1 hb).1
          rw [List.length_append, List.length_singleton] at hj2
          rw [List.getElem?_append_left (by omega)] at ha
          by_cases hjl : j + 1 < idx.length
          · rw [List.getElem?_append_left hjl] at hb
            exact h3 j a b ha hb
          · rw [List.getElem?_append_right (by omega), show j + 1 - idx.length = 0 by omega] at hb
            cases hb
            have haj := (List.getElem?_eq_some_iff.1 ha).1
            obtain ⟨ws, hws⟩ : ∃ ws, acc[j]? = some ws := ⟨_, List.getElem?_eq_getElem (by omega)⟩
            exact (h2 j a ws ha hws).2.1
theorem linesR_places (s : ByteArray) (L : List (List Tok)) (p : Nat × Nat) (h : linesR s = (L, p, 0)) : ∃ idx, LOk (splitL 10 s.data.toList) (splitL 10 s.data.toList).length L idx := by
  unfold linesR at h
  split at h
  · cases h
  · cases hz : linesZ 0 (splitL 10 s.data.toList) [] with
    | inl q => rw [hz] at h; simp [linOut] at h
    | inr out =>
      rw [hz] at h
      simp [linOut] at h
      obtain ⟨rfl, _⟩ := h
      exact lines_ok2 _ _ 0 [] out [] rfl (Nat.zero_le _) ⟨rfl, fun j i ws hj => by simp at hj, fun j a b ha => by simp at ha⟩ (by rw [List.drop_zero]; exact hz)
theorem linesR_err (s : ByteArray) (L : List (List Tok)) (p : Nat × Nat) (n : Nat) (h : linesR s = (L, p, n)) (hn : n ≠ 0) : L = [] := by
  unfold linesR at h
  split at h
  · cases h; rfl
  · cases hz : linesZ 0 (splitL 10 s.data.toList) [] with
    | inl q => rw [hz] at h; simp [linOut] at h; exact h.1
    | inr out => rw [hz] at h; simp [linOut] at h; exact absurd h.2.2.symm hn
theorem any_none : ∀ l : List UInt8, (∀ b ∈ l, b ≠ 32 ∧ b ≠ 9 ∧ b ≠ 35) → Lib.containsAny l [32, 9, 35] = false := by
  have key : ∀ l : List UInt8, (∀ b ∈ l, b ≠ 32 ∧ b ≠ 9 ∧ b ≠ 35) → Lib.indexAny l [32, 9, 35] = -1 := by
    intro l
    induction l with
    | nil => intro _; rfl
    | cons b l ih =>
      intro h
      obtain ⟨h1, h2, h3⟩ := h b (by simp)
      have := ih (fun x hx => h x (by simp [hx]))
      unfold Lib.indexAny
      rw [if_neg (by simp [h1, h2, h3]), if_pos (by rw [this]; rfl)]
  intro l h
  unfold Lib.containsAny
  rw [key l h]; rfl
theorem index_none : ∀ (l : List UInt8) (c : UInt8), c ∉ l → Lib.indexByte l c = -1
  | [], _, _ => rfl
  | b :: l, c, h => by
    unfold Lib.indexByte
    have hb : ¬ b = c := fun e => h (by simp [e])
    rw [if_neg (by simpa using hb), if_pos (by rw [index_none l c (fun e => h (by simp [e]))]; rfl)]
end Go.Proofs.YtcpfbemmlmdcaaaDoor.Lx
