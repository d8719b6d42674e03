/-
  Conditions, as trees (plain lemmas; nothing of the program's functions).
-/
import Derived.Test.YtokbipfkpojflaaDoorVaP
import Derived.Test.YtokbipfkpojflaaDoorSl
namespace Go.Proofs.YtokbipfkpojflaaDoor.Va
open Go Go.RowKit Go.Proofs.YtokbipfkpojflaaDoor.Sl

inductive CN where
  | mk (k : Int) (col oth : ByteArray) (v : V3) (L : List CN)
theorem CN.size_lt {x : CN} {k : Int} {col oth : ByteArray} {v : V3} {L : List CN} (h : x ∈ L) : SizeOf.sizeOf x < SizeOf.sizeOf (CN.mk k col oth v L) := by
  have := List.sizeOf_lt_of_mem h
  simp only [CN.mk.sizeOf_spec]
  omega
theorem CN.ind {P : CN → Prop} (h : ∀ k col oth v L, (∀ x ∈ L, P x) → P (.mk k col oth v L)) : ∀ c, P c := by
  intro c
  generalize hn : SizeOf.sizeOf c = n
  induction n using Nat.strongRecOn generalizing c with
  | _ n ih =>
    obtain ⟨k, col, oth, v, L⟩ := c
    refine h k col oth v L fun x hx => ih (SizeOf.sizeOf x) ?_ x rfl
    rw [← hn]
    exact CN.size_lt hx
def CN.k : CN → Int | .mk k _ _ _ _ => k
def CN.L : CN → List CN | .mk _ _ _ _ L => L
def zeroV : V3 := (0, 0, ⟨#[]⟩)
/-- How many conditions stand below a kind. -/
def arity (k : Int) : Nat := if k = 4 then 1 else if k = 5 then 2 else if k = 6 then 2 else 0
/-- A node by itself is well-formed. -/
def okN (k : Int) (col oth : ByteArray) (v : V3) (n : Nat) : Bool :=
  if k = 1 ∨ k = 2 then decide (col.size ≠ 0) && decide (n = 0) && (if oth.size = 0 then validV v else decide (v = zeroV))
  else if k = 3 ∨ k = 4 ∨ k = 5 ∨ k = 6 then decide (col.size = 0) && decide (oth.size = 0) && decide (v = zeroV) && decide (n = arity k)
  else false
mutual
/-- The nodes of a condition. -/
def cnt : CN → Nat
  | .mk _ _ _ _ L => 1 + cntL L
def cntL : List CN → Nat
  | [] => 0
  | x :: L => cnt x + cntL L
end
mutual
/-- Every node is well-formed, and none is too deep. -/
def good : CN → Nat → Bool
  | .mk k col oth v L, d => decide (d ≤ 12) && okN k col oth v L.length && goodL L (d + 1)
def goodL : List CN → Nat → Bool
  | [], _ => true
  | x :: L, d => good x d && goodL L d
end
mutual
/-- Well-formed, counted from n on: the answer and the count. -/
def fmd : CN → Nat → Nat → Bool × Nat
  | .mk k col oth v L, d, n => if 60 < n + 1 ∨ 12 < d then (false, n + 1) else if okN k col oth v L.length then fmdL L (d + 1) (n + 1) else (false, n + 1)
def fmdL : List CN → Nat → Nat → Bool × Nat
  | [], _, n => (true, n)
  | x :: L, d, n => if (fmd x d n).1 then fmdL L d (fmd x d n).2 else (false, (fmd x d n).2)
end
mutual
/-- The reference's count: more than 60 where it is not well-formed. -/
def nds : CN → Nat → Int
  | .mk k col oth v L, d => if 12 < d ∨ okN k col oth v L.length = false then 61 else ndsL L (d + 1) 1
def ndsL : List CN → Nat → Int → Int
  | [], _, n => n
  | x :: L, d, n => if n ≤ 60 then ndsL L d (n + nds x d) else n
end
theorem cnt_pos (c : CN) : 1 ≤ cnt c := by obtain ⟨k, col, oth, v, L⟩ := c; unfold cnt; omega

/-- The code's answer: all nodes well-formed, and not more than 60. -/
theorem fmd_spec : ∀ c d n, n ≤ 60 → (good c d = true ∧ n + cnt c ≤ 60 → fmd c d n = (true, n + cnt c)) ∧ (¬ (good c d = true ∧ n + cnt c ≤ 60) → (fmd c d n).1 = false) := by
  intro c
  induction c using CN.ind with
  | h k col oth v L ih =>
    intro d n hn
    have key : ∀ (M : List CN), (∀ x ∈ M, x ∈ L) → ∀ m, m ≤ 60 → (goodL M (d + 1) = true ∧ m + cntL M ≤ 60 → fmdL M (d + 1) m = (true, m + cntL M)) ∧ (¬ (goodL M (d + 1) = true ∧ m + cntL M ≤ 60) → (fmdL M (d + 1) m).1 = false) := by
      intro M
      induction M with
      | nil =>
        intro _ m hm
        refine ⟨fun _ => by simp [fmdL, cntL], fun h => absurd ⟨by simp [goodL], by simp [cntL]; omega⟩ h⟩
      | cons x M ihM =>
        intro hM m hm
        obtain ⟨h1, h2⟩ := ih x (hM x (by simp)) (d + 1) m hm
        rw [fmdL, goodL, cntL]
        by_cases hg : good x (d + 1) = true ∧ m + cnt x ≤ 60
        · rw [h1 hg]
          simp only [if_true]
          obtain ⟨h3, h4⟩ := ihM (fun y hy => hM y (by simp [hy])) (m + cnt x) hg.2
          refine ⟨fun h => ?_, fun h => ?_⟩
          · rw [Bool.and_eq_true] at h
            rw [h3 ⟨h.1.2, by omega⟩, Nat.add_assoc]
          · refine h4 fun hh => h ⟨by rw [Bool.and_eq_true]; exact ⟨hg.1, hh.1⟩, by omega⟩
        · have h3 := h2 hg
          rw [if_neg (by rw [h3]; simp)]
          refine ⟨fun h => ?_, fun _ => rfl⟩
          rw [Bool.and_eq_true] at h
          exact absurd ⟨h.1.1, by omega⟩ hg
    rw [fmd, good, cnt]
    by_cases hb : 60 < n + 1 ∨ 12 < d
    · rw [if_pos hb]
      refine ⟨fun h => ?_, fun _ => rfl⟩
      simp at h
      omega
    · rw [if_neg hb]
      cases ho : okN k col oth v L.length
      · rw [if_neg (by simp)]
        refine ⟨fun h => by simp at h, fun _ => rfl⟩
      · rw [if_pos rfl]
        obtain ⟨h1, h2⟩ := key L (fun _ h => h) (n + 1) (by omega)
        have hd : decide (d ≤ 12) = true := by simp; omega
        rw [hd, Bool.true_and, Bool.true_and]
        refine ⟨fun h => ?_, fun h => h2 fun hh => h ⟨hh.1, by omega⟩⟩
        rw [h1 ⟨h.1, by omega⟩, Nat.add_assoc]
theorem nds_spec : ∀ c d, (good c d = true ∧ cnt c ≤ 60 → nds c d = cnt c) ∧ (¬ (good c d = true ∧ cnt c ≤ 60) → 60 < nds c d) ∧ 1 ≤ nds c d := by
  intro c
  induction c using CN.ind with
  | h k col oth v L ih =>
    intro d
    have key : ∀ (M : List CN), (∀ x ∈ M, x ∈ L) → ∀ m : Nat, 1 ≤ m → (goodL M (d + 1) = true ∧ m + cntL M ≤ 60 → ndsL M (d + 1) m = (m + cntL M : Nat)) ∧ (¬ (goodL M (d + 1) = true ∧ m + cntL M ≤ 60) → 60 < ndsL M (d + 1) m) ∧ 1 ≤ ndsL M (d + 1) m := by
      intro M
      induction M with
      | nil =>
        intro _ m hm
        rw [ndsL, goodL, cntL]
        refine ⟨fun _ => rfl, fun h => ?_, by omega⟩
        simp at h
        omega
      | cons x M ihM =>
        intro hM m hm
        obtain ⟨h1, h2, h5⟩ := ih x (hM x (by simp)) (d + 1)
        rw [ndsL, goodL, cntL]
        have hcp := cnt_pos x
        by_cases hm60 : (m : Int) ≤ 60
        · rw [if_pos hm60]
          obtain ⟨q, hq⟩ : ∃ q : Nat, nds x (d + 1) = q := ⟨(nds x (d + 1)).toNat, by omega⟩
          rw [hq, show (m : Int) + (q : Int) = ((m + q : Nat) : Int) by omega]
          obtain ⟨h3, h4, h6⟩ := ihM (fun y hy => hM y (by simp [hy])) (m + q) (by omega)
          refine ⟨fun h => ?_, fun h => ?_, h6⟩
          · rw [Bool.and_eq_true] at h
            have hx := h1 ⟨h.1.1, by omega⟩
            rw [hq] at hx
            have hx' : q = cnt x := by omega
            subst hx'
            rw [h3 ⟨h.1.2, by omega⟩, Nat.add_assoc]
          · refine h4 fun hh => h ⟨?_, ?_⟩
            · rw [Bool.and_eq_true]
              refine ⟨?_, hh.1⟩
              by_cases hgx : good x (d + 1) = true
              · exact hgx
              · have := h2 (fun z => hgx z.1); omega
            · by_cases hgx : good x (d + 1) = true ∧ cnt x ≤ 60
              · have := h1 hgx; omega
              · have := h2 hgx; omega
        · rw [if_neg hm60]
          refine ⟨fun h => by omega, fun _ => by omega, by omega⟩
    rw [nds, good, cnt]
    by_cases hb : 12 < d ∨ okN k col oth v L.length = false
    · rw [if_pos hb]
      refine ⟨fun h => ?_, fun _ => by omega, by omega⟩
      rcases hb with hb | hb
      · simp at h; omega
      · rw [hb] at h; simp at h
    · rw [if_neg hb]
      have ho : okN k col oth v L.length = true := by
        cases h : okN k col oth v L.length
        · exact absurd (.inr h) hb
        · rfl
      have hd : decide (d ≤ 12) = true := by simp; omega
      obtain ⟨h1, h2, h3⟩ := key L (fun _ h => h) 1 (by omega)
      rw [ho, hd, Bool.true_and, Bool.true_and]
      refine ⟨fun h => h1 h, fun h => h2 h, h3⟩
/-- A condition is well-formed. -/
def wellF (c : CN) : Bool := good c 1 && decide (cnt c ≤ 60)
theorem fmd_well (c : CN) : (fmd c 1 0).1 = wellF c := by
  obtain ⟨h1, h2⟩ := fmd_spec c 1 0 (by omega)
  unfold wellF
  by_cases h : good c 1 = true ∧ 0 + cnt c ≤ 60
  · rw [h1 h]; simp [h.1]; omega
  · rw [h2 h]
    cases hg : good c 1
    · rfl
    · simp; exact Nat.lt_of_not_le fun hh => h ⟨hg, by omega⟩
theorem nds_well (c : CN) : decide (nds c 1 ≤ 60) = wellF c := by
  obtain ⟨h1, h2, _⟩ := nds_spec c 1
  unfold wellF
  by_cases h : good c 1 = true ∧ cnt c ≤ 60
  · rw [h1 h, h.1]; simp; omega
  · have := h2 h
    have hf : decide (nds c 1 ≤ 60) = false := by simp; omega
    rw [hf]
    cases hg : good c 1
    · rfl
    · simp; exact Nat.lt_of_not_le fun hh => h ⟨hg, by omega⟩

/-- A column: its name and kind. -/
abbrev Cl := ByteArray × Int
/-- The number of the first column with a name. -/
def idxC (name : ByteArray) : Nat → List Cl → Int
  | _, [] => -1
  | k, c :: l => if c.1 = name then k else idxC name (k + 1) l
theorem idxC_ge (name : ByteArray) : ∀ (l : List Cl) (k : Nat), idxC name k l = -1 ∨ (k : Int) ≤ idxC name k l ∧ idxC name k l < k + l.length
  | [], k => .inl rfl
  | c :: l, k => by
    unfold idxC
    by_cases h : c.1 = name
    · rw [if_pos h]; exact .inr ⟨Int.le_refl _, by rw [List.length_cons]; omega⟩
    · rw [if_neg h]
      rcases idxC_ge name l (k + 1) with h1 | h1
      · exact .inl h1
      · exact .inr ⟨by omega, by rw [List.length_cons]; omega⟩
theorem idxC_step (name : ByteArray) (l : List Cl) (k : Nat) (c : Cl) (h : l[k]? = some c) : idxC name k (l.drop k) = if c.1 = name then (k : Int) else idxC name (k + 1) (l.drop (k + 1)) := by
  have hk : k < l.length := (List.getElem?_eq_some_iff.1 h).1
  rw [List.drop_eq_getElem_cons hk, idxC, (List.getElem?_eq_some_iff.1 h).2]
/-- The kind of the column at a number. -/
def kindAt (l : List Cl) (i : Int) : Int := ((l[i.toNat]?).map (·.2)).getD 0
/-- The first error of one node. -/
def typN (k : Int) (col oth : ByteArray) (v : V3) (l : List Cl) : Int :=
  if k = 1 ∨ k = 2 then
    (if idxC col 0 l < 0 then 7
    else if oth.size = 0 then (if v.1 = kindAt l (idxC col 0 l) then 0 else 13)
    else if idxC oth 0 l < 0 then 7
    else if kindAt l (idxC oth 0 l) = kindAt l (idxC col 0 l) then 0 else 13)
  else 0
mutual
/-- The first error of the nodes of a condition. -/
def typ : CN → List Cl → Int
  | .mk k col oth v L, l => if typN k col oth v l = 0 then typL L l else typN k col oth v l
def typL : List CN → List Cl → Int
  | [], _ => 0
  | x :: L, l => if typ x l = 0 then typL L l else typ x l
end
/-- The error of a condition on columns. -/
def chk (c : CN) (l : List Cl) : Int := if wellF c then typ c l else 1
def valAt (vs : List V3) (i : Int) : V3 := (vs[i.toNat]?).getD zeroV
/-- What a comparison says. -/
def cmpN (k : Int) (n : Int) : Bool := (decide (n = 0) && decide (k = 1)) || (decide (n < 0) && decide (k = 2))
mutual
/-- Whether a condition holds. -/
def mng : CN → List Cl → List V3 → Bool
  | .mk k col oth v L, l, vs => if k = 1 ∨ k = 2 then cmpN k (ordV (valAt vs (idxC col 0 l)) (if oth.size = 0 then v else valAt vs (idxC oth 0 l)))
    else if k = 4 then !(mngL L l vs).headD true
    else if k = 5 then (mngL L l vs).headD true && (mngL L l vs).tail.headD true
    else if k = 6 then (mngL L l vs).headD true || (mngL L l vs).tail.headD true
    else true
def mngL : List CN → List Cl → List V3 → List Bool
  | [], _, _ => []
  | x :: L, l, vs => mng x l vs :: mngL L l vs
end
/-- The columns of names and values. -/
def colsOf : List ByteArray → List V3 → List Cl
  | n :: ns, v :: vs => (n, v.1) :: colsOf ns vs
  | _, _ => []
/-- What Holds returns. -/
def holdsC (c : CN) (names : List ByteArray) (vs : List V3) : Bool × Int :=
  if names.length ≠ vs.length ∨ 100 < names.length ∨ allV vs = false then (false, 1)
  else if chk c (colsOf names vs) = 0 then (mng c (colsOf names vs) vs, 0) else (false, chk c (colsOf names vs))

/-- The cells of a condition. -/
def cellC (k : Int) (col oth : ByteArray) (v : V3) (s : Value) : List Value := [.int .i64 k, .string col, .string oth, .int .i64 v.1, .int .i64 v.2.1, .string v.2.2, s]
mutual
/-- These cells are those of the condition, and what stands below it can be read. -/
def CnAt : World → List Value → CN → Prop
  | w, cs, .mk k col oth v L => ∃ s, cs = cellC k col oth v s ∧ ∃ rows : List (List Value), Sl w s L.length 7 rows.flatten ∧ RowsAt w rows L
def RowsAt : World → List (List Value) → List CN → Prop
  | _, [], [] => True
  | w, r :: rs, x :: L => CnAt w r x ∧ RowsAt w rs L
  | _, _, _ => False
end
theorem CnAt.len {w : World} {cs : List Value} {c : CN} (h : CnAt w cs c) : cs.length = 7 := by
  obtain ⟨k, col, oth, v, L⟩ := c
  rw [CnAt] at h
  obtain ⟨s, rfl, _⟩ := h
  rfl
theorem RowsAt.get : ∀ {w : World} {rows : List (List Value)} {L : List CN}, RowsAt w rows L → rows.length = L.length ∧ ∀ (i : Nat) (r : List Value) (x : CN), rows[i]? = some r → L[i]? = some x → CnAt w r x
  | w, [], [], _ => ⟨rfl, fun i r x h => by simp at h⟩
  | w, r :: rs, x :: L, h => by
    rw [RowsAt] at h
    obtain ⟨h1, h2⟩ := RowsAt.get h.2
    refine ⟨by simp [h1], fun i r' x' hr hx => ?_⟩
    cases i with
    | zero =>
      simp at hr hx
      subst hr hx
      exact h.1
    | succ i => exact h2 i r' x' (by simpa using hr) (by simpa using hx)
  | w, [], _ :: _, h => by simp [RowsAt] at h
  | w, _ :: _, [], h => by simp [RowsAt] at h
theorem RowsAt.mk : ∀ {w : World} {rows : List (List Value)} {L : List CN}, rows.length = L.length → (∀ (i : Nat) (r : List Value) (x : CN), rows[i]? = some r → L[i]? = some x → CnAt w r x) → RowsAt w rows L
  | w, [], [], _, _ => by rw [RowsAt]; trivial
  | w, r :: rs, x :: L, hl, h => by
    rw [RowsAt]
    exact ⟨h 0 r x rfl rfl, RowsAt.mk (by simpa using hl) fun i r x hr hx => h (i + 1) r x (by simpa using hr) (by simpa using hx)⟩
  | w, [], _ :: _, hl, _ => by simp at hl
  | w, _ :: _, [], hl, _ => by simp at hl
theorem CnAt.below {w w' : World} (hb : Below w.heap.size w w') : ∀ c cs, CnAt w cs c → CnAt w' cs c := by
  intro c
  induction c using CN.ind with
  | h k col oth v L ih =>
    intro cs h
    rw [CnAt] at h ⊢
    obtain ⟨s, h1, rows, h2, h3⟩ := h
    obtain ⟨h4, h5⟩ := h3.get
    exact ⟨s, h1, rows, h2.below hb, RowsAt.mk h4 fun i r x hr hx => ih x (List.mem_of_getElem? hx) r (h5 i r x hr hx)⟩
theorem flat7 : ∀ (rows : List (List Value)) (i : Nat) (r : List Value) (j : Nat) (u : Value), (∀ r ∈ rows, r.length = 7) → rows[i]? = some r → r[j]? = some u → rows.flatten[i * 7 + j]? = some u
  | [], i, r, j, u, _, h, _ => by simp at h
  | x :: rows, 0, r, j, u, hl, h, hj => by
    simp at h
    subst h
    have hjl := (List.getElem?_eq_some_iff.1 hj).1
    rw [List.flatten_cons, Nat.zero_mul, Nat.zero_add, List.getElem?_append_left hjl]
    exact hj
  | x :: rows, i + 1, r, j, u, hl, h, hj => by
    have hx := hl x (by simp)
    rw [List.flatten_cons, List.getElem?_append_right (by omega), show (i + 1) * 7 + j - x.length = i * 7 + j by omega]
    exact flat7 rows i r j u (fun r hr => hl r (by simp [hr])) (by simpa using h) hj
/-- A condition taken apart: its cells, and those of each condition below it. -/
theorem CnAt.open {w : World} {cs : List Value} {k : Int} {col oth : ByteArray} {v : V3} {L : List CN} (h : CnAt w cs (.mk k col oth v L)) :
    ∃ s ad cap, cs = cellC k col oth v s ∧ s = .slice ad L.length cap ∧ (L.length ≠ 0 → ∃ g off, ad = some ⟨g, off, none⟩ ∧ ∀ (i : Nat) (x : CN), L[i]? = some x → ∃ r : List Value, CnAt w r x ∧ ∀ (j : Nat) (u : Value), r[j]? = some u → w.cell? ⟨g, off + (i * 7 + j), none⟩ = some u) := by
  rw [CnAt] at h
  obtain ⟨s, h1, rows, ⟨_, ad, cap, hs, hx⟩, h3⟩ := h
  obtain ⟨h4, h5⟩ := h3.get
  refine ⟨s, ad, cap, h1, hs, fun h0 => ?_⟩
  obtain ⟨g, off, had, hc⟩ := hx h0
  refine ⟨g, off, had, fun i x hi => ?_⟩
  have hil : i < rows.length := by rw [h4]; exact (List.getElem?_eq_some_iff.1 hi).1
  refine ⟨rows[i], h5 i _ x (List.getElem?_eq_getElem hil) hi, fun j u hu => hc _ u (flat7 rows i _ j u (fun r hr => ?_) (List.getElem?_eq_getElem hil) hu)⟩
  obtain ⟨m, hm, rfl⟩ := List.getElem_of_mem hr
  have hmL : m < L.length := by rw [← h4]; exact hm
  exact (h5 m _ L[m] (List.getElem?_eq_getElem hm) (List.getElem?_eq_getElem hmL)).len
end Go.Proofs.YtokbipfkpojflaaDoor.Va
