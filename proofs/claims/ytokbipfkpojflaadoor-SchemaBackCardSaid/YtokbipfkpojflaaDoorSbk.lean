/-
  Texts are read as their schemas: replacement of one byte, the text with other blanks, its tokens (layer 34).
-/
import Derived.Test.YtokbipfkpojflaaDoorScT
import Derived.Test.YtokbipfkpojflaaDoorScQ
import Derived.Test.YtokbipfkpojflaaDoorScO
import Derived.Lib.Replace
set_option linter.unusedSimpArgs false
set_option linter.unusedVariables false
namespace Go.Proofs.YtokbipfkpojflaaDoor.Sc
open Go Go.RowKit Go.Proofs.YtokbipfkpojflaaDoor.Sl Go.Lib
open Go.Proofs.YtokbipfkpojflaaDoor.Lx (Tok tokV addLast addLast_snoc snoc_of)
open Go.Proofs.YtokbipfkpojflaaDoor.Va (Cl flatC)

/-- Each byte c replaced. -/
def rep (c : UInt8) (new : List UInt8) (l : List UInt8) : List UInt8 := l.flatMap fun b => if b = c then new else [b]
theorem rep_app (c : UInt8) (new a b : List UInt8) : rep c new (a ++ b) = rep c new a ++ rep c new b := List.flatMap_append
theorem rep_cons (c x : UInt8) (new l : List UInt8) : rep c new (x :: l) = (if x = c then new else [x]) ++ rep c new l := rfl
theorem rep_none (c : UInt8) (new : List UInt8) : ∀ l : List UInt8, c ∉ l → rep c new l = l
  | [], _ => rfl
  | x :: l, h => by
    rw [rep_cons, if_neg (fun e => h (by simp [e])), rep_none c new l (fun e => h (by simp [e]))]
    rfl
theorem repK_one (c : UInt8) (new : List UInt8) : ∀ l : List UInt8, Lib.replaceK [c] new (Lib.count l [c]) l = rep c new l
  | [] => by rw [Lib.count_one]; rfl
  | x :: xs => by
    have ih := repK_one c new xs
    by_cases h : x = c
    · subst h
      rw [Lib.count_cons_eq, Nat.add_comm, rep_cons, if_pos rfl, Lib.replaceK]
      have hi : Lib.index (x :: xs) [x] = 0 := by rw [Lib.index]; simp [List.isPrefixOf]
      rw [hi]
      simp [ih]
    · rw [Lib.count_cons_ne _ _ _ h, rep_cons, if_neg h, ← ih]
      have hp : ([c] : List UInt8).isPrefixOf (x :: xs) = false := by simp [List.isPrefixOf, Ne.symm h]
      have hix : Lib.index (x :: xs) [c] = if Lib.index xs [c] == -1 then -1 else Lib.index xs [c] + 1 := by rw [Lib.index, hp]; simp
      cases hk : Lib.count xs [c] with
      | zero => simp [Lib.replaceK]
      | succ k =>
        by_cases hm : Lib.index xs [c] = -1
        · rw [Lib.replaceK, Lib.replaceK, hix, if_pos (beq_iff_eq.2 hm), if_pos (beq_iff_eq.2 hm)]; simp
        · have hge := Lib.index_ge xs [c]
          obtain ⟨j, hj⟩ : ∃ j : Nat, Lib.index xs [c] = j := ⟨(Lib.index xs [c]).toNat, by omega⟩
          rw [Lib.replaceK, Lib.replaceK, hix, hj]
          have hm2 : ¬ ((j : Int) == -1) = true := by simp; try omega
          have hm3 : ¬ ((j : Int) + 1 == -1) = true := by simp; omega
          rw [if_neg hm2, if_neg hm3, if_neg hm2]
          have e1 : ((j : Int) + 1).toNat = j + 1 := by omega
          simp [e1]
theorem replaceAll_one (l : List UInt8) (c : UInt8) (new : List UInt8) : Lib.replaceAll l [c] new = rep c new l := by
  unfold Lib.replaceAll Lib.replace Lib.replaceNum
  by_cases h : ([c] == new) = true
  · rw [if_pos h]
    have e : [c] = new := by simpa using h
    subst e
    have : ∀ l : List UInt8, rep c [c] l = l := by
      intro l
      induction l with
      | nil => rfl
      | cons x l ih =>
        rw [rep_cons, ih]
        by_cases hx : x = c
        · rw [if_pos hx, hx]; rfl
        · rw [if_neg hx]; rfl
    exact (this l).symm
  · rw [if_neg h, if_pos (.inl (by decide))]
    exact repK_one c new l
/-- A byte of a word. -/
def isW (c : UInt8) : Bool := !blankC c && !markC c && !badT c
theorem rep_word {c : UInt8} (hc : isW c = false) (new w : List UInt8) (h : w.all isW = true) : rep c new w = w :=
  rep_none c new w fun hm => by have := List.all_eq_true.1 h c hm; rw [hc] at this; cases this
theorem okN_w (c : UInt8) (h : Lx.okN c = true) : isW c = true := by
  unfold Lx.okN Lx.letB Lx.dgB at h
  simp only [Bool.or_eq_true, Bool.and_eq_true, decide_eq_true_eq] at h
  unfold isW badT blankC markC
  simp only [Bool.and_eq_true, Bool.not_eq_true', Bool.or_eq_false_iff, decide_eq_false_iff_not, Bool.and_eq_false_iff, Bool.not_eq_false', Bool.or_eq_true, decide_eq_true_eq]
  omega
theorem nm_w {s : ByteArray} (h : nmB s = true) : s.data.toList.all isW = true ∧ s.data.toList ≠ [] ∧ s.data.toList.length ≤ 30 := by
  unfold nmB at h
  cases hd : s.data.toList with
  | nil => rw [hd] at h; cases h
  | cons c r =>
    rw [hd] at h
    simp only [Lx.nameL, Bool.and_eq_true, decide_eq_true_eq] at h
    refine ⟨List.all_eq_true.2 fun x hx => okN_w x (List.all_eq_true.1 h.2 x hx), by simp, by simp; omega⟩
def kwW (k : Int) : List UInt8 := (kwB k).data.toList
theorem kw_w (k : Int) : (kwW k).all isW = true ∧ kwW k ≠ [] ∧ (kwW k).length ≤ 7 := by
  unfold kwW kwB
  split
  · exact ⟨by decide, by decide, by decide⟩
  · split
    · exact ⟨by decide, by decide, by decide⟩
    · split
      · exact ⟨by decide, by decide, by decide⟩
      · exact ⟨by decide, by decide, by decide⟩
/-- Columns, names with commas; a foreign key; the whole text: with other blanks, parentheses and commas. -/
def colsG (bl cm : List UInt8) : List Cl → List UInt8
  | [] => []
  | [c] => c.1.data.toList ++ bl ++ kwW c.2
  | c :: d :: l => c.1.data.toList ++ bl ++ kwW c.2 ++ cm ++ bl ++ colsG bl cm (d :: l)
def jnG (bl cm : List UInt8) : List ByteArray → List UInt8
  | [] => []
  | [c] => c.data.toList
  | c :: d :: l => c.data.toList ++ cm ++ bl ++ jnG bl cm (d :: l)
def frG (bl op cm : List UInt8) (f : Fr) : List UInt8 := bl ++ [102, 111, 114, 101, 105, 103, 110] ++ bl ++ op ++ jnG bl cm f.cols ++ [41] ++ bl ++ f.tab.data.toList
def textG (bl op cm : List UInt8) (s : Sch) : List UInt8 := [116, 97, 98, 108, 101] ++ bl ++ s.name.data.toList ++ bl ++ op ++ colsG bl cm s.cols ++ [41] ++ bl ++ [107, 101, 121] ++ bl ++ [(48 + s.key).toNat.toUInt8] ++ s.frn.flatMap (frG bl op cm)
theorem colsG_is : ∀ (l : List Cl), Lib.join ((l.map colT).map (·.data.toList)) [44, 32] = colsG [32] [44] l
  | [] => rfl
  | [c] => by simp [Lib.join_one, colsG, colT, kwW]
  | c :: d :: l => by
    have ih := colsG_is (d :: l)
    rw [colsG, ← ih]
    simp only [List.map_cons]
    simp [Lib.join, List.intercalate, List.intersperse, colT, kwW]
theorem jnG_is : ∀ (l : List ByteArray), Lib.join (l.map (·.data.toList)) [44, 32] = jnG [32] [44] l
  | [] => rfl
  | [c] => by simp [Lib.join_one, jnG]
  | c :: d :: l => by
    have ih := jnG_is (d :: l)
    rw [jnG, ← ih]
    simp only [List.map_cons]
    simp [Lib.join, List.intercalate, List.intersperse]
theorem frT_is (f : Fr) : (frT f).data.toList = frG [32] [40] [44] f := by
  unfold frT frG jnB
  rw [← jnG_is]
  simp
theorem txt_is (s : Sch) (h : vldS s = true) : (txtS s).1.data.toList = textG [32] [40] [44] s := by
  have key : ∀ (l : List Fr) (o : ByteArray), (l.foldl (fun o f => o ++ frT f) o).data.toList = o.data.toList ++ l.flatMap (frG [32] [40] [44]) := by
    intro l
    induction l with
    | nil => intro o; simp
    | cons f l ih =>
      intro o
      rw [List.foldl_cons, ih, List.flatMap_cons]
      simp [frT_is]
  unfold txtS
  rw [if_neg (by rw [h]; simp)]
  show (s.frn.foldl (fun o f => o ++ frT f) (hdT s)).data.toList = _
  rw [key]
  unfold textG hdT jnB
  rw [← colsG_is]
  simp
theorem rep_cols {c : UInt8} (hc : isW c = false) (new bl cm : List UInt8) : ∀ (l : List Cl), (∀ x ∈ l, nmB x.1 = true) → rep c new (colsG bl cm l) = colsG (rep c new bl) (rep c new cm) l
  | [], _ => rfl
  | [x], h => by
    rw [colsG, colsG, rep_app, rep_app, rep_word hc new _ (nm_w (h x (by simp))).1, rep_word hc new _ (kw_w x.2).1]
  | x :: y :: l, h => by
    rw [colsG, colsG, rep_app, rep_app, rep_app, rep_app, rep_app, rep_word hc new _ (nm_w (h x (by simp))).1, rep_word hc new _ (kw_w x.2).1, rep_cols hc new bl cm (y :: l) (fun z hz => h z (by simp at hz ⊢; rcases hz with hz | hz <;> simp [hz]))]
theorem rep_jn {c : UInt8} (hc : isW c = false) (new bl cm : List UInt8) : ∀ (l : List ByteArray), (∀ x ∈ l, nmB x = true) → rep c new (jnG bl cm l) = jnG (rep c new bl) (rep c new cm) l
  | [], _ => rfl
  | [x], h => by rw [jnG, jnG, rep_word hc new _ (nm_w (h x (by simp))).1]
  | x :: y :: l, h => by
    rw [jnG, jnG, rep_app, rep_app, rep_app, rep_word hc new _ (nm_w (h x (by simp))).1, rep_jn hc new bl cm (y :: l) (fun z hz => h z (by simp at hz ⊢; rcases hz with hz | hz <;> simp [hz]))]
theorem dist_nmB : ∀ (l seen : List ByteArray), distL seen l = true → ∀ x ∈ l, nmB x = true
  | [], _, _, x, hx => by cases hx
  | s :: l, seen, h, x, hx => by
    rw [distL] at h
    simp only [Bool.and_eq_true] at h
    rcases List.mem_cons.1 hx with rfl | hx
    · exact h.1.1
    · exact dist_nmB l _ h.2 x hx
/-- What a valid schema's names are. -/
structure OkS (s : Sch) : Prop where
  name : nmB s.name = true
  cols : (∀ x ∈ s.cols, nmB x.1 = true) ∧ s.cols ≠ [] ∧ s.cols.length ≤ 8
  kinds : ∀ x ∈ s.cols, 1 ≤ x.2 ∧ x.2 ≤ 4
  key : 1 ≤ s.key ∧ s.key ≤ 8
  frs : s.frn.length ≤ 8 ∧ ∀ f ∈ s.frn, (∀ x ∈ f.cols, nmB x = true) ∧ f.cols ≠ [] ∧ f.cols.length ≤ 8 ∧ nmB f.tab = true
theorem ok_of {s : Sch} (h : vldS s = true) : OkS s := by
  unfold vldS at h
  simp only [Bool.and_eq_true, decide_eq_true_eq, List.all_eq_true] at h
  obtain ⟨⟨⟨⟨⟨⟨⟨⟨h1, h2⟩, h3⟩, h4⟩, h5⟩, h6⟩, h7⟩, h8⟩, h9⟩ := h
  refine ⟨h1, ⟨fun x hx => dist_nmB _ _ h7 x.1 (List.mem_map.2 ⟨x, hx, rfl⟩), fun e => ?_, h3⟩, h8, ⟨h4, by omega⟩, h6, fun f hf => ?_⟩
  · rw [e] at h2; simp at h2
  · have hb := h9 f hf
    unfold frB at hb
    simp only [Bool.and_eq_true, decide_eq_true_eq] at hb
    refine ⟨dist_nmB _ _ hb.1.2, fun e => ?_, hb.1.1.2, hb.1.1.1.1⟩
    have := hb.1.1.1.2
    rw [e] at this; simp at this
theorem dig_w {k : Int} (h : 1 ≤ k ∧ k ≤ 8) : isW (48 + k).toNat.toUInt8 = true := by
  have : k = 1 ∨ k = 2 ∨ k = 3 ∨ k = 4 ∨ k = 5 ∨ k = 6 ∨ k = 7 ∨ k = 8 := by omega
  rcases this with rfl | rfl | rfl | rfl | rfl | rfl | rfl | rfl <;> decide
theorem rep_text {c : UInt8} (hc : isW c = false) (h41 : ¬ c = 41) (new bl op cm : List UInt8) (s : Sch) (h : OkS s) : rep c new (textG bl op cm s) = textG (rep c new bl) (rep c new op) (rep c new cm) s := by
  have e41 : rep c new [41] = [41] := rep_none c new _ (by simpa using h41)
  have ef : ∀ l : List Fr, (∀ f ∈ l, (∀ x ∈ f.cols, nmB x = true) ∧ f.cols ≠ [] ∧ f.cols.length ≤ 8 ∧ nmB f.tab = true) → rep c new (l.flatMap (frG bl op cm)) = l.flatMap (frG (rep c new bl) (rep c new op) (rep c new cm)) := by
    intro l
    induction l with
    | nil => intro _; rfl
    | cons f l ih =>
      intro hl
      rw [List.flatMap_cons, List.flatMap_cons, rep_app, ih (fun x hx => hl x (by simp [hx]))]
      congr 1
      unfold frG
      obtain ⟨h1, _, _, h4⟩ := hl f (by simp)
      simp only [rep_app]
      rw [rep_jn hc new bl cm f.cols h1, e41, rep_word hc new _ (nm_w h4).1, rep_word hc new [102, 111, 114, 101, 105, 103, 110] (by decide)]
  unfold textG
  simp only [rep_app]
  rw [ef _ h.frs.2, rep_cols hc new bl cm s.cols h.cols.1, e41, rep_word hc new _ (nm_w h.name).1, rep_word hc new [116, 97, 98, 108, 101] (by decide), rep_word hc new [107, 101, 121] (by decide), rep_word hc new [(48 + s.key).toNat.toUInt8] (by simp [dig_w h.key])]
end Go.Proofs.YtokbipfkpojflaaDoor.Sc
