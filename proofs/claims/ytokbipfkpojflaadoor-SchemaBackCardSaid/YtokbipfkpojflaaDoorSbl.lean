/-
  Texts are read as their schemas: the tokens of the text, and what Parse makes of them (layer 34).
-/
import Derived.Test.YtokbipfkpojflaaDoorSbk
import Derived.Test.YtokbipfkpojflaaDoorScA
set_option linter.unusedSimpArgs false
set_option linter.unusedVariables false
namespace Go.Proofs.YtokbipfkpojflaaDoor.Sc
open Go Go.RowKit Go.Proofs.YtokbipfkpojflaaDoor.Sl Go.Lib
open Go.Proofs.YtokbipfkpojflaaDoor.Lx (Tok tokV addLast addLast_snoc snoc_of)
open Go.Proofs.YtokbipfkpojflaaDoor.Va (Cl flatC)

abbrev Wd := List (List UInt8)
def addW (l : Wd) (c : UInt8) : Wd := match l.getLast? with
  | none => []
  | some t => l.dropLast ++ [t ++ [c]]
theorem addW_snoc (l : Wd) (t : List UInt8) (c : UInt8) : addW (l ++ [t]) c = l ++ [t ++ [c]] := by simp [addW]
/-- One byte more, without places. -/
def stB (st : Wd × Bool) (c : UInt8) : Wd × Bool :=
  if blankC c = true then (st.1, false) else if markC c = true then (st.1 ++ [[c]], false) else if st.2 = true then (addW st.1 c, true) else (st.1 ++ [[c]], true)
def txs (l : List Tok) : Wd := l.map fun t => t.1.data.toList
theorem txs_last (l : List Tok) (c : UInt8) : txs (addLast l c) = addW (txs l) c := by
  by_cases h : l = []
  · subst h; rfl
  · obtain ⟨m, t, rfl⟩ := snoc_of l h
    rw [addLast_snoc]
    unfold txs
    rw [List.map_append, List.map_append, List.map_singleton, List.map_singleton, addW_snoc]
    simp
theorem stT_txs (k q : Nat) (c : UInt8) (st : List Tok × Bool) : (txs (stT k q c st).1, (stT k q c st).2) = stB (txs st.1, st.2) c := by
  unfold stT stB
  by_cases h1 : blankC c = true
  · rw [if_pos h1, if_pos h1]
  · rw [if_neg h1, if_neg h1]
    by_cases h2 : markC c = true
    · rw [if_pos h2, if_pos h2]; simp [txs]
    · rw [if_neg h2, if_neg h2]
      by_cases h3 : st.2 = true
      · rw [if_pos h3, if_pos h3]; simp [txs_last]
      · rw [if_neg h3, if_neg h3]; simp [txs]
theorem tokRun_txs : ∀ (l : List UInt8) (k q : Nat) (st : List Tok × Bool), (∀ c ∈ l, badT c = false) → ∃ L, tokRun l k q st = .inr L ∧ txs L = (l.foldl stB (txs st.1, st.2)).1
  | [], k, q, st, _ => ⟨st.1, rfl, rfl⟩
  | c :: l, k, q, st, h => by
    have hb : ¬ badT c = true := by rw [h c (by simp)]; simp
    rw [tokRun, if_neg hb, List.foldl_cons, ← stT_txs k q c st]
    split
    · exact tokRun_txs l _ _ _ (fun x hx => h x (by simp [hx]))
    · exact tokRun_txs l _ _ _ (fun x hx => h x (by simp [hx]))
theorem tokS_txs (x : ByteArray) (h : ∀ c ∈ x.data.toList, badT c = false) : (tokS x).2.2 = 0 ∧ txs (tokS x).1 = (x.data.toList.foldl stB ([], false)).1 := by
  obtain ⟨L, h1, h2⟩ := tokRun_txs x.data.toList 0 0 ([], false) h
  unfold tokS
  rw [h1]
  exact ⟨rfl, h2⟩
/-- What blanks, parentheses and commas do. -/
structure Lay (bl op cm : List UInt8) : Prop where
  hbl : ∀ acc o, bl.foldl stB (acc, o) = (acc, false)
  hop : ∀ acc o, op.foldl stB (acc, o) = (acc ++ [[40]], false)
  hcm : ∀ acc o, cm.foldl stB (acc, o) = (acc ++ [[44]], false)
  ok : (∀ c ∈ bl, badT c = false) ∧ (∀ c ∈ op, badT c = false) ∧ ∀ c ∈ cm, badT c = false
  len : bl.length ≤ 3 ∧ op.length ≤ 2 ∧ cm.length ≤ 2
theorem isW_no {c : UInt8} (h : isW c = true) : blankC c = false ∧ markC c = false ∧ badT c = false := by
  unfold isW at h
  simp only [Bool.and_eq_true, Bool.not_eq_true'] at h
  exact ⟨h.1.1, h.1.2, h.2⟩
theorem run_open (acc : Wd) (t : List UInt8) : ∀ (w : List UInt8), w.all isW = true → w.foldl stB (acc ++ [t], true) = (acc ++ [t ++ w], true)
  | [], _ => by simp
  | c :: w, h => by
    rw [List.all_cons, Bool.and_eq_true] at h
    obtain ⟨h1, h2, _⟩ := isW_no h.1
    have e : stB (acc ++ [t], true) c = (acc ++ [t ++ [c]], true) := by
      unfold stB
      rw [if_neg (by rw [h1]; simp), if_neg (by rw [h2]; simp), if_pos rfl, addW_snoc]
    rw [List.foldl_cons, e]
    have := run_open acc (t ++ [c]) w h.2
    rw [this]
    simp
theorem run_word (acc : Wd) (w : List UInt8) (h : w.all isW = true) (hne : w ≠ []) : w.foldl stB (acc, false) = (acc ++ [w], true) := by
  cases w with
  | nil => exact absurd rfl hne
  | cons c w =>
    rw [List.all_cons, Bool.and_eq_true] at h
    obtain ⟨h1, h2, _⟩ := isW_no h.1
    have e : stB (acc, false) c = (acc ++ [[c]], true) := by
      unfold stB
      rw [if_neg (by rw [h1]; simp), if_neg (by rw [h2]; simp), if_neg (by simp)]
    rw [List.foldl_cons, e, run_open acc [c] w h.2]
    rfl
theorem run_close (acc : Wd) (o : Bool) : [(41 : UInt8)].foldl stB (acc, o) = (acc ++ [[41]], false) := rfl
def colW : List Cl → Wd
  | [] => []
  | [c] => [c.1.data.toList, kwW c.2]
  | c :: d :: l => c.1.data.toList :: kwW c.2 :: [44] :: colW (d :: l)
def jnW : List ByteArray → Wd
  | [] => []
  | [c] => [c.data.toList]
  | c :: d :: l => c.data.toList :: [44] :: jnW (d :: l)
def frW (f : Fr) : Wd := [102, 111, 114, 101, 105, 103, 110] :: [40] :: (jnW f.cols ++ [[41], f.tab.data.toList])
def allW (s : Sch) : Wd := [116, 97, 98, 108, 101] :: s.name.data.toList :: [40] :: (colW s.cols ++ [41] :: [107, 101, 121] :: [(48 + s.key).toNat.toUInt8] :: s.frn.flatMap frW)
theorem run_cols {bl op cm : List UInt8} (L : Lay bl op cm) : ∀ (l : List Cl), (∀ x ∈ l, nmB x.1 = true) → l ≠ [] → ∀ acc, (colsG bl cm l).foldl stB (acc, false) = (acc ++ colW l, true)
  | [], _, h, _ => absurd rfl h
  | [c], h, _, acc => by
    obtain ⟨h1, h2, _⟩ := nm_w (h c (by simp))
    obtain ⟨k1, k2, _⟩ := kw_w c.2
    have e1 := fun acc => run_word acc _ h1 h2
    have e2 := fun acc => run_word acc _ k1 k2
    simp only [colsG, colW, List.foldl_append, e1, L.hbl, e2]
    simp
  | c :: d :: l, h, _, acc => by
    obtain ⟨h1, h2, _⟩ := nm_w (h c (by simp))
    obtain ⟨k1, k2, _⟩ := kw_w c.2
    have e1 := fun acc => run_word acc _ h1 h2
    have e2 := fun acc => run_word acc _ k1 k2
    have ih := run_cols L (d :: l) (fun z hz => h z (by simp at hz ⊢; rcases hz with hz | hz <;> simp [hz])) (by simp)
    simp only [colsG, colW, List.foldl_append, e1, L.hbl, e2, L.hcm, ih]
    simp
theorem run_jn {bl op cm : List UInt8} (L : Lay bl op cm) : ∀ (l : List ByteArray), (∀ x ∈ l, nmB x = true) → l ≠ [] → ∀ acc, (jnG bl cm l).foldl stB (acc, false) = (acc ++ jnW l, true)
  | [], _, h, _ => absurd rfl h
  | [c], h, _, acc => by
    obtain ⟨h1, h2, _⟩ := nm_w (h c (by simp))
    rw [jnG, jnW, run_word acc _ h1 h2]
  | c :: d :: l, h, _, acc => by
    obtain ⟨h1, h2, _⟩ := nm_w (h c (by simp))
    have e1 := fun acc => run_word acc _ h1 h2
    have ih := run_jn L (d :: l) (fun z hz => h z (by simp at hz ⊢; rcases hz with hz | hz <;> simp [hz])) (by simp)
    simp only [jnG, jnW, List.foldl_append, e1, L.hcm, L.hbl, ih]
    simp
abbrev FrOk (f : Fr) : Prop := (∀ x ∈ f.cols, nmB x = true) ∧ f.cols ≠ [] ∧ f.cols.length ≤ 8 ∧ nmB f.tab = true
theorem run_fr {bl op cm : List UInt8} (L : Lay bl op cm) (f : Fr) (h : FrOk f) (acc : Wd) (o : Bool) : (frG bl op cm f).foldl stB (acc, o) = (acc ++ frW f, true) := by
  obtain ⟨h1, h2, _, h4⟩ := h
  obtain ⟨k1, k2, _⟩ := nm_w h4
  have e0 := fun acc => run_word acc [102, 111, 114, 101, 105, 103, 110] (by decide) (by decide)
  have e1 := fun acc => run_word acc _ k1 k2
  have e2 := run_jn L _ h1 h2
  unfold frG
  simp only [List.foldl_append, L.hbl, e0, L.hop, e2, run_close, e1, frW]
  simp
theorem run_frs {bl op cm : List UInt8} (L : Lay bl op cm) : ∀ (l : List Fr), (∀ f ∈ l, FrOk f) → ∀ acc, (l.flatMap (frG bl op cm)).foldl stB (acc, true) = (acc ++ l.flatMap frW, true)
  | [], _, acc => by simp
  | f :: l, h, acc => by
    rw [List.flatMap_cons, List.flatMap_cons, List.foldl_append, run_fr L f (h f (by simp)), run_frs L l (fun x hx => h x (by simp [hx])), List.append_assoc]
theorem run_text {bl op cm : List UInt8} (L : Lay bl op cm) (s : Sch) (h : OkS s) : (textG bl op cm s).foldl stB ([], false) = (allW s, true) := by
  obtain ⟨k1, k2, _⟩ := nm_w h.name
  have e0 := fun acc => run_word acc [116, 97, 98, 108, 101] (by decide) (by decide)
  have e1 := fun acc => run_word acc _ k1 k2
  have e2 := run_cols L _ h.cols.1 h.cols.2.1
  have e3 := fun acc => run_word acc [107, 101, 121] (by decide) (by decide)
  have e4 := fun acc => run_word acc [(48 + s.key).toNat.toUInt8] (by simp [dig_w h.key]) (by simp)
  have e5 := run_frs L _ h.frs.2
  unfold textG
  simp only [List.foldl_append, e0, L.hbl, e1, L.hop, e2, run_close, e3, e4, e5, allW]
  simp
theorem word_ok {w : List UInt8} (h : w.all isW = true) : ∀ c ∈ w, badT c = false := fun c hc => (isW_no (List.all_eq_true.1 h c hc)).2.2
theorem app_ok {a b : List UInt8} (h1 : ∀ c ∈ a, badT c = false) (h2 : ∀ c ∈ b, badT c = false) : ∀ c ∈ a ++ b, badT c = false := fun c hc => by
  rcases List.mem_append.1 hc with h | h
  · exact h1 c h
  · exact h2 c h
theorem cols_okB {bl op cm : List UInt8} (L : Lay bl op cm) : ∀ (l : List Cl), (∀ x ∈ l, nmB x.1 = true) → (∀ c ∈ colsG bl cm l, badT c = false) ∧ (colsG bl cm l).length ≤ l.length * 45
  | [], _ => ⟨fun c hc => (by cases hc), by simp [colsG]⟩
  | [c], h => by
    obtain ⟨h1, _, h3⟩ := nm_w (h c (by simp))
    obtain ⟨k1, _, k3⟩ := kw_w c.2
    have := L.len
    refine ⟨app_ok (app_ok (word_ok h1) L.ok.1) (word_ok k1), ?_⟩
    rw [colsG, List.length_append, List.length_append, List.length_singleton]; omega
  | c :: d :: l, h => by
    obtain ⟨h1, _, h3⟩ := nm_w (h c (by simp))
    obtain ⟨k1, _, k3⟩ := kw_w c.2
    have := L.len
    obtain ⟨i1, i2⟩ := cols_okB L (d :: l) (fun z hz => h z (by simp at hz ⊢; rcases hz with hz | hz <;> simp [hz]))
    refine ⟨app_ok (app_ok (app_ok (app_ok (app_ok (word_ok h1) L.ok.1) (word_ok k1)) L.ok.2.2) L.ok.1) i1, ?_⟩
    rw [colsG]
    simp only [List.length_append, List.length_cons] at i2 ⊢
    omega
theorem jn_okB {bl op cm : List UInt8} (L : Lay bl op cm) : ∀ (l : List ByteArray), (∀ x ∈ l, nmB x = true) → (∀ c ∈ jnG bl cm l, badT c = false) ∧ (jnG bl cm l).length ≤ l.length * 35
  | [], _ => ⟨fun c hc => (by cases hc), by simp [jnG]⟩
  | [c], h => by
    obtain ⟨h1, _, h3⟩ := nm_w (h c (by simp))
    refine ⟨word_ok h1, ?_⟩
    rw [jnG, List.length_singleton]; omega
  | c :: d :: l, h => by
    obtain ⟨h1, _, h3⟩ := nm_w (h c (by simp))
    have := L.len
    obtain ⟨i1, i2⟩ := jn_okB L (d :: l) (fun z hz => h z (by simp at hz ⊢; rcases hz with hz | hz <;> simp [hz]))
    refine ⟨app_ok (app_ok (app_ok (word_ok h1) L.ok.2.2) L.ok.1) i1, ?_⟩
    rw [jnG]
    simp only [List.length_append, List.length_cons] at i2 ⊢
    omega
theorem one_ok {c : UInt8} (h : badT c = false) : ∀ x ∈ [c], badT x = false := fun x hx => by rw [List.mem_singleton.1 hx]; exact h
theorem frs_okB {bl op cm : List UInt8} (L : Lay bl op cm) : ∀ (l : List Fr), (∀ f ∈ l, FrOk f) → (∀ c ∈ l.flatMap (frG bl op cm), badT c = false) ∧ (l.flatMap (frG bl op cm)).length ≤ l.length * 400
  | [], _ => ⟨fun c hc => (by simp at hc), by simp⟩
  | f :: l, h => by
    obtain ⟨h1, h2, h3, h4⟩ := h f (by simp)
    obtain ⟨k1, _, k3⟩ := nm_w h4
    obtain ⟨i1, i2⟩ := frs_okB L l (fun x hx => h x (by simp [hx]))
    obtain ⟨j1, j2⟩ := jn_okB L f.cols h1
    have := L.len
    rw [List.flatMap_cons]
    refine ⟨app_ok ?_ i1, ?_⟩
    · unfold frG
      exact app_ok (app_ok (app_ok (app_ok (app_ok (app_ok (app_ok L.ok.1 (word_ok (by decide))) L.ok.1) L.ok.2.1) j1) (one_ok (by decide))) L.ok.1) (word_ok k1)
    · rw [List.length_append, List.length_cons]
      have e : (frG bl op cm f).length ≤ 400 := by
        unfold frG
        simp only [List.length_append, List.length_cons, List.length_nil]
        omega
      omega
theorem text_okB {bl op cm : List UInt8} (L : Lay bl op cm) (s : Sch) (h : OkS s) : (∀ c ∈ textG bl op cm s, badT c = false) ∧ (textG bl op cm s).length ≤ 4000 := by
  obtain ⟨k1, _, k3⟩ := nm_w h.name
  obtain ⟨i1, i2⟩ := cols_okB L s.cols h.cols.1
  obtain ⟨j1, j2⟩ := frs_okB L s.frn h.frs.2
  have := L.len
  have := h.cols.2.2
  have := h.frs.1
  refine ⟨?_, ?_⟩
  · unfold textG
    exact app_ok (app_ok (app_ok (app_ok (app_ok (app_ok (app_ok (app_ok (app_ok (app_ok (app_ok (word_ok (by decide)) L.ok.1) (word_ok k1)) L.ok.1) L.ok.2.1) i1) (one_ok (by decide))) L.ok.1) (word_ok (by decide))) L.ok.1) (one_ok (isW_no (dig_w h.key)).2.2)) j1
  · unfold textG
    simp only [List.length_append, List.length_cons, List.length_nil]
    omega
/-- A reader with these texts ahead. -/
def Mt (r : Rd) (xs : Wd) : Prop := r.e = 0 ∧ r.p = (0, 0) ∧ txs r.toks = xs
theorem Mt.next {r : Rd} {x : List UInt8} {xs : Wd} (h : Mt r (x :: xs)) : (nextR r).1.1.data.toList = x ∧ Mt (nextR r).2 xs := by
  obtain ⟨h1, h2, h3⟩ := h
  unfold nextR
  rw [if_pos h1]
  cases ht : r.toks with
  | nil => rw [ht] at h3; cases h3
  | cons t l =>
    rw [ht] at h3
    simp only [txs, List.map_cons, List.cons.injEq] at h3
    exact ⟨h3.1, rfl, h2, h3.2⟩
theorem ba_eq {a b : ByteArray} (h : a.data.toList = b.data.toList) : a = b := ByteArray.ext (Array.toList_inj.1 h)
theorem Mt.word {r : Rd} {k : ByteArray} {xs : Wd} {l : List ByteArray} (h : Mt r (k.data.toList :: xs)) (hk : k ∈ l) : (wordR r l).1 = k ∧ Mt (wordR r l).2 xs := by
  obtain ⟨h1, h2⟩ := h.next
  have e := ba_eq h1
  unfold wordR
  dsimp only
  rw [e, if_pos ((Lib.containsS_iff _ _).2 hk)]
  exact ⟨rfl, h2⟩
theorem Mt.name {r : Rd} {k : ByteArray} {xs : Wd} (h : Mt r (k.data.toList :: xs)) (hk : nmB k = true) : (nameR r).1 = k ∧ Mt (nameR r).2 xs := by
  obtain ⟨h1, h2⟩ := h.next
  have e := ba_eq h1
  unfold nameR
  dsimp only
  rw [e, if_pos hk]
  exact ⟨rfl, h2⟩
theorem mem_of {l : List ByteArray} {k : ByteArray} (h : Lib.containsS l k = true) : k ∈ l := (Lib.containsS_iff _ _).1 h
theorem kw_idx {k : Int} (h : 1 ≤ k ∧ k ≤ 4) : kwB k ∈ kwL ∧ Lib.idxOfS kwL (kwB k) + 1 = k := by
  have : k = 1 ∨ k = 2 ∨ k = 3 ∨ k = 4 := by omega
  rcases this with rfl | rfl | rfl | rfl <;> exact ⟨mem_of (by decide), by decide⟩
theorem colIt_m {r : Rd} {c : Cl} {xs : Wd} (acc : List Cl) (h : Mt r (c.1.data.toList :: kwW c.2 :: xs)) (h1 : nmB c.1 = true) (h2 : 1 ≤ c.2 ∧ c.2 ≤ 4) : (colIt (r, acc)).2 = acc ++ [c] ∧ Mt (colIt (r, acc)).1 xs := by
  obtain ⟨n1, n2⟩ := h.name h1
  obtain ⟨k1, k2⟩ := kw_idx h2
  obtain ⟨w1, w2⟩ := Mt.word (k := kwB c.2) (l := kwL) n2 k1
  unfold colIt
  dsimp only
  rw [n1, w1, k2]
  exact ⟨rfl, w2⟩
theorem frnIt_m {r : Rd} {c : ByteArray} {xs : Wd} (acc : List ByteArray) (h : Mt r (c.data.toList :: xs)) (h1 : nmB c = true) : (frnIt (r, acc)).2 = acc ++ [c] ∧ Mt (frnIt (r, acc)).1 xs := by
  obtain ⟨n1, n2⟩ := h.name h1
  unfold frnIt
  dsimp only
  rw [n1]
  exact ⟨rfl, n2⟩
theorem listR_hit {X : Type} (item : Rd × X → Rd × X) (n : Nat) (r : Rd) (x : X) (xs : Wd) (he : r.e = 0) (hm : Mt (item (r, x)).1 ([41] :: xs)) : (listR item (n + 1) (r, x)).2 = (item (r, x)).2 ∧ Mt (listR item (n + 1) (r, x)).1 xs := by
  obtain ⟨w1, w2⟩ := Mt.word (k := ⟨#[41]⟩) (l := kMore) hm (mem_of (by decide))
  unfold listR
  rw [if_pos he, if_pos (show (itemR item (r, x)).1 = ⟨#[41]⟩ from w1)]
  exact ⟨rfl, w2⟩
theorem listR_more {X : Type} (item : Rd × X → Rd × X) (n : Nat) (r : Rd) (x : X) (xs : Wd) (he : r.e = 0) (hm : Mt (item (r, x)).1 ([44] :: xs)) : ∃ r', listR item (n + 1) (r, x) = listR item n (r', (item (r, x)).2) ∧ Mt r' xs := by
  obtain ⟨w1, w2⟩ := Mt.word (k := ⟨#[44]⟩) (l := kMore) hm (mem_of (by decide))
  refine ⟨(wordR (item (r, x)).1 kMore).2, ?_, w2⟩
  conv => lhs; unfold listR
  rw [if_pos he, if_neg (show ¬ (itemR item (r, x)).1 = ⟨#[41]⟩ by show ¬ (wordR (item (r, x)).1 kMore).1 = _; rw [w1]; decide)]
  rfl
theorem cols_m : ∀ (l : List Cl), l ≠ [] → (∀ x ∈ l, nmB x.1 = true) → (∀ x ∈ l, 1 ≤ x.2 ∧ x.2 ≤ 4) → ∀ (n : Nat) (r : Rd) (acc : List Cl) (xs : Wd), l.length ≤ n → Mt r (colW l ++ [41] :: xs) → (listR colIt n (r, acc)).2 = acc ++ l ∧ Mt (listR colIt n (r, acc)).1 xs
  | [], h, _, _, _, _, _, _, _, _ => absurd rfl h
  | [c], _, h1, h2, 0, _, _, _, hn, _ => by simp at hn
  | [c], _, h1, h2, n + 1, r, acc, xs, hn, hm => by
    obtain ⟨i1, i2⟩ := colIt_m acc hm (h1 c (by simp)) (h2 c (by simp))
    obtain ⟨j1, j2⟩ := listR_hit colIt n r acc xs hm.1 i2
    exact ⟨by rw [j1, i1], j2⟩
  | c :: d :: l, _, h1, h2, 0, _, _, _, hn, _ => by simp at hn
  | c :: d :: l, _, h1, h2, n + 1, r, acc, xs, hn, hm => by
    obtain ⟨i1, i2⟩ := colIt_m acc hm (h1 c (by simp)) (h2 c (by simp))
    obtain ⟨r', j1, j2⟩ := listR_more colIt n r acc _ hm.1 i2
    rw [j1, i1]
    have hs : ∀ z ∈ d :: l, z ∈ c :: d :: l := fun z hz => List.mem_cons_of_mem _ hz
    obtain ⟨k1, k2⟩ := cols_m (d :: l) (by simp) (fun z hz => h1 z (hs z hz)) (fun z hz => h2 z (hs z hz)) n r' (acc ++ [c]) xs (by simp at hn ⊢; omega) j2
    exact ⟨by rw [k1]; simp, k2⟩
theorem frn_m : ∀ (l : List ByteArray), l ≠ [] → (∀ x ∈ l, nmB x = true) → ∀ (n : Nat) (r : Rd) (acc : List ByteArray) (xs : Wd), l.length ≤ n → Mt r (jnW l ++ [41] :: xs) → (listR frnIt n (r, acc)).2 = acc ++ l ∧ Mt (listR frnIt n (r, acc)).1 xs
  | [], h, _, _, _, _, _, _, _ => absurd rfl h
  | [c], _, h1, 0, _, _, _, hn, _ => by simp at hn
  | [c], _, h1, n + 1, r, acc, xs, hn, hm => by
    obtain ⟨i1, i2⟩ := frnIt_m acc hm (h1 c (by simp))
    obtain ⟨j1, j2⟩ := listR_hit frnIt n r acc xs hm.1 i2
    exact ⟨by rw [j1, i1], j2⟩
  | c :: d :: l, _, h1, 0, _, _, _, hn, _ => by simp at hn
  | c :: d :: l, _, h1, n + 1, r, acc, xs, hn, hm => by
    obtain ⟨i1, i2⟩ := frnIt_m acc hm (h1 c (by simp))
    obtain ⟨r', j1, j2⟩ := listR_more frnIt n r acc _ hm.1 i2
    rw [j1, i1]
    have hs : ∀ z ∈ d :: l, z ∈ c :: d :: l := fun z hz => List.mem_cons_of_mem _ hz
    obtain ⟨k1, k2⟩ := frn_m (d :: l) (by simp) (fun z hz => h1 z (hs z hz)) n r' (acc ++ [c]) xs (by simp at hn ⊢; omega) j2
    exact ⟨by rw [k1]; simp, k2⟩
theorem colW_len : ∀ l : List Cl, l.length ≤ (colW l).length
  | [] => Nat.le_refl _
  | [c] => by simp [colW]
  | c :: d :: l => by have := colW_len (d :: l); simp only [colW, List.length_cons] at this ⊢; omega
theorem jnW_len : ∀ l : List ByteArray, l.length ≤ (jnW l).length
  | [] => Nat.le_refl _
  | [c] => by simp [jnW]
  | c :: d :: l => by have := jnW_len (d :: l); simp only [jnW, List.length_cons] at this ⊢; omega
theorem Mt.len {r : Rd} {xs : Wd} (h : Mt r xs) : r.toks.length = xs.length := by rw [← h.2.2]; simp [txs]
theorem lst_cols (l : List Cl) (hne : l ≠ []) (h1 : ∀ x ∈ l, nmB x.1 = true) (h2 : ∀ x ∈ l, 1 ≤ x.2 ∧ x.2 ≤ 4) (r : Rd) (xs : Wd) (h : Mt r ([40] :: (colW l ++ [41] :: xs))) : (lstR colIt (r, [])).2 = l ∧ Mt (lstR colIt (r, [])).1 xs := by
  obtain ⟨w1, w2⟩ := Mt.word (k := ⟨#[40]⟩) (l := kOpen) h (mem_of (by decide))
  have := cols_m l hne h1 h2 ((wordR r kOpen).2.toks.length + 1) (wordR r kOpen).2 [] xs (by have e := w2.len; rw [List.length_append] at e; have := colW_len l; omega) w2
  rw [List.nil_append] at this
  exact this
theorem lst_frn (l : List ByteArray) (hne : l ≠ []) (h1 : ∀ x ∈ l, nmB x = true) (r : Rd) (xs : Wd) (h : Mt r ([40] :: (jnW l ++ [41] :: xs))) : (lstR frnIt (r, [])).2 = l ∧ Mt (lstR frnIt (r, [])).1 xs := by
  obtain ⟨w1, w2⟩ := Mt.word (k := ⟨#[40]⟩) (l := kOpen) h (mem_of (by decide))
  have := frn_m l hne h1 ((wordR r kOpen).2.toks.length + 1) (wordR r kOpen).2 [] xs (by have e := w2.len; rw [List.length_append] at e; have := jnW_len l; omega) w2
  rw [List.nil_append] at this
  exact this
theorem frS_m (f : Fr) (hf : FrOk f) (r : Rd) (acc : List Fr) (xs : Wd) (h : Mt r (frW f ++ xs)) : (frS (r, acc)).2 = acc ++ [f] ∧ Mt (frS (r, acc)).1 xs := by
  obtain ⟨h1, h2, h3, h4⟩ := hf
  have e : frW f ++ xs = [102, 111, 114, 101, 105, 103, 110] :: [40] :: (jnW f.cols ++ [41] :: f.tab.data.toList :: xs) := by unfold frW; simp
  rw [e] at h
  obtain ⟨w1, w2⟩ := Mt.word (k := ⟨#[102, 111, 114, 101, 105, 103, 110]⟩) (l := kForeign) h (mem_of (by decide))
  obtain ⟨l1, l2⟩ := lst_frn f.cols h2 h1 _ _ w2
  have q1 : (frQ r).2 = f.cols := l1
  have q2 : Mt (frQ r).1 (f.tab.data.toList :: xs) := l2
  obtain ⟨n1, n2⟩ := q2.name h4
  unfold frS
  dsimp only
  rw [q1, n1]
  exact ⟨rfl, n2⟩
theorem frR_m : ∀ (l : List Fr), (∀ f ∈ l, FrOk f) → ∀ (n : Nat) (r : Rd) (acc : List Fr), l.length < n → Mt r (l.flatMap frW) → (frR n (r, acc)).2 = acc ++ l ∧ (frR n (r, acc)).1.e = 0
  | [], _, 0, _, _, hn, _ => by omega
  | [], _, n + 1, r, acc, hn, h => by
    have ht : r.toks = [] := by have := h.len; simpa using this
    rw [frR, if_neg (fun h => h.2 ht)]
    exact ⟨by simp, h.1⟩
  | f :: l, _, 0, _, _, hn, _ => by omega
  | f :: l, hf, n + 1, r, acc, hn, h => by
    rw [List.flatMap_cons] at h
    have ht : r.toks ≠ [] := fun e => by have := h.len; rw [e] at this; simp [frW] at this
    obtain ⟨i1, i2⟩ := frS_m f (hf f (by simp)) r acc _ h
    rw [frR, if_pos ⟨h.1, ht⟩]
    obtain ⟨q, hq⟩ : ∃ q, frS (r, acc) = q := ⟨_, rfl⟩
    rw [hq] at i1 i2 ⊢
    obtain ⟨qr, ql⟩ := q
    dsimp only at i1 i2
    obtain ⟨j1, j2⟩ := frR_m l (fun x hx => hf x (by simp [hx])) n qr ql (by simp at hn; omega) i2
    exact ⟨by rw [j1, i1]; simp, j2⟩
theorem num_key {k : Int} (h : 1 ≤ k ∧ k ≤ 8) : Lx.numZ ⟨#[(48 + k).toNat.toUInt8]⟩ 1 8 = (k, 0) := by
  have : k = 1 ∨ k = 2 ∨ k = 3 ∨ k = 4 ∨ k = 5 ∨ k = 6 ∨ k = 7 ∨ k = 8 := by omega
  rcases this with rfl | rfl | rfl | rfl | rfl | rfl | rfl | rfl <;> decide
/-- Tokens with the text's words are read as the schema. -/
theorem read_back (s : Sch) (h : OkS s) (l : List Tok) (hl : txs l = allW s) : (p8 l).1.e = 0 ∧ prsL l = s := by
  have h0 : Mt ⟨l, (0, 0), 0⟩ (allW s) := ⟨rfl, rfl, hl⟩
  unfold allW at h0
  obtain ⟨_, m1⟩ := Mt.word (k := ⟨#[116, 97, 98, 108, 101]⟩) (l := kTable) h0 (mem_of (by decide))
  have m1 : Mt (p1 l) _ := m1
  obtain ⟨n2, m2⟩ := m1.name h.name
  have n2 : (p2 l).1 = s.name := n2
  have m2 : Mt (p2 l).2 _ := m2
  obtain ⟨n3, m3⟩ := lst_cols s.cols h.cols.2.1 h.cols.1 h.kinds _ _ m2
  have n3 : (p3 l).2 = s.cols := n3
  have m3 : Mt (p3 l).1 _ := m3
  obtain ⟨_, m4⟩ := Mt.word (k := ⟨#[107, 101, 121]⟩) (l := kKey) m3 (mem_of (by decide))
  have m4 : Mt (p4 l) _ := m4
  obtain ⟨n5, m5⟩ := m4.next
  have n5 : (p5 l).1.1 = ⟨#[(48 + s.key).toNat.toUInt8]⟩ := ba_eq n5
  have m5 : Mt (p5 l).2 _ := m5
  have n6 : p6 l = (s.key, 0) := by
    unfold p6
    rw [n5]
    exact num_key h.key
  have n7 : p7 l = (p5 l).2 := by unfold p7; rw [n6, if_pos rfl]
  have m7 : Mt (p7 l) (s.frn.flatMap frW) := by rw [n7]; exact m5
  have hfl : s.frn.length < (p7 l).toks.length + 1 := by
    rw [m7.len]
    have : ∀ l : List Fr, l.length ≤ (l.flatMap frW).length := by
      intro l
      induction l with
      | nil => exact Nat.le_refl _
      | cons f l ih => rw [List.flatMap_cons, List.length_append, List.length_cons]; simp only [frW, List.length_cons]; omega
    have := this s.frn
    omega
  obtain ⟨i1, i2⟩ := frR_m s.frn h.frs.2 _ (p7 l) [] hfl m7
  refine ⟨i2, ?_⟩
  rw [List.nil_append] at i1
  have i1 : (p8 l).2 = s.frn := i1
  unfold prsL
  rw [n2, n3, n6, i1]
theorem back_law (s : Sch) (hv : vldS s = true) (bl op cm : List UInt8) (L : Lay bl op cm) (x : ByteArray) (tail : List UInt8) (ht : tail = [] ∨ tail = [10]) (hx : x.data.toList = textG bl op cm s ++ tail) : prsS x = (s, (0, 0), 0) := by
  have h := ok_of hv
  obtain ⟨o1, o2⟩ := text_okB L s h
  have hb : ∀ c ∈ x.data.toList, badT c = false := by
    rw [hx]
    refine app_ok o1 ?_
    rcases ht with rfl | rfl
    · intro c hc; cases hc
    · exact one_ok (by decide)
  have hr : (x.data.toList.foldl stB ([], false)).1 = allW s := by
    rw [hx, List.foldl_append, run_text L s h]
    rcases ht with rfl | rfl <;> rfl
  obtain ⟨t1, t2⟩ := tokS_txs x hb
  rw [hr] at t2
  obtain ⟨r1, r2⟩ := read_back s h _ t2
  have hsz : x.size ≤ 65536 := by
    have e : x.size = x.data.toList.length := (Array.length_toList).symm
    rw [e, hx, List.length_append]
    rcases ht with rfl | rfl <;> simp <;> omega
  unfold prsS
  rw [if_neg (by omega), if_neg (by rw [t1]; simp), if_neg (by rw [r1]; simp), r2, if_neg (by rw [hv]; simp)]
end Go.Proofs.YtokbipfkpojflaaDoor.Sc
