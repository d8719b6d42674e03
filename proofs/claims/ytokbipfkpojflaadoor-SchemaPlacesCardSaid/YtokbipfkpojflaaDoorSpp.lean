/-
  An error stands at a token of the text: the plain law (layer 34).
-/
import Derived.Test.YtokbipfkpojflaaDoorScQ
import Derived.Test.YtokbipfkpojflaaDoorLxNb
set_option linter.unusedSimpArgs false
set_option linter.unusedVariables false
namespace Go.Proofs.YtokbipfkpojflaaDoor.Sc
open Go Go.RowKit Go.Proofs.YtokbipfkpojflaaDoor.Sl Go.Lib
open Go.Proofs.YtokbipfkpojflaaDoor.Lx (Tok tokV splitL splitL_ne addLast addLast_snoc snoc_of)
open Go.Proofs.YtokbipfkpojflaaDoor.Va (Cl flatC)

/-- A byte stands at a place of lines. -/
def PosOk (ps : List (List UInt8)) (p : Nat × Nat) (c : UInt8) : Prop := 1 ≤ p.1 ∧ 1 ≤ p.2 ∧ ∃ ln, ps[p.1 - 1]? = some ln ∧ ln[p.2 - 1]? = some c
/-- What is left of the lines, at line k, column q. -/
def PInv (ps : List (List UInt8)) (k q : Nat) (r : List UInt8) : Prop := ∃ cur : List UInt8, cur.length = q ∧ (10 : UInt8) ∉ cur ∧ ps.drop k = splitL 10 (cur ++ r)
theorem splitL_pre (c : UInt8) : ∀ (h r : List UInt8), c ∉ h → splitL c (h ++ r) = (h ++ (splitL c r).headD []) :: (splitL c r).tail
  | [], r, _ => by
    have := splitL_ne c r
    cases hs : splitL c r with
    | nil => exact absurd hs this
    | cons x xs => simp [hs]
  | x :: h, r, hn => by
    have hx : ¬ x = c := fun e => hn (by simp [e])
    rw [List.cons_append, splitL, if_neg hx, splitL_pre c h r (fun e => hn (by simp [e]))]
    rfl
theorem pos_at {ps : List (List UInt8)} {k q : Nat} {c : UInt8} {r : List UInt8} (h : PInv ps k q (c :: r)) (hc : ¬ c = 10) : PosOk ps (k + 1, q + 1) c := by
  obtain ⟨cur, hq, hn, hd⟩ := h
  refine ⟨Nat.le_add_left _ _, Nat.le_add_left _ _, cur ++ (splitL 10 (c :: r)).headD [], ?_, ?_⟩
  · rw [splitL_pre 10 cur _ hn] at hd
    have h0 : (ps.drop k)[0]? = some (cur ++ (splitL 10 (c :: r)).headD []) := by rw [hd]; rfl
    rw [List.getElem?_drop] at h0
    exact h0
  · show (cur ++ (splitL 10 (c :: r)).headD [])[q]? = some c
    rw [List.getElem?_append_right (by omega), hq, Nat.sub_self, splitL, if_neg hc]
    rfl
theorem pinv_step {ps : List (List UInt8)} {k q : Nat} {c : UInt8} {r : List UInt8} (h : PInv ps k q (c :: r)) (hc : ¬ c = 10) : PInv ps k (q + 1) r := by
  obtain ⟨cur, hq, hn, hd⟩ := h
  refine ⟨cur ++ [c], by simp [hq], ?_, by rw [hd]; simp⟩
  intro hm
  rcases List.mem_append.1 hm with h1 | h1
  · exact hn h1
  · exact hc (List.mem_singleton.1 h1).symm
theorem pinv_line {ps : List (List UInt8)} {k q : Nat} {r : List UInt8} (h : PInv ps k q (10 :: r)) : PInv ps (k + 1) 0 r := by
  obtain ⟨cur, hq, hn, hd⟩ := h
  refine ⟨[], rfl, by simp, ?_⟩
  rw [splitL_pre 10 cur _ hn, splitL, if_pos rfl] at hd
  have := congrArg List.tail hd
  rw [List.tail_drop] at this
  simpa using this
/-- A token stands at its place. -/
def TOk (ps : List (List UInt8)) (t : Tok) : Prop := ∃ (c : UInt8) (rest : List UInt8), PosOk ps t.2 c ∧ t.1.data.toList = c :: rest ∧ blankC c = false
theorem tok_new {ps : List (List UInt8)} {k q : Nat} {c : UInt8} {r : List UInt8} (h : PInv ps k q (c :: r)) (hb : blankC c = false) : TOk ps (⟨#[c]⟩, k + 1, q + 1) :=
  ⟨c, [], pos_at h (fun e => by rw [e] at hb; simp [blankC] at hb), rfl, hb⟩
theorem stT_ok {ps : List (List UInt8)} {k q : Nat} {c : UInt8} {r : List UInt8} (st : List Tok × Bool) (h : PInv ps k q (c :: r)) (hs : ∀ t ∈ st.1, TOk ps t) : ∀ t ∈ (stT k q c st).1, TOk ps t := by
  unfold stT
  by_cases hb : blankC c = true
  · rw [if_pos hb]; exact hs
  · rw [if_neg hb]
    have hb2 : blankC c = false := by simpa using hb
    have hnew : ∀ t ∈ st.1 ++ [((⟨#[c]⟩ : ByteArray), k + 1, q + 1)], TOk ps t := fun t ht => by
      rcases List.mem_append.1 ht with h1 | h1
      · exact hs t h1
      · rw [List.mem_singleton.1 h1]; exact tok_new h hb2
    by_cases hm : markC c = true
    · rw [if_pos hm]; exact hnew
    · rw [if_neg hm]
      by_cases ho : st.2 = true
      · rw [if_pos ho]
        intro t ht
        by_cases he : st.1 = []
        · have ht' : t ∈ addLast st.1 c := ht
          rw [he] at ht'
          simp [addLast] at ht'
        · obtain ⟨m, u, hu⟩ := snoc_of st.1 he
          have ht' : t ∈ addLast st.1 c := ht
          rw [hu, addLast_snoc] at ht'
          rcases List.mem_append.1 ht' with h1 | h1
          · exact hs t (by rw [hu]; simp [h1])
          · rw [List.mem_singleton.1 h1]
            obtain ⟨c0, rest, p1, p2, p3⟩ := hs u (by rw [hu]; simp)
            exact ⟨c0, rest ++ [c], p1, by simp [p2], p3⟩
      · rw [if_neg ho]; exact hnew
theorem tok_places (ps : List (List UInt8)) : ∀ (r : List UInt8) (k q : Nat) (st : List Tok × Bool), PInv ps k q r → (∀ t ∈ st.1, TOk ps t) →
    (∀ p, tokRun r k q st = .inl p → ∃ c, PosOk ps p c ∧ badT c = true) ∧ (∀ L, tokRun r k q st = .inr L → ∀ t ∈ L, TOk ps t)
  | [], k, q, st, _, hs => ⟨fun p h => by simp [tokRun] at h, fun L h => by simp [tokRun] at h; rw [← h]; exact hs⟩
  | c :: r, k, q, st, h, hs => by
    rw [tokRun]
    by_cases hb : badT c = true
    · rw [if_pos hb]
      refine ⟨fun p hp => ?_, fun L hL => by simp at hL⟩
      simp only [Sum.inl.injEq] at hp
      subst hp
      exact ⟨c, pos_at h (fun e => by rw [e] at hb; simp [badT, blankC] at hb), hb⟩
    · rw [if_neg hb]
      have hs2 := stT_ok st h hs
      by_cases hn : c.toNat = 10
      · rw [if_pos hn]
        have hc : c = 10 := UInt8.toNat_inj.1 hn
        subst hc
        exact tok_places ps r (k + 1) 0 _ (pinv_line h) hs2
      · rw [if_neg hn]
        exact tok_places ps r k (q + 1) _ (pinv_step h (fun e => hn (by rw [e]; rfl))) hs2
theorem pinv_start (l : List UInt8) : PInv (splitL 10 l) 0 0 l := ⟨[], rfl, by simp, rfl⟩
/-- A text that may be a number. -/
def NumT (x : ByteArray) : Prop := ∃ (c : UInt8) (rest : List UInt8), x.data.toList = c :: rest ∧ ((48 ≤ c.toNat ∧ c.toNat ≤ 57) ∨ c.toNat = 45)
theorem numZ_txt (x : ByteArray) (lo hi : Int) (h : (Lx.numZ x lo hi).2 = 2) : NumT x := by
  rcases Lx.off_cases x with ⟨h0, hn, hT⟩ | ⟨h0, c, hg, ⟨hc, hn, hT⟩ | ⟨hc, hn, hT⟩⟩
  · exfalso
    unfold Lx.numZ at h
    rw [if_pos (.inl (by rw [hT, Lx.nil_of x h0]; rfl))] at h
    simp at h
  · obtain ⟨c', h1, h2⟩ := Lx.byte_at x 0 h0
    rw [List.drop_zero] at h2
    refine ⟨c', _, h2, .inr ?_⟩
    rw [← h1, hg h0]
    exact hc
  · have hw : Lx.wholeL x.data.toList = true := by
      cases hw : Lx.wholeL x.data.toList
      · unfold Lx.numZ at h
        rw [if_pos (.inl (by rw [hT]; exact hw))] at h
        simp at h
      · rfl
    have hd := (Lx.whole_dg _ hw).1
    obtain ⟨c', h1, h2⟩ := Lx.byte_at x 0 h0
    rw [List.drop_zero] at h2
    rw [h2] at hd
    simp only [Lx.allDg, List.all_cons, Bool.and_eq_true] at hd
    exact ⟨c', _, h2, .inl (Lx.dg_lt _ hd.1)⟩
theorem numZ_code (x : ByteArray) (lo hi : Int) : (Lx.numZ x lo hi).2 = 0 ∨ (Lx.numZ x lo hi).2 = 2 ∨ (Lx.numZ x lo hi).2 = 3 := by
  unfold Lx.numZ
  split
  · exact .inr (.inr rfl)
  · unfold Lx.numR
    repeat' split
    all_goals first | exact .inr (.inl rfl) | exact .inl rfl
/-- What a reader's error may be. -/
def RO (l : List Tok) (r : Rd) : Prop := r.toks <:+ l ∧ ((r.e = 0 ∧ r.p = (0, 0)) ∨ (r.e = 4 ∧ r.p = (0, 0)) ∨ (r.e = 3 ∧ ∃ t ∈ l, r.p = t.2) ∨ (r.e = 2 ∧ ∃ t ∈ l, r.p = t.2 ∧ NumT t.1))
theorem RO.next {l : List Tok} {r : Rd} (h : RO l r) : RO l (nextR r).2 ∧ ((nextR r).2.e = 0 → (nextR r).1 ∈ l) := by
  obtain ⟨h1, h2⟩ := h
  unfold nextR
  by_cases he : r.e = 0
  · have hp : r.p = (0, 0) := by
      rcases h2 with h2 | h2 | h2 | h2
      · exact h2.2
      · rw [he] at h2; simp at h2
      · rw [he] at h2; simp at h2
      · rw [he] at h2; simp at h2
    rw [if_pos he]
    cases ht : r.toks with
    | nil => exact ⟨⟨by simp, .inr (.inl ⟨rfl, hp⟩)⟩, fun h => by simp at h⟩
    | cons t q =>
      rw [ht] at h1
      exact ⟨⟨(List.suffix_cons t q).trans h1, .inl ⟨rfl, hp⟩⟩, fun _ => h1.subset (by simp)⟩
  · rw [if_neg he]
    exact ⟨⟨h1, h2⟩, fun h => absurd h he⟩
theorem RO.fail {l : List Tok} {q : Rd} {t : Tok} (h : RO l q) (ht : q.e = 0 → t ∈ l) (x : Int) (hx : x = 3 ∨ (x = 2 ∧ NumT t.1)) : RO l (failR q t x) := by
  unfold failR
  by_cases he : q.e = 0
  · rw [if_pos he]
    refine ⟨h.1, ?_⟩
    rcases hx with rfl | ⟨rfl, hn⟩
    · exact .inr (.inr (.inl ⟨rfl, t, ht he, rfl⟩))
    · exact .inr (.inr (.inr ⟨rfl, t, ht he, rfl, hn⟩))
  · rw [if_neg he]; exact h
theorem RO.word {l : List Tok} {r : Rd} (h : RO l r) (k : List ByteArray) : RO l (wordR r k).2 := by
  unfold wordR
  dsimp only
  split
  · exact h.next.1
  · exact h.next.1.fail h.next.2 3 (.inl rfl)
theorem RO.name {l : List Tok} {r : Rd} (h : RO l r) : RO l (nameR r).2 := by
  unfold nameR
  dsimp only
  split
  · exact h.next.1
  · exact h.next.1.fail h.next.2 3 (.inl rfl)
theorem RO.list {X : Type} {l : List Tok} (item : Rd × X → Rd × X) (hi : ∀ s, RO l s.1 → RO l (item s).1) : ∀ (n : Nat) (s : Rd × X), RO l s.1 → RO l (listR item n s).1
  | 0, s, h => h
  | n + 1, s, h => by
    unfold listR
    have h1 : RO l (itemR item s).2.1 := (hi s h).word kMore
    split
    · split
      · exact h1
      · exact RO.list item hi n _ h1
    · exact h
theorem RO.lst {X : Type} {l : List Tok} (item : Rd × X → Rd × X) (hi : ∀ s, RO l s.1 → RO l (item s).1) (s : Rd × X) (h : RO l s.1) : RO l (lstR item s).1 := RO.list item hi _ _ (h.word kOpen)
theorem RO.frS {l : List Tok} {s : Rd × List Fr} (h : RO l s.1) : RO l (frS s).1 := (RO.lst frnIt (fun s h => h.name) _ (h.word kForeign)).name
theorem RO.frR {l : List Tok} : ∀ (n : Nat) (s : Rd × List Fr), RO l s.1 → RO l (frR n s).1
  | 0, s, h => h
  | n + 1, s, h => by
    unfold Sc.frR
    split
    · exact RO.frR n _ h.frS
    · exact h
theorem p8_ro (l : List Tok) : RO l (p8 l).1 := by
  have h0 : RO l ⟨l, (0, 0), 0⟩ := ⟨List.suffix_refl _, .inl ⟨rfl, rfl⟩⟩
  have h4 : RO l (p4 l) := (RO.lst colIt (fun s h => (h.name).word kwL) _ ((h0.word kTable).name)).word kKey
  have h7 : RO l (p7 l) := by
    unfold p7
    split
    · exact h4.next.1
    · rename_i hf
      refine h4.next.1.fail h4.next.2 _ ?_
      rcases numZ_code (p5 l).1.1 1 8 with h | h | h
      · exact absurd h hf
      · exact .inr ⟨h, numZ_txt _ _ _ h⟩
      · exact .inl h
  exact RO.frR _ _ h7
/-- What Parse returns: a schema, no place, or the place of a token. -/
theorem places_law (s : ByteArray) (hs : s.size ≤ 65536) :
    ((prsS s).2.2 = 0 ∧ vldS (prsS s).1 = true ∧ (prsS s).2.1 = (0, 0)) ∨ ((prsS s).1 = sch0 ∧ ((prsS s).2.2 = 1 ∨ (prsS s).2.2 = 4) ∧ (prsS s).2.1 = (0, 0)) ∨
    ((prsS s).1 = sch0 ∧ ((prsS s).2.2 = 3 ∨ (prsS s).2.2 = 2) ∧ ∃ c : UInt8, PosOk (splitL 10 s.data.toList) (prsS s).2.1 c ∧ ¬ c.toNat = 32 ∧ ¬ c.toNat = 9 ∧ ((prsS s).2.2 = 2 → (48 ≤ c.toNat ∧ c.toNat ≤ 57) ∨ c.toNat = 45)) := by
  have htk := tok_places (splitL 10 s.data.toList) s.data.toList 0 0 ([], false) (pinv_start _) (fun t ht => by simp at ht)
  unfold prsS
  rw [if_neg (by omega)]
  by_cases h1 : (tokS s).2.2 ≠ 0
  · rw [if_pos h1]
    refine .inr (.inr ⟨rfl, ?_⟩)
    unfold tokS at h1 ⊢
    cases hr : tokRun s.data.toList 0 0 ([], false) with
    | inr L => rw [hr] at h1; exact absurd rfl h1
    | inl p =>
      obtain ⟨c, hp, hb⟩ := htk.1 p hr
      refine ⟨.inl rfl, c, hp, ?_, ?_, fun h => by simp [tokOut] at h⟩
      · intro e; simp [badT, blankC, e] at hb
      · intro e; simp [badT, blankC, e] at hb
  · rw [if_neg h1]
    have hL : ∀ t ∈ (tokS s).1, TOk (splitL 10 s.data.toList) t := by
      unfold tokS at h1 ⊢
      cases hr : tokRun s.data.toList 0 0 ([], false) with
      | inl p => rw [hr] at h1; exact absurd (show ((3 : Int) ≠ 0) by decide) h1
      | inr L => exact htk.2 L hr
    obtain ⟨_, hro⟩ := p8_ro (tokS s).1
    by_cases h2 : (p8 (tokS s).1).1.e ≠ 0
    · rw [if_pos h2]
      rcases hro with h3 | h3 | ⟨h3, t, ht, hp⟩ | ⟨h3, t, ht, hp, hn⟩
      · exact absurd h3.1 h2
      · exact .inr (.inl ⟨rfl, .inr h3.1, h3.2⟩)
      · obtain ⟨c, rest, k1, k2, k3⟩ := hL t ht
        refine .inr (.inr ⟨rfl, .inl h3, c, by rw [hp]; exact k1, ?_, ?_, fun h => ?_⟩)
        · intro e; simp [blankC, e] at k3
        · intro e; simp [blankC, e] at k3
        · have h' : (p8 (tokS s).1).1.e = 2 := h
          rw [h3] at h'; simp at h'
      · obtain ⟨c, rest, k1, k2, k3⟩ := hL t ht
        obtain ⟨c', rest', k4, k5⟩ := hn
        rw [k2] at k4
        cases k4
        refine .inr (.inr ⟨rfl, .inr h3, c, by rw [hp]; exact k1, ?_, ?_, fun _ => k5⟩)
        · intro e; simp [blankC, e] at k3
        · intro e; simp [blankC, e] at k3
    · rw [if_neg h2]
      by_cases h3 : vldS (prsL (tokS s).1) = false
      · rw [if_pos h3]
        exact .inr (.inl ⟨rfl, .inl rfl, rfl⟩)
      · rw [if_neg h3]
        exact .inl ⟨rfl, by simpa using h3, rfl⟩
end Go.Proofs.YtokbipfkpojflaaDoor.Sc
