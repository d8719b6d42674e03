/-
  What Parse returns (plain), and what its loop keeps of memory (layer 34).
-/
import Derived.Test.YtokbipfkpojflaaDoorScB
import Derived.Test.YtokbipfkpojflaaDoorScK
import Derived.Test.YtokbipfkpojflaaDoorLxNb
set_option linter.unusedSimpArgs false
set_option linter.unusedVariables false
namespace Go.Proofs.YtokbipfkpojflaaDoor.Sc
open Go Go.RowKit Go.ChangeShapes Go.WideShapes Go.Proofs.YtokbipfkpojflaaDoor.Sl Go.Lib
open Go.Proofs.YtokbipfkpojflaaDoor.Lx (Tok tokV cellsT cellsT_len cellsT_app cellsT_one)
open Go.Proofs.YtokbipfkpojflaaDoor.Va (Cl flatC flatC_len flatC_snoc Cs)

def kTable : List ByteArray := [⟨#[116, 97, 98, 108, 101]⟩]
def kKey : List ByteArray := [⟨#[107, 101, 121]⟩]
def kForeign : List ByteArray := [⟨#[102, 111, 114, 101, 105, 103, 110]⟩]
def p1 (l : List Tok) : Rd := (wordR ⟨l, (0, 0), 0⟩ kTable).2
def p2 (l : List Tok) : ByteArray × Rd := nameR (p1 l)
def p3 (l : List Tok) : Rd × List Cl := lstR colIt ((p2 l).2, [])
def p4 (l : List Tok) : Rd := (wordR (p3 l).1 kKey).2
def p5 (l : List Tok) : Tok × Rd := nextR (p4 l)
def p6 (l : List Tok) : Int × Int := Lx.numZ (p5 l).1.1 1 8
def p7 (l : List Tok) : Rd := if (p6 l).2 = 0 then (p5 l).2 else failR (p5 l).2 (p5 l).1 (p6 l).2
/-- One foreign key. -/
def frQ (r : Rd) : Rd × List ByteArray := lstR frnIt ((wordR r kForeign).2, [])
def frS (s : Rd × List Fr) : Rd × List Fr := ((nameR (frQ s.1).1).2, s.2 ++ [⟨(frQ s.1).2, (nameR (frQ s.1).1).1⟩])
def frR : Nat → Rd × List Fr → Rd × List Fr
  | 0, s => s
  | n + 1, s => if s.1.e = 0 ∧ s.1.toks ≠ [] then frR n (frS s) else s
def p8 (l : List Tok) : Rd × List Fr := frR ((p7 l).toks.length + 1) (p7 l, [])
def prsL (l : List Tok) : Sch := ⟨(p2 l).1, (p3 l).2, (p6 l).1, (p8 l).2⟩
def sch0 : Sch := ⟨⟨#[]⟩, [], 0, []⟩
/-- What Parse returns. -/
def prsS (s : ByteArray) : Sch × (Nat × Nat) × Int :=
  if 65536 < s.size then (sch0, (0, 0), 5)
  else if (tokS s).2.2 ≠ 0 then (sch0, (tokS s).2.1, (tokS s).2.2)
  else if (p8 (tokS s).1).1.e ≠ 0 then (sch0, (p8 (tokS s).1).1.p, (p8 (tokS s).1).1.e)
  else if vldS (prsL (tokS s).1) = false then (sch0, (0, 0), 1)
  else (prsL (tokS s).1, (0, 0), 0)

theorem nextR_sfx (r : Rd) : (nextR r).2.toks <:+ r.toks := by
  unfold nextR
  split
  · cases h : r.toks with
    | nil => simp
    | cons t l => exact List.suffix_cons t l
  · exact List.suffix_refl _
theorem wordR_sfx (r : Rd) (l : List ByteArray) : (wordR r l).2.toks <:+ r.toks := by
  have := nextR_sfx r
  unfold wordR
  dsimp only
  split
  · exact this
  · rw [failR_toks]; exact this
theorem nameR_sfx (r : Rd) : (nameR r).2.toks <:+ r.toks := by
  have := nextR_sfx r
  unfold nameR
  dsimp only
  split
  · exact this
  · rw [failR_toks]; exact this
theorem listR_sfx {X : Type} (item : Rd × X → Rd × X) (h : ∀ s, (item s).1.toks <:+ s.1.toks) : ∀ (n : Nat) (s : Rd × X), (listR item n s).1.toks <:+ s.1.toks
  | 0, s => List.suffix_refl _
  | n + 1, s => by
    unfold listR
    have h1 : (itemR item s).2.1.toks <:+ s.1.toks := (wordR_sfx _ _).trans (h s)
    split
    · split
      · exact h1
      · exact (listR_sfx item h n _).trans h1
    · exact List.suffix_refl _
theorem lstR_sfx {X : Type} (item : Rd × X → Rd × X) (h : ∀ s, (item s).1.toks <:+ s.1.toks) (s : Rd × X) : (lstR item s).1.toks <:+ s.1.toks := (listR_sfx item h _ _).trans (wordR_sfx _ _)
theorem colIt_sfx (s : Rd × List Cl) : (colIt s).1.toks <:+ s.1.toks := (wordR_sfx _ _).trans (nameR_sfx _)
theorem frnIt_sfx (s : Rd × List ByteArray) : (frnIt s).1.toks <:+ s.1.toks := nameR_sfx _
theorem frQ_sfx (r : Rd) : (frQ r).1.toks <:+ r.toks := (lstR_sfx _ frnIt_sfx _).trans (wordR_sfx _ _)
theorem frS_sfx (s : Rd × List Fr) : (frS s).1.toks <:+ s.1.toks := (nameR_sfx _).trans (frQ_sfx _)
theorem listR_e0 {X : Type} (item : Rd × X → Rd × X) (h : ∀ s, (item s).1.e = 0 → s.1.e = 0) : ∀ (n : Nat) (s : Rd × X), (listR item n s).1.e = 0 → s.1.e = 0
  | 0, s => id
  | n + 1, s => by
    unfold listR
    split
    · intro _; assumption
    · exact id
theorem lstR_e0 {X : Type} (item : Rd × X → Rd × X) (h : ∀ s, (item s).1.e = 0 → s.1.e = 0) (s : Rd × X) (h0 : (lstR item s).1.e = 0) : (wordR s.1 kOpen).2.e = 0 := listR_e0 item h _ _ h0
theorem frnIt_e0 (s : Rd × List ByteArray) (h : (frnIt s).1.e = 0) : s.1.e = 0 := (nameR_e0 _ h).1
theorem colIt_e0 (s : Rd × List Cl) (h : (colIt s).1.e = 0) : s.1.e = 0 := (nameR_e0 _ (wordR_e0 _ _ h)).1
/-- A foreign key that was read has taken a token. -/
theorem frS_dec (s : Rd × List Fr) (h : (frS s).1.e = 0) : s.1.e = 0 ∧ (frS s).1.toks.length < s.1.toks.length := by
  have h1 := nameR_e0 _ h
  have h2 := lstR_e0 frnIt frnIt_e0 _ h1.1
  have h3 := wordR_e0 _ _ h2
  have h4 := wordR_dec s.1 kForeign h3
  have h5 := wordR_e0 _ _ h3
  have h6 := (frQ_sfx s.1).length_le
  have h7 := (lstR_sfx frnIt frnIt_sfx ((wordR s.1 kForeign).2, [])).length_le
  refine ⟨h5, ?_⟩
  have h8 : (frS s).1.toks.length < (frQ s.1).1.toks.length := h1.2
  omega
theorem frR_stable : ∀ (n m : Nat) (s : Rd × List Fr), s.1.toks.length < n → s.1.toks.length < m → frR n s = frR m s
  | 0, m, s, h, _ => absurd h (Nat.not_lt_zero _)
  | n + 1, 0, s, _, h => absurd h (Nat.not_lt_zero _)
  | n + 1, m + 1, s, h1, h2 => by
    unfold frR
    by_cases he : s.1.e = 0 ∧ s.1.toks ≠ []
    · rw [if_pos he, if_pos he]
      by_cases he2 : (frS s).1.e = 0
      · have := (frS_dec s he2).2
        exact frR_stable n m _ (by omega) (by omega)
      · have hn : ¬ ((frS s).1.e = 0 ∧ (frS s).1.toks ≠ []) := fun h => he2 h.1
        cases n <;> cases m <;> simp only [frR, if_neg hn]
    · rw [if_neg he, if_neg he]
theorem frR_go (s : Rd × List Fr) (he : s.1.e = 0 ∧ s.1.toks ≠ []) : frR (s.1.toks.length + 1) s = frR ((frS s).1.toks.length + 1) (frS s) := by
  rw [frR, if_pos he]
  by_cases he2 : (frS s).1.e = 0
  · have := (frS_dec s he2).2
    exact frR_stable _ _ _ (by omega) (by omega)
  · have hn : ¬ ((frS s).1.e = 0 ∧ (frS s).1.toks ≠ []) := fun h => he2 h.1
    cases s.1.toks.length <;> simp only [frR, if_neg hn]
theorem frR_end (s : Rd × List Fr) (he : ¬ (s.1.e = 0 ∧ s.1.toks ≠ [])) : frR (s.1.toks.length + 1) s = s := by rw [frR, if_neg he]
theorem Bnd.frS {s : Rd × List Fr} (h : Bnd s.2.length s.1) (he : s.1.e = 0) : Bnd (frS s).2.length (frS s).1 := by
  have h0 := h.1 he
  have hl := (frS_sfx s).length_le
  have e : (Sc.frS s).2.length = s.2.length + 1 := by unfold Sc.frS; rw [List.length_append]; rfl
  rw [e]
  exact ⟨fun h1 => by have := (frS_dec s h1).2; omega, by omega⟩
/-- The texts of tokens are short. -/
theorem tokRun_short : ∀ (l : List UInt8) (k q : Nat) (st : List Tok × Bool) (out : List Tok) (M : Nat), tokRun l k q st = .inr out → (∀ t ∈ st.1, t.1.size + l.length ≤ M) → st.1.length + l.length ≤ M → 1 ≤ M → out.length ≤ M ∧ ∀ t ∈ out, t.1.size ≤ M
  | [], k, q, st, out, M, h, h1, h2, h3 => by
    simp only [tokRun, Sum.inr.injEq] at h
    subst h
    exact ⟨by simpa using h2, fun t ht => by have := h1 t ht; omega⟩
  | c :: r, k, q, st, out, M, h, h1, h2, h3 => by
    have key : (∀ t ∈ (stT k q c st).1, t.1.size + r.length ≤ M) ∧ (stT k q c st).1.length + r.length ≤ M := by
      simp only [List.length_cons] at h1 h2
      have hnew : ∀ b : Bool, (∀ t ∈ st.1 ++ [((⟨#[c]⟩ : ByteArray), k + 1, q + 1)], t.1.size + r.length ≤ M) ∧ (st.1 ++ [((⟨#[c]⟩ : ByteArray), k + 1, q + 1)]).length + r.length ≤ M := by
        intro b
        refine ⟨fun t ht => ?_, by rw [List.length_append]; simp; omega⟩
        rcases List.mem_append.1 ht with h | h
        · have := h1 t h; omega
        · have e := List.mem_singleton.1 h
          rw [e]
          show 1 + r.length ≤ M
          omega
      unfold stT
      split
      · exact ⟨fun t ht => by have := h1 t ht; omega, by dsimp only; omega⟩
      split
      · exact hnew true
      split
      · by_cases hw : st.1 = []
        · dsimp only
          rw [hw]
          exact ⟨fun t ht => by simp [Lx.addLast] at ht, by simp [Lx.addLast]; omega⟩
        · obtain ⟨ws, t0, hws⟩ := Lx.snoc_of st.1 hw
          dsimp only
          rw [hws, Lx.addLast_snoc]
          rw [hws] at h1 h2
          rw [List.length_append] at h2
          refine ⟨fun t ht => ?_, by rw [List.length_append]; simp at h2 ⊢; omega⟩
          rcases List.mem_append.1 ht with h | h
          · have := h1 t (List.mem_append_left _ h); omega
          · have e := List.mem_singleton.1 h
            rw [e]
            have := h1 t0 (by simp)
            show (t0.1 ++ ⟨#[c]⟩).size + r.length ≤ M
            rw [ByteArray.size_append]
            show t0.1.size + 1 + r.length ≤ M
            omega
      · exact hnew true
    unfold tokRun at h
    split at h
    · cases h
    · split at h
      · exact tokRun_short r _ _ _ out M h key.1 key.2 h3
      · exact tokRun_short r _ _ _ out M h key.1 key.2 h3
theorem tokS_short (s : ByteArray) (hs : s.size ≤ 65536) : (tokS s).1.length ≤ 65537 ∧ ∀ t ∈ (tokS s).1, t.1.size ≤ 65537 := by
  unfold tokS
  cases h : tokRun s.data.toList 0 0 ([], false) with
  | inl p => exact ⟨Nat.zero_le _, fun t ht => by simp [tokOut] at ht⟩
  | inr l =>
    exact tokRun_short _ _ _ _ _ 65537 h (fun t ht => by simp at ht) (by have := Lx.len_is s; simp; omega) (by omega)

theorem own_le {B B' : Nat} {w : World} {e : TypeId} {size : Nat} {v : Value} {n : Nat} {xs : List Value} (h : w.ownsRow B' e size v n xs) (hb : B ≤ B') : w.ownsRow B e size v n xs := by
  obtain ⟨q1, q2⟩ := h
  refine ⟨q1, ?_⟩
  rcases q2 with ⟨q3, q4⟩ | ⟨g, cap, cur, q3, hg, hh, h3⟩
  · exact .inl ⟨q3, q4⟩
  · exact .inr ⟨g, cap, cur, q3, by omega, hh, h3⟩
theorem own_blk {B : Nat} {w w' : World} {e : TypeId} {size : Nat} {v : Value} {n : Nat} {xs : List Value} (h : w.ownsRow B e size v n xs) (hb : ∀ g, v.ownBlock = some g → B ≤ g → g < w.heap.size → w'.heap[g]? = w.heap[g]?) : w'.ownsRow B e size v n xs := by
  have hlt := h.lt
  obtain ⟨q1, q2⟩ := h
  refine ⟨q1, ?_⟩
  rcases q2 with ⟨q3, q4⟩ | ⟨g, cap, cur, q3, hg, hh, h3⟩
  · exact .inl ⟨q3, q4⟩
  · refine .inr ⟨g, cap, cur, q3, hg, ?_, h3⟩
    have e : v.ownBlock = some g := by rw [q3]; rfl
    rw [hb g e (hlt g e).1 (hlt g e).2]; exact hh
def cellsF : List (Value × Fr) → List Value
  | [] => []
  | x :: l => x.1 :: .string x.2.tab :: cellsF l
theorem cellsF_snoc : ∀ (l : List (Value × Fr)) (x : Value × Fr), cellsF (l ++ [x]) = cellsF l ++ [x.1, .string x.2.tab]
  | [], x => rfl
  | y :: l, x => by rw [List.cons_append, cellsF, cellsF_snoc l x]; rfl
theorem cellsF_flat : ∀ (l : List (Value × Fr)), cellsF l = (l.map fun x => [x.1, .string x.2.tab]).flatten
  | [] => rfl
  | x :: l => by rw [cellsF, cellsF_flat l]; rfl
/-- The foreign keys that were read: the call's own. -/
def FInv (B RB B9 : Nat) (W : World) (vf : Value) (l : List Fr) : Prop :=
  ∃ ls : List (Value × Fr), ls.map (·.2) = l ∧ W.ownsRow B 50 2 vf ls.length (cellsF ls) ∧ vf.ownBlock ≠ some RB ∧ vf.ownBlock ≠ some B9 ∧
    ∀ x ∈ ls, W.ownsRow B 9 1 x.1 x.2.cols.length (x.2.cols.map .string) ∧ x.1.ownBlock ≠ some RB ∧ x.1.ownBlock ≠ some B9 ∧ (x.1.ownBlock = none ∨ x.1.ownBlock ≠ vf.ownBlock)
theorem FInv.nil (B RB B9 : Nat) (W : World) : FInv B RB B9 W (.slice none 0 0) [] := ⟨[], rfl, World.ownsRow_nil _ _ _ _, by simp [Value.ownBlock], by simp [Value.ownBlock], fun x hx => by simp at hx⟩
theorem FInv.keep {B RB B9 : Nat} {W W' : World} {vf : Value} {l : List Fr} (h : FInv B RB B9 W vf l) (hb : ∀ g, B ≤ g → g < W.heap.size → g ≠ RB → g ≠ B9 → W'.heap[g]? = W.heap[g]?) : FInv B RB B9 W' vf l := by
  obtain ⟨ls, h1, h2, h3, h4, h5⟩ := h
  have key : ∀ {e : TypeId} {size n : Nat} {v : Value} {xs : List Value}, W.ownsRow B e size v n xs → v.ownBlock ≠ some RB → v.ownBlock ≠ some B9 → W'.ownsRow B e size v n xs := fun ho h6 h7 =>
    own_blk ho fun g hg hB hlt => hb g hB hlt (fun e => h6 (by rw [hg, e])) (fun e => h7 (by rw [hg, e]))
  exact ⟨ls, h1, key h2 h3 h4, h3, h4, fun x hx => ⟨key (h5 x hx).1 (h5 x hx).2.1 (h5 x hx).2.2.1, (h5 x hx).2⟩⟩
theorem FInv.lt {B RB B9 : Nat} {W : World} {vf : Value} {l : List Fr} (h : FInv B RB B9 W vf l) : ∀ g, vf.ownBlock = some g → B ≤ g ∧ g < W.heap.size := by
  obtain ⟨ls, h1, h2, _⟩ := h
  exact fun g hg => h2.lt g hg
theorem FInv.app {B RB B9 : Nat} {W W' : World} {vf v : Value} {ls : List (Value × Fr)} {f : Fr} {g cap : Nat}
    (h3 : vf.ownBlock ≠ some RB) (h4 : vf.ownBlock ≠ some B9)
    (h5 : ∀ x ∈ ls, W.ownsRow B 9 1 x.1 x.2.cols.length (x.2.cols.map .string) ∧ x.1.ownBlock ≠ some RB ∧ x.1.ownBlock ≠ some B9 ∧ (x.1.ownBlock = none ∨ x.1.ownBlock ≠ vf.ownBlock))
    (hv : W.ownsRow B 9 1 v f.cols.length (f.cols.map .string)) (v1 : v.ownBlock ≠ some RB) (v2 : v.ownBlock ≠ some B9) (v3 : v.ownBlock = none ∨ v.ownBlock ≠ vf.ownBlock)
    (hRB : RB < W.heap.size) (hB9 : B9 < W.heap.size)
    (hown : W'.ownsRow B 50 2 (.slice (some ⟨g, 0, none⟩) (ls.length + 1) cap) (ls.length + 1) (cellsF ls ++ [v, .string f.tab])) (hg : W.grownBy W' vf.ownBlock) (hG : vf.ownBlock = some g ∨ W.heap.size ≤ g) :
    FInv B RB B9 W' (.slice (some ⟨g, 0, none⟩) (ls.length + 1) cap) (ls.map (·.2) ++ [f]) := by
  have hgn : ∀ {y : Value} {e : TypeId} {size n : Nat} {xs : List Value}, W.ownsRow B e size y n xs → (y.ownBlock = none ∨ y.ownBlock ≠ vf.ownBlock) → y.ownBlock = none ∨ y.ownBlock ≠ some g := by
    intro y e size n xs hy hne
    rcases hne with hne | hne
    · exact .inl hne
    · rcases hG with hG | hG
      · rw [← hG]; exact .inr hne
      · refine .inr fun e => ?_
        have := (hy.lt g e).2
        omega
  refine ⟨ls ++ [(v, f)], by rw [List.map_append]; rfl, ?_, ?_, ?_, fun x hx => ?_⟩
  · rw [cellsF_snoc, List.length_append]; exact hown
  · show some g ≠ some RB
    rcases hG with hG | hG
    · rw [← hG]; exact h3
    · intro e; cases e; omega
  · show some g ≠ some B9
    rcases hG with hG | hG
    · rw [← hG]; exact h4
    · intro e; cases e; omega
  · rcases List.mem_append.1 hx with h | h
    · have := h5 x h
      exact ⟨this.1.kept hg (this.2.2.2.imp id id), this.2.1, this.2.2.1, hgn this.1 this.2.2.2⟩
    · have e := List.mem_singleton.1 h
      rw [e]
      exact ⟨hv.kept hg (v3.imp id id), v1, v2, hgn hv v3⟩
theorem own_cap {B : Nat} {w : World} {e : TypeId} {size : Nat} {v : Value} {n : Nat} {xs : List Value} (h : w.ownsRow B e size v n xs) : Cap v := by
  rcases own_shape h with rfl | ⟨g, cap, rfl, hc⟩
  · exact Cap.mk (Nat.le_refl _)
  · exact Cap.mk hc
theorem FInv.fs {B RB B9 : Nat} {W : World} {vf : Value} {l : List Fr} (h : FInv B RB B9 W vf l) : FsAt W vf l := by
  obtain ⟨ls, rfl, h2, h3, h4, h5⟩ := h
  refine ⟨ls.map fun x => [x.1, .string x.2.tab], by simp, ⟨?_, own_cap h2⟩, ?_, ?_⟩
  · rw [← cellsF_flat, List.length_map]; exact Sl.of_owns h2
  · intro r hr
    obtain ⟨x, _, rfl⟩ := List.mem_map.1 hr
    rfl
  · intro i r x hr hx
    rw [List.getElem?_map] at hr hx
    cases hi : ls[i]? with
    | none => rw [hi] at hr; simp at hr
    | some y =>
      rw [hi] at hr hx
      simp only [Option.map_some, Option.some.injEq] at hr hx
      subst hr hx
      have := (h5 y (List.mem_of_getElem? hi)).1
      exact ⟨y.1, rfl, Sl.of_owns this |>.cast (by simp) rfl, own_cap this⟩
end Go.Proofs.YtokbipfkpojflaaDoor.Sc
