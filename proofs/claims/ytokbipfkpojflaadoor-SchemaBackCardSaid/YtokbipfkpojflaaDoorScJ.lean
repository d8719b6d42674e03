/-
  Tokens: the plain model, what their loop keeps of memory (layer 34).
-/
import Derived.Test.YtokbipfkpojflaaDoorScP
import Derived.Test.YtokbipfkpojflaaDoorLxQ
import Derived.Test.YtokbipfkpojflaaDoorLxR
import Derived.Deep.RegionHeldLaw
import Derived.Deep.AppendLies
import Derived.StillTactics
import Derived.Deep.Cut
set_option linter.unusedSimpArgs false
set_option linter.unusedVariables false
namespace Go.Proofs.YtokbipfkpojflaaDoor.Sc
open Go Go.RowKit Go.ChangeShapes Go.WideShapes Go.Proofs.YtokbipfkpojflaaDoor.Sl Go.Lib
open Go.Proofs.YtokbipfkpojflaaDoor.Lx (Tok tokV cellsT cellsT_len cellsT_app cellsT_one cellsT_last cellsT_set addLast addLast_snoc snoc_of ext_one)

def blankC (c : UInt8) : Bool := decide (c.toNat = 32) || decide (c.toNat = 9) || decide (c.toNat = 10)
def markC (c : UInt8) : Bool := decide (c.toNat = 40) || decide (c.toNat = 41) || decide (c.toNat = 44)
def badT (c : UInt8) : Bool := !blankC c && (decide (c.toNat < 33) || decide (126 < c.toNat))
/-- One byte more: the tokens so far, and whether a word is open. -/
def stT (k q : Nat) (c : UInt8) (st : List Tok × Bool) : List Tok × Bool :=
  if blankC c = true then (st.1, false)
  else if markC c = true then (st.1 ++ [(⟨#[c]⟩, k + 1, q + 1)], false)
  else if st.2 = true then (addLast st.1 c, true)
  else (st.1 ++ [(⟨#[c]⟩, k + 1, q + 1)], true)
def tokRun : List UInt8 → Nat → Nat → List Tok × Bool → (Nat × Nat) ⊕ List Tok
  | [], _, _, st => .inr st.1
  | c :: r, k, q, st => if badT c = true then .inl (k + 1, q + 1) else if c.toNat = 10 then tokRun r (k + 1) 0 (stT k q c st) else tokRun r k (q + 1) (stT k q c st)
def tokOut : (Nat × Nat) ⊕ List Tok → List Tok × (Nat × Nat) × Int
  | .inl p => ([], p, 3)
  | .inr l => (l, (0, 0), 0)
/-- What tokens returns: the tokens, the place of an error, its number. -/
def tokS (s : ByteArray) : List Tok × (Nat × Nat) × Int := tokOut (tokRun s.data.toList 0 0 ([], false))
theorem tokRun_bad (l : List UInt8) (j k q : Nat) (st : List Tok × Bool) (c : UInt8) (h : l.drop j = c :: l.drop (j + 1)) (hb : badT c = true) : tokRun (l.drop j) k q st = .inl (k + 1, q + 1) := by
  rw [h, tokRun, if_pos hb]
theorem tokRun_nl (l : List UInt8) (j k q : Nat) (st : List Tok × Bool) (c : UInt8) (h : l.drop j = c :: l.drop (j + 1)) (hc : c.toNat = 10) : tokRun (l.drop j) k q st = tokRun (l.drop (j + 1)) (k + 1) 0 (st.1, false) := by
  have hb : ¬ badT c = true := by simp [badT, blankC, hc]
  rw [h, tokRun, if_neg hb, if_pos hc, stT, if_pos (by simp [blankC, hc])]
theorem tokRun_step (l : List UInt8) (j k q : Nat) (st : List Tok × Bool) (c : UInt8) (h : l.drop j = c :: l.drop (j + 1)) (hc : ¬ c.toNat = 10) (hb : ¬ badT c = true) : tokRun (l.drop j) k q st = tokRun (l.drop (j + 1)) k (q + 1) (stT k q c st) := by
  rw [h, tokRun, if_neg hb, if_neg hc]
theorem tokRun_end (l : List UInt8) (j k q : Nat) (st : List Tok × Bool) (h : l.length ≤ j) : tokRun (l.drop j) k q st = .inr st.1 := by
  rw [List.drop_eq_nil_of_le h, tokRun]

/-- Where a place stands. -/
def PosAt (w : World) (P : Nat) (a b : Int) : Prop := w.cell? ⟨P, 0, none⟩ = some (.int .i64 a) ∧ w.cell? ⟨P, 1, none⟩ = some (.int .i64 b) ∧ w.frozen? ⟨P, 0, none⟩ = false ∧ w.frozen? ⟨P, 1, none⟩ = false
theorem PosAt.kept {w w' : World} {P : Nat} {a b : Int} {row : Option Nat} (h : PosAt w P a b) (hg : w.grownBy w' row) (hne : some P ≠ row) : PosAt w' P a b := by
  obtain ⟨h0, h1, f0, f1⟩ := h
  have hP := block_of_cell h0
  exact ⟨by rw [hg.cell_far ⟨P, 0, none⟩ hP hne]; exact h0, by rw [hg.cell_far ⟨P, 1, none⟩ hP hne]; exact h1, by rw [hg.frozen_far ⟨P, 0, none⟩ hP hne]; exact f0, by rw [hg.frozen_far ⟨P, 1, none⟩ hP hne]; exact f1⟩
theorem PosAt.col {w : World} {P : Nat} {a b : Int} (h : PosAt w P a b) (c : Int) : PosAt (w.setCell ⟨P, 1, none⟩ (.int .i64 c)) P a c := by
  obtain ⟨h0, h1, f0, f1⟩ := h
  refine ⟨?_, ?_, ?_, ?_⟩
  · simp [go_sem, h0, h1, f0, f1]
  · simp [go_sem, h0, h1, f0, f1]
  · simp [go_sem, h0, h1, f0, f1]
  · simp [go_sem, h0, h1, f0, f1]
theorem PosAt.both {w : World} {P : Nat} {a b : Int} (h : PosAt w P a b) (c d : Int) : PosAt ((w.setCell ⟨P, 0, none⟩ (.int .i64 c)).setCell ⟨P, 1, none⟩ (.int .i64 d)) P c d := by
  obtain ⟨h0, h1, f0, f1⟩ := h
  refine ⟨?_, ?_, ?_, ?_⟩
  · simp [go_sem, h0, h1, f0, f1]
  · simp [go_sem, h0, h1, f0, f1]
  · simp [go_sem, h0, h1, f0, f1]
  · simp [go_sem, h0, h1, f0, f1]
theorem gp_refl (w : World) (r : Option Nat) : w.grownBy w r := ⟨rfl, rfl, rfl, Nat.le_refl _, fun _ _ _ => rfl⟩
theorem gp_alloc {w w1 : World} {r : Option Nat} (h : w.grownBy w1 r) (o : Obj) : w.grownBy (w1.alloc o) r := h.trans (World.grownBy_alloc w1 o r)
theorem gp_drew {w w1 : World} {r : Option Nat} (h : w.grownBy w1 r) : w.grownBy w1.drew r := ⟨h.os, h.tape, h.output, h.size, h.block⟩
theorem gp_set1 (w : World) (P j : Nat) (u : Value) : w.grownBy (w.setCell ⟨P, j, none⟩ u) (some P) := by
  have hs : (w.setCell ⟨P, j, none⟩ u).heap.size = w.heap.size := by simp
  have hB : Below 0 w (w.setCell ⟨P, j, none⟩ u) := (Below.refl 0 w).setCell (p := ⟨P, j, none⟩) (Nat.zero_le _) u
  exact ⟨hB.os, hB.tape, hB.output, by omega, fun k hk hne => Below.heap_setCell _ _ _ _ (by show k ≠ P; exact fun e => hne (by rw [e]))⟩
theorem gp_set {w w1 : World} {P : Nat} (h : w.grownBy w1 (some P)) (j : Nat) (u : Value) : w.grownBy (w1.setCell ⟨P, j, none⟩ u) (some P) := h.trans (gp_set1 w1 P j u)
theorem pos_new (w : World) (a b : Int) (t : TypeId) : PosAt (w.alloc (.cells #[.int .i64 a, .int .i64 b] t)) w.heap.size a b := by
  obtain ⟨w1, hw⟩ : ∃ w1, w1 = w.alloc (.cells #[.int .i64 a, .int .i64 b] t) := ⟨_, rfl⟩
  have hh : w1.heap[w.heap.size]? = some (.cells #[.int .i64 a, .int .i64 b] t (0, 0)) := by rw [hw]; exact Go.heap_alloc_new w _
  rw [← hw]
  refine ⟨?_, ?_, ?_, ?_⟩
  · rw [cell_of_row _ _ _ _ _ _ hh]; rfl
  · rw [cell_of_row _ _ _ _ _ _ hh]; rfl
  · simp [World.frozen?, hh]
  · simp [World.frozen?, hh]
theorem info_tok : (Tryd.prog.info? 71).map (fun i => (i.zero, i.size, i.bytes)) = some (some (.agg #[.string ⟨#[]⟩, .int .i64 0, .int .i64 0]), 3, 32) := by kernel_rfl
theorem cells_tok (c : UInt8) (k q : Nat) : cellsT [((⟨#[c]⟩ : ByteArray), k + 1, q + 1)] = [.string ⟨#[c]⟩, .int .i64 ((k : Int) + 1), .int .i64 ((q : Int) + 1)] := by
  rw [cellsT_one]; simp [tokV]
theorem cast1 (k : Nat) : (((k + 1 : Nat) : Int) + 1) = (k : Int) + 1 + 1 := by omega
/-- The slice of tokens is the call's own, apart from the blocks R (= B - 1) and P. -/
def TInv (B P : Nat) (w : World) (v : Value) (ws : List Tok) : Prop := w.ownsRow B 71 3 v ws.length (cellsT ws) ∧ v.ownBlock ≠ some P
theorem TInv.kept {B P Q : Nat} {w w' : World} {v : Value} {ws : List Tok} (h : TInv B P w v ws) (hg : w.grownBy w' (some Q)) (hQ : Q = P ∨ Q < B) : TInv B P w' v ws := by
  refine ⟨h.1.kept hg (.inr ?_), h.2⟩
  rcases hQ with rfl | hQ
  · exact h.2
  · intro e
    have := (h.1.lt Q e).1
    omega
theorem TInv.far {B P R : Nat} {w : World} {v : Value} {ws : List Tok} (h : TInv B P w v ws) (hR : R < B) : some R ≠ v.ownBlock := fun e => by have := (h.1.lt R e.symm).1; omega
/-- The row has turned into another one. -/
theorem TInv.line {B P : Nat} {w w' : World} {v v' : Value} {ws ws' : List Tok} {g : Nat} (h : TInv B P w v ws) (hP : P < w.heap.size)
    (hown : w'.ownsRow B 71 3 v' ws'.length (cellsT ws')) (hb : v'.ownBlock = some g) (hG : v.ownBlock = some g ∨ w.heap.size ≤ g) : TInv B P w' v' ws' := by
  refine ⟨hown, ?_⟩
  rw [hb]
  rcases hG with hG | hG
  · rw [← hG]; exact h.2
  · intro e; cases e; omega
/-- The slice s holds tokens. -/
def Ts (w : World) (v : Value) (l : List Tok) : Prop := Sl w v l.length 3 (cellsT l) ∧ Cap v
theorem Ts.below {w w' : World} {v : Value} {l : List Tok} (h : Ts w v l) (hb : Below w.heap.size w w') : Ts w' v l := ⟨h.1.below hb, h.2⟩
theorem ownTs {B : Nat} {w : World} {v : Value} {ws : List Tok} (h : w.ownsRow B 71 3 v ws.length (cellsT ws)) : Ts w v ws := by
  refine ⟨Sl.of_owns h, ?_⟩
  obtain ⟨_, ⟨rfl, _⟩ | ⟨g, cap, cur, rfl, _, _, hn, _⟩⟩ := h
  · exact Cap.mk (Nat.le_refl _)
  · exact Cap.mk hn
def posV (p : Nat × Nat) : Value := .agg #[.int .i64 p.1, .int .i64 p.2]
def tokX (v : Value) (p : Nat × Nat) (n : Int) : Value := .tuple #[v, posV p, .int .i64 n]
end Go.Proofs.YtokbipfkpojflaaDoor.Sc
