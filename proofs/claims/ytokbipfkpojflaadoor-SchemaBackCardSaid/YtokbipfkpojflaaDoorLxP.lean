/-
  The pieces of a text at a byte (plain lemmas; nothing of the program).
-/
import Derived.WalkKit
import Derived.ProofKit
import Derived.Lib.SplitLaws
import Derived.Lib.IndexLaws
namespace Go.Proofs.YtokbipfkpojflaaDoor.Lx
open Go Go.RowKit

/-- The pieces of a text between the bytes c. -/
def splitL (c : UInt8) : List UInt8 → List (List UInt8)
  | [] => [[]]
  | x :: xs => if x = c then [] :: splitL c xs else (x :: (splitL c xs).headD []) :: (splitL c xs).tail

theorem splitL_ne (c : UInt8) (l : List UInt8) : splitL c l ≠ [] := by
  cases l with
  | nil => simp [splitL]
  | cons x xs => unfold splitL; split <;> simp

theorem splitK_one (c : UInt8) : ∀ l : List UInt8, Lib.splitK [c] 0 (Lib.count l [c]) l = splitL c l
  | [] => by rw [Lib.count_one]; rfl
  | x :: xs => by
    have ih := splitK_one c xs
    by_cases h : x = c
    · subst h
      rw [Lib.count_cons_eq, Nat.add_comm, splitL, if_pos rfl, Lib.splitK]
      have hi : Lib.index (x :: xs) [x] = 0 := by rw [Lib.index]; simp [List.isPrefixOf]
      rw [hi]
      simp [ih]
    · rw [Lib.count_cons_ne _ _ _ h, splitL, if_neg h, ← ih]
      have hp : ([c] : List UInt8).isPrefixOf (x :: xs) = false := by simp [List.isPrefixOf, Ne.symm h]
      have hix : Lib.index (x :: xs) [c] = if Lib.index xs [c] == -1 then -1 else Lib.index xs [c] + 1 := by rw [Lib.index, hp]; simp
      cases hk : Lib.count xs [c] with
      | zero => simp [Lib.splitK]
      | succ k =>
        by_cases hm : Lib.index xs [c] = -1
        · rw [Lib.splitK, Lib.splitK, hix, if_pos (beq_iff_eq.2 hm), if_pos (beq_iff_eq.2 hm)]; simp
        · have hge := Lib.index_ge xs [c]
          obtain ⟨j, hj⟩ : ∃ j : Nat, Lib.index xs [c] = j := ⟨(Lib.index xs [c]).toNat, by omega⟩
          rw [Lib.splitK, Lib.splitK, hix, hj]
          have hm2 : ¬ ((j : Int) == -1) = true := by simp; try omega
          have hm3 : ¬ ((j : Int) + 1 == -1) = true := by simp; omega
          rw [if_neg hm2, if_neg hm3, if_neg hm2]
          have e1 : ((j : Int) + 1).toNat = j + 1 := by omega
          simp [e1]

theorem splitB_one (c : UInt8) (s : ByteArray) : (Lib.splitB ⟨#[c]⟩ 0 (Lib.countB s ⟨#[c]⟩) s).map (·.data.toList) = splitL c s.data.toList := by
  rw [Lib.splitB_data]
  exact splitK_one c _
/-- A byte is a digit. -/
def dgB (x : Nat) : Bool := decide (48 ≤ x) && decide (x ≤ 57)

/-- The number that digits stand for. -/
def numL (l : List UInt8) : Int := l.foldl (fun n c => 10 * n + ((c.toNat : Int) - 48)) 0
def allDg (l : List UInt8) : Bool := l.all fun c => dgB c.toNat
/-- One piece of a span: its number, if it may stand at place i. -/
def valP (i : Nat) (p : List UInt8) : Option Int :=
  if p.length < 1 ∨ 2 < p.length ∨ (0 < i ∧ p.length ≠ 2) then none
  else if allDg p = false then none
  else if (i = 0 ∧ p.length = 2 ∧ p.headD 0 = 48) ∨ (0 < i ∧ 59 < numL p) then none
  else some (numL p)
def mulP : Nat → Int
  | 0 => 3600
  | 1 => 60
  | _ => 1
def foldS : Nat → List (List UInt8) → Int → Option Int
  | _, [], t => some t
  | i, p :: ps, t => match valP i p with
    | none => none
    | some n => foldS (i + 1) ps (t + n * mulP i)
/-- The seconds of a span of time. -/
def spanZ (s : ByteArray) : Option Int := if 3 < (splitL 58 s.data.toList).length then none else foldS 0 (splitL 58 s.data.toList) 0
def spanV (o : Option Int) : Value := .tuple #[.int .i64 (o.getD 0), .bool o.isSome]

theorem foldS_none (k : Nat) (ps : List (List UInt8)) (p : List UInt8) (t : Int) (h : ps[k]? = some p) (hv : valP k p = none) : foldS k (ps.drop k) t = none := by
  have hk : k < ps.length := (List.getElem?_eq_some_iff.1 h).1
  rw [List.drop_eq_getElem_cons hk]
  have : ps[k] = p := by rw [List.getElem?_eq_getElem hk] at h; exact Option.some.inj h
  rw [this, foldS, hv]
theorem foldS_some (k : Nat) (ps : List (List UInt8)) (p : List UInt8) (t n : Int) (h : ps[k]? = some p) (hv : valP k p = some n) : foldS k (ps.drop k) t = foldS (k + 1) (ps.drop (k + 1)) (t + n * mulP k) := by
  have hk : k < ps.length := (List.getElem?_eq_some_iff.1 h).1
  rw [List.drop_eq_getElem_cons hk]
  have : ps[k] = p := by rw [List.getElem?_eq_getElem hk] at h; exact Option.some.inj h
  rw [this, foldS, hv]
theorem foldS_end (k : Nat) (ps : List (List UInt8)) (t : Int) (h : ps.length ≤ k) : foldS k (ps.drop k) t = some t := by
  rw [List.drop_eq_nil_of_le h, foldS]

theorem one_of (p : ByteArray) (h : p.size = 1) : ∃ x, p = ⟨#[x]⟩ := Lib.one_byte p h
theorem two_of (p : ByteArray) (h : p.size = 2) : ∃ x y, p = ⟨#[x, y]⟩ := by
  obtain ⟨⟨l⟩⟩ := p
  match l with
  | [] => simp [ByteArray.size] at h
  | [x] => simp [ByteArray.size] at h
  | [x, y] => exact ⟨x, y, rfl⟩
  | x :: y :: z :: l => simp [ByteArray.size] at h

end Go.Proofs.YtokbipfkpojflaaDoor.Lx
