/-
  Texts of sets of relations: names between bars, and their reading (plain lemmas; nothing of the program).
-/
import Derived.Test.YtknnpgaabejjlaaDoorLxP
import Derived.Lib.Join
namespace Go.Proofs.YtknnpgaabejjlaaDoor.Tp
open Go Go.RowKit Go.Proofs.YtknnpgaabejjlaaDoor.Lx

/-- Where a name stands in a list. -/
def idxN : Nat → List (List UInt8) → List UInt8 → Option Nat
  | _, [], _ => none
  | i, z :: zs, p => if z = p then some i else idxN (i + 1) zs p
/-- The last place at which a name stands (as the reference looks for it). -/
def lastN : Nat → List (List UInt8) → List UInt8 → Option Nat → Option Nat
  | _, [], _, o => o
  | i, z :: zs, p, o => lastN (i + 1) zs p (if z = p then some i else o)
theorem idxN_at : ∀ (N : List (List UInt8)) (i r : Nat) (p : List UInt8), N.Nodup → N[r]? = some p → idxN i N p = some (i + r)
  | [], i, r, p, _, h => by simp at h
  | z :: zs, i, 0, p, _, h => by simp at h; simp [idxN, h]
  | z :: zs, i, r + 1, p, hn, h => by
    rw [List.nodup_cons] at hn
    have hm : zs[r]? = some p := by simpa using h
    have hne : ¬ z = p := fun e => hn.1 (by rw [e]; exact List.mem_of_getElem? hm)
    rw [idxN, if_neg hne, idxN_at zs (i + 1) r p hn.2 hm]
    congr 1; omega
theorem idxN_lt : ∀ (N : List (List UInt8)) (i r : Nat) (p : List UInt8), idxN i N p = some r → i ≤ r ∧ r < i + N.length ∧ N[r - i]? = some p
  | [], i, r, p, h => by simp [idxN] at h
  | z :: zs, i, r, p, h => by
    unfold idxN at h
    split at h
    · next e => cases h; exact ⟨Nat.le_refl _, by simp, by simp [e]⟩
    · obtain ⟨a, b, c⟩ := idxN_lt zs (i + 1) r p h
      refine ⟨by omega, by simp only [List.length_cons]; omega, ?_⟩
      rw [show r - i = r - (i + 1) + 1 by omega]; simpa using c
theorem lastN_is : ∀ (N : List (List UInt8)) (i : Nat) (p : List UInt8) (o : Option Nat), N.Nodup → lastN i N p o = (match idxN i N p with
    | none => o
    | some r => some r)
  | [], i, p, o, _ => rfl
  | z :: zs, i, p, o, hn => by
    rw [List.nodup_cons] at hn
    rw [lastN, idxN]
    by_cases h : z = p
    · rw [if_pos h, if_pos h, lastN_is zs (i + 1) p _ hn.2]
      cases hi : idxN (i + 1) zs p with
      | none => rfl
      | some r =>
        obtain ⟨_, _, c⟩ := idxN_lt zs (i + 1) r p hi
        exact absurd (h ▸ List.mem_of_getElem? c) hn.1
    · rw [if_neg h, if_neg h, lastN_is zs (i + 1) p _ hn.2]

/-- The set that names stand for, and whether one stands twice. -/
def parsA (N : List (List UInt8)) : List (List UInt8) → Nat → Bool → Option (Nat × Bool)
  | [], m, tw => some (m, tw)
  | p :: ps, m, tw => match idxN 0 N p with
    | none => none
    | some r => parsA N ps (m ||| 2 ^ r) (tw || m.testBit r)
/-- Byte by byte, as the reference reads: 'cur' is what has been read of the name. -/
def runA (N : List (List UInt8)) : List UInt8 → List UInt8 → Nat → Bool → Option (Nat × Bool)
  | [], cur, m, tw => (idxN 0 N cur).map fun r => (m ||| 2 ^ r, tw || m.testBit r)
  | c :: l, cur, m, tw => if c = 124 then (match idxN 0 N cur with
      | none => none
      | some r => runA N l [] (m ||| 2 ^ r) (tw || m.testBit r)) else runA N l (cur ++ [c]) m tw
theorem runA_is (N : List (List UInt8)) : ∀ (l cur : List UInt8) (m : Nat) (tw : Bool), runA N l cur m tw = parsA N ((cur ++ (splitL 124 l).headD []) :: (splitL 124 l).tail) m tw
  | [], cur, m, tw => by
    simp only [runA, splitL, List.headD_cons, List.tail_cons, List.append_nil, parsA]
    cases idxN 0 N cur <;> rfl
  | c :: l, cur, m, tw => by
    rw [runA, splitL]
    by_cases h : c = 124
    · rw [if_pos h, if_pos h]
      simp only [List.headD_cons, List.tail_cons, List.append_nil, parsA]
      cases idxN 0 N cur with
      | none => rfl
      | some r =>
        show runA N l [] _ _ = parsA N (splitL 124 l) _ _
        rw [runA_is N l]
        cases hs : splitL 124 l with
        | nil => exact absurd hs (splitL_ne 124 l)
        | cons p ps => simp
    · rw [if_neg h, if_neg h, runA_is N l]
      simp
theorem runA_all (N : List (List UInt8)) (l : List UInt8) (m : Nat) (tw : Bool) : runA N l [] m tw = parsA N (splitL 124 l) m tw := by
  rw [runA_is]
  cases hs : splitL 124 l with
  | nil => exact absurd hs (splitL_ne 124 l)
  | cons p ps => simp

/-- Names with bars between them. -/
def joinN : List (List UInt8) → List UInt8
  | [] => []
  | [x] => x
  | x :: y :: r => x ++ 124 :: joinN (y :: r)
theorem split_none : ∀ (h : List UInt8), (124 : UInt8) ∉ h → splitL 124 h = [h]
  | [], _ => rfl
  | x :: h, hh => by
    have hx : ¬ x = 124 := fun e => hh (by simp [e])
    rw [splitL, if_neg hx, split_none h (fun e => hh (by simp [e]))]; rfl
theorem split_head : ∀ (h t : List UInt8), (124 : UInt8) ∉ h → splitL 124 (h ++ 124 :: t) = h :: splitL 124 t
  | [], t, _ => by simp [splitL]
  | x :: h, t, hh => by
    have hx : ¬ x = 124 := fun e => hh (by simp [e])
    rw [List.cons_append, splitL, if_neg hx, split_head h t (fun e => hh (by simp [e]))]; rfl
theorem split_join : ∀ l : List (List UInt8), l ≠ [] → (∀ x ∈ l, (124 : UInt8) ∉ x) → splitL 124 (joinN l) = l
  | [], h, _ => absurd rfl h
  | [x], _, h => split_none x (h x (by simp))
  | x :: y :: r, _, h => by
    rw [joinN, split_head x _ (h x (by simp)), split_join (y :: r) (by simp) (fun z hz => h z (by simp [hz]))]
theorem joinN_snoc : ∀ (l : List (List UInt8)) (x : List UInt8), l ≠ [] → joinN (l ++ [x]) = joinN l ++ 124 :: x
  | [], x, h => absurd rfl h
  | [y], x, _ => rfl
  | y :: z :: r, x, _ => by
    show y ++ 124 :: joinN (z :: r ++ [x]) = _
    rw [joinN_snoc (z :: r) x (by simp)]
    show _ = (y ++ 124 :: joinN (z :: r)) ++ 124 :: x
    simp

theorem joinN_lib : ∀ l : List (List UInt8), Lib.join l [124] = joinN l
  | [] => rfl
  | [x] => by simp [Lib.join, joinN, List.intercalate]
  | x :: y :: r => by
    have ih := joinN_lib (y :: r)
    unfold Lib.join at ih ⊢
    rw [joinN, ← ih]
    simp [List.intercalate, List.intersperse]
theorem testBit_or_pow (m r k : Nat) (h : m.testBit k = false) (hr : r ≠ k) : (m ||| 2 ^ r).testBit k = false := by
  rw [Nat.testBit_or, h, Nat.testBit_two_pow]; simp [hr]
/-- Names of relations that differ are read as their set. -/
theorem parsA_names (N : List (List UInt8)) (hN : N.Nodup) : ∀ (rs : List Nat) (m : Nat) (tw : Bool), (∀ r ∈ rs, r < N.length) → rs.Nodup → (∀ r ∈ rs, m.testBit r = false) →
    parsA N (rs.map fun r => N.getD r []) m tw = some (rs.foldl (fun m r => m ||| 2 ^ r) m, tw)
  | [], m, tw, _, _, _ => rfl
  | r :: rs, m, tw, h1, h2, h3 => by
    rw [List.nodup_cons] at h2
    have hr : r < N.length := h1 r (by simp)
    have hi : idxN 0 N (N.getD r []) = some r := by
      have := idxN_at N 0 r (N.getD r []) hN (by rw [List.getD_eq_getElem?_getD, List.getElem?_eq_getElem hr]; rfl)
      simpa using this
    rw [List.map_cons, parsA, hi]
    show parsA N _ (m ||| 2 ^ r) (tw || m.testBit r) = _
    rw [h3 r (by simp), Bool.or_false, parsA_names N hN rs _ tw (fun x hx => h1 x (by simp [hx])) h2.2 (fun x hx => testBit_or_pow m r x (h3 x (by simp [hx])) (fun e => h2.1 (by rw [e]; exact hx)))]
    rfl
theorem sing_all : ((List.range 8192).all fun m => ((List.range 13).filter fun r => m.testBit r).foldl (fun m r => m ||| 2 ^ r) 0 == m) = true := by kernel_rfl
theorem sing_or (m : Nat) (h : m < 8192) : ((List.range 13).filter fun r => m.testBit r).foldl (fun m r => m ||| 2 ^ r) 0 = m := by
  have := List.all_eq_true.1 sing_all m (List.mem_range.2 h)
  simpa using this
end Go.Proofs.YtknnpgaabejjlaaDoor.Tp
