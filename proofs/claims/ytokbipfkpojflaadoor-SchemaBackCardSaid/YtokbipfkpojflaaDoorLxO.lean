/-
  The walks of layer 18's Offset and Clock, of the program civiltime.
-/
import Derived.Test.YtokbipfkpojflaaDoorLxS
set_option linter.unusedSimpArgs false
set_option linter.unusedVariables false
namespace Go.Proofs.YtokbipfkpojflaaDoor.Lx
open Go.RowKit Go.ChangeShapes Go.WideShapes Go.Proofs.YtokbipfkpojflaaDoor.Sl

theorem dg_bd (c : UInt8) (h : dgB c.toNat = true) : 0 ≤ (c.toNat : Int) - 48 ∧ (c.toNat : Int) - 48 ≤ 9 := by
  simp only [dgB, Bool.and_eq_true, decide_eq_true_eq] at h; omega
theorem valP_bd (i : Nat) (p : List UInt8) (n : Int) (h : valP i p = some n) : 0 ≤ n ∧ n ≤ 99 := by
  unfold valP at h
  split at h
  · cases h
  next hl =>
    split at h
    · cases h
    next hd =>
      split at h
      · cases h
      next =>
        cases h
        simp only [not_or] at hl
        match p, hl, hd with
        | [], hl, _ => simp at hl
        | [x], _, hd =>
          simp [allDg] at hd
          have := dg_bd x hd
          simp [numL]; omega
        | [x, y], _, hd =>
          simp [allDg] at hd
          have h1 := dg_bd x hd.1
          have h2 := dg_bd y hd.2
          simp [numL]; omega
        | x :: y :: z :: l, hl, _ => simp at hl
theorem mulP_bd (i : Nat) : 0 ≤ mulP i ∧ mulP i ≤ 3600 := by
  match i with
  | 0 => decide
  | 1 => decide
  | _ + 2 => exact ⟨by simp [mulP], by simp [mulP]⟩
theorem foldS_bd : ∀ (ps : List (List UInt8)) (i : Nat) (t n : Int), 0 ≤ t → foldS i ps t = some n → 0 ≤ n ∧ n ≤ t + 360000 * ps.length
  | [], _, _, _, ht, h => by simp [foldS] at h; subst h; simp; exact ht
  | p :: ps, i, t, n, ht, h => by
    unfold foldS at h
    split at h
    · cases h
    next v hv =>
      have hb := valP_bd i p v hv
      have hm := mulP_bd i
      have h0 : 0 ≤ v * mulP i := Int.mul_nonneg hb.1 hm.1
      have h1 : v * mulP i ≤ 99 * 3600 := Int.mul_le_mul hb.2 hm.2 hm.1 (by omega)
      have := foldS_bd ps (i + 1) _ n (by omega) h
      simp only [List.length_cons]
      omega
theorem spanZ_bd (s : ByteArray) (n : Int) (h : spanZ s = some n) : 0 ≤ n ∧ n ≤ 1080000 := by
  unfold spanZ at h
  split at h
  · cases h
  next hl =>
    have := foldS_bd _ _ _ _ (by omega) h
    omega

/-- The offset that a text stands for, and the error's number. -/
def offT (s : ByteArray) : ByteArray := ⟨(Lib.trimPrefix s.data.toList [45]).toArray⟩
def offNeg (s : ByteArray) : Bool := Lib.hasPrefix s.data.toList [45]
def offR (neg : Bool) (o : Option Int) : Int × Int := match o with
  | none => (0, 3)
  | some n => if neg = true ∧ n = 0 then (0, 3) else if 93600 < n then (0, 2) else if neg then (-n, 0) else (n, 0)
def offZ (s : ByteArray) : Int × Int := offR (offNeg s) (spanZ (offT s))
def pairV (p : Int × Int) : Value := .tuple #[.int .i64 p.1, .int .i64 p.2]

theorem cut_any (s : ByteArray) (w : World) : Calls Tryd.prog 53 #[.string s, .string ⟨#[45]⟩] w fun e w' => e = .returned (.tuple #[.string (offT s), .bool (offNeg s)]) ∧ w = w' := by
  refine (Tryd.strings_CutPrefix s ⟨#[45]⟩ w).mono ?_
  rintro e w' ⟨rfl, rfl⟩
  exact ⟨rfl, rfl⟩
theorem offT_size (s : ByteArray) : (offT s).size ≤ s.size := by
  unfold offT Lib.trimPrefix
  split
  · show ((s.data.toList.drop _).toArray).size ≤ s.data.size
    rw [List.size_toArray, List.length_drop, Array.length_toList]
    omega
  · exact Nat.le_refl _

end Go.Proofs.YtokbipfkpojflaaDoor.Lx
