/-
  The walks of layer 33's order of values, of the program civiltime.
-/
import Derived.Test.YtokbipfkpojflaaDoorVa
import Derived.StillTailTactics
set_option linter.unusedSimpArgs false
set_option linter.unusedVariables false
namespace Go.Proofs.YtokbipfkpojflaaDoor.Va
open Go.RowKit Go.ChangeShapes Go.WideShapes Go.Proofs.YtokbipfkpojflaaDoor.Sl

theorem bytesLess_cmp : ∀ x y : List UInt8, Op.bytesLess x y = decide (cmpL x y < 0)
  | [], [] => rfl
  | [], _ :: _ => rfl
  | _ :: _, [] => rfl
  | a :: x, b :: y => by
    have ih := bytesLess_cmp x y
    show (decide (a < b) || (a == b && Op.bytesLess x y)) = decide (lexL cmpB (a :: x) (b :: y) < 0)
    rw [ih, lexL]
    by_cases h : a = b
    · subst h
      have e : cmpB a a = 0 := (cmpB_cmp.eq a a).2 rfl
      have hl : decide (a < a) = false := by simp
      rw [if_pos e, hl]
      simp [cmpL]
      rfl
    · have e : ¬ cmpB a b = 0 := fun e => h ((cmpB_cmp.eq a b).1 e)
      have hb : (a == b) = false := by simpa using h
      rw [if_neg e, hb, Bool.false_and, Bool.or_false]
      have : (a < b) ↔ cmpB a b < 0 := by
        rw [UInt8.lt_iff_toNat_lt]
        unfold cmpB cmpI
        split
        · omega
        · split
          · omega
          · omega
      by_cases h2 : a < b
      · simp [h2, this.1 h2]
      · have h3 : ¬ cmpB a b < 0 := fun h3 => h2 (this.2 h3)
        simp [h2, h3]
theorem new_at (W : World) (cs : List Value) (t : TypeId) (B j : Nat) (u : Value) (hB : B = W.heap.size) (h : cs[j]? = some u) : (W.alloc (.cells cs.toArray t)).cell? ⟨B, j, none⟩ = some u := by
  subst hB
  have := cells_new W cs t j u h
  have hadd : (⟨W.heap.size, 0, none⟩ : Addr).add j = ⟨W.heap.size, j, none⟩ := by unfold Addr.add; split <;> simp_all
  rw [hadd] at this
  exact this
end Go.Proofs.YtokbipfkpojflaaDoor.Va
