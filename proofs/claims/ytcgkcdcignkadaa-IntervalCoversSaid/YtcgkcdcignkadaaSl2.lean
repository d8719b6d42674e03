/-
  More on slices that can be read: a literal's slice (plain lemmas; nothing of the program).
-/
import Derived.Test.YtcgkcdcignkadaaSl
namespace Go.Proofs.Ytcgkcdcignkadaa.Sl
open Go Go.RowKit
theorem Sl.lit (w : World) (cs : List Value) (t : TypeId) (n cap size : Nat) (h : cs.length = n * size) : Sl (w.alloc (.cells cs.toArray t)) (.slice (some ⟨w.heap.size, 0, none⟩) n cap) n size cs := by
  refine Sl.mk h fun j u hu => ?_
  rw [Nat.zero_add, cell_of_row _ _ j cs.toArray t (0, 0) (heap_alloc_new w _)]
  simpa using hu
theorem Sl.alloc {w : World} {v : Value} {n size : Nat} {xs : List Value} (h : Sl w v n size xs) (o : Obj) : Sl (w.alloc o) v n size xs := h.below ((Below.refl _ _).alloc (Nat.le_refl _) o)
theorem Sl.drew {w : World} {v : Value} {n size : Nat} {xs : List Value} (h : Sl w v n size xs) : Sl w.drew v n size xs := h.below ⟨rfl, rfl, rfl, Nat.le_refl _, fun _ _ => rfl⟩
end Go.Proofs.Ytcgkcdcignkadaa.Sl
