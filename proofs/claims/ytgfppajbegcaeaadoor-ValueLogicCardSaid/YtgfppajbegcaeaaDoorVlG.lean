/-
  The laws of logic for conditions: what not, and, or build (layer 33).
-/
import Derived.Test.YtgfppajbegcaeaaDoorVlL
set_option linter.unusedSimpArgs false
set_option linter.unusedVariables false
namespace Go.Proofs.YtgfppajbegcaeaaDoor.Va
open Go.RowKit Go.ChangeShapes Go.WideShapes Go.Proofs.YtgfppajbegcaeaaDoor.Sl

/-- The value v is the condition c. -/
def Cd (w : World) (v : Value) (c : CN) : Prop := ∃ cs : List Value, v = .agg cs.toArray ∧ CnAt w cs c
theorem Cd.below {w w' : World} {v : Value} {c : CN} (h : Cd w v c) (hb : Below w.heap.size w w') : Cd w' v c := by
  obtain ⟨cs, rfl, h1⟩ := h
  exact ⟨cs, rfl, CnAt.below hb _ _ h1⟩
def eB : ByteArray := ⟨#[]⟩
def notC (c : CN) : CN := .mk 4 ⟨#[]⟩ ⟨#[]⟩ zeroV [c]
def andC (a b : CN) : CN := .mk 5 ⟨#[]⟩ ⟨#[]⟩ zeroV [a, b]
def orC (a b : CN) : CN := .mk 6 ⟨#[]⟩ ⟨#[]⟩ zeroV [a, b]
theorem al3 (w : World) (A B C : Array Value) (t1 t2 t3 : TypeId) (W : World) (hW : ((w.alloc (.cells A t1)).alloc (.cells B t2)).alloc (.cells C t3) = W) :
    Below w.heap.size w W ∧ (∀ j u, B[j]? = some u → W.cell? ⟨w.heap.size + 1, j, none⟩ = some u) ∧ (∀ j u, C[j]? = some u → W.cell? ⟨w.heap.size + 1 + 1, j, none⟩ = some u) := by
  have hb1 : Below w.heap.size w (w.alloc (.cells A t1)) := (Below.refl _ _).alloc (Nat.le_refl _) _
  have hb2 := hb1.alloc hb1.size (.cells B t2)
  have hb3 := hb2.alloc hb2.size (.cells C t3)
  have z1 : (w.alloc (.cells A t1)).heap.size = w.heap.size + 1 := by simp
  have z2 : ((w.alloc (.cells A t1)).alloc (.cells B t2)).heap.size = w.heap.size + 1 + 1 := by simp
  rw [hW] at hb3
  refine ⟨hb3, fun j u hu => ?_, fun j u hu => ?_⟩
  · rw [← hW, ← z1]; exact cell_alloc (box_cell (box_new _ _ _) j u hu) _
  · rw [← hW, ← z2]; exact box_cell (box_new _ _ _) j u hu
theorem al4 (w : World) (A B C D : Array Value) (t1 t2 t3 t4 : TypeId) (W : World) (hW : (((w.alloc (.cells A t1)).alloc (.cells B t2)).alloc (.cells C t3)).alloc (.cells D t4) = W) :
    Below w.heap.size w W ∧ (∀ j u, C[j]? = some u → W.cell? ⟨w.heap.size + 1 + 1, j, none⟩ = some u) ∧ (∀ j u, D[j]? = some u → W.cell? ⟨w.heap.size + 1 + 1 + 1, j, none⟩ = some u) := by
  have hb1 : Below w.heap.size w (w.alloc (.cells A t1)) := (Below.refl _ _).alloc (Nat.le_refl _) _
  obtain ⟨h1, h2, h3⟩ := al3 (w.alloc (.cells A t1)) B C D t2 t3 t4 W hW
  have z1 : (w.alloc (.cells A t1)).heap.size = w.heap.size + 1 := by simp
  rw [z1] at h2 h3
  exact ⟨bstep hb1 h1, h2, h3⟩
theorem cn_one (W : World) (k : Int) (H : Nat) (r : List Value) (c : CN) (hc : CnAt W r c) (h : ∀ j u, r.toArray[j]? = some u → W.cell? ⟨H, j, none⟩ = some u) :
    CnAt W [.int .i64 k, .string ⟨#[]⟩, .string ⟨#[]⟩, .int .i64 0, .int .i64 0, .string ⟨#[]⟩, .slice (some ⟨H, 0, none⟩) 1 1] (.mk k ⟨#[]⟩ ⟨#[]⟩ zeroV [c]) := by
  rw [CnAt]
  refine ⟨.slice (some ⟨H, 0, none⟩) 1 1, rfl, [r], Sl.mk ?_ fun j u hu => ?_, ?_⟩
  · simp [hc.len]
  · rw [Nat.zero_add]
    exact h j u (by simpa using hu)
  · rw [RowsAt]
    exact ⟨hc, by rw [RowsAt]; trivial⟩
theorem cn_two (W : World) (k : Int) (H : Nat) (r r2 : List Value) (c c2 : CN) (hc : CnAt W r c) (hc2 : CnAt W r2 c2) (h : ∀ j u, (r ++ r2).toArray[j]? = some u → W.cell? ⟨H, j, none⟩ = some u) :
    CnAt W [.int .i64 k, .string ⟨#[]⟩, .string ⟨#[]⟩, .int .i64 0, .int .i64 0, .string ⟨#[]⟩, .slice (some ⟨H, 0, none⟩) 2 2] (.mk k ⟨#[]⟩ ⟨#[]⟩ zeroV [c, c2]) := by
  rw [CnAt]
  refine ⟨.slice (some ⟨H, 0, none⟩) 2 2, rfl, [r, r2], Sl.mk ?_ fun j u hu => ?_, ?_⟩
  · simp [hc.len, hc2.len]
  · rw [Nat.zero_add]
    exact h j u (by simpa using hu)
  · rw [RowsAt]
    exact ⟨hc, by rw [RowsAt]; exact ⟨hc2, by rw [RowsAt]; trivial⟩⟩
set_option maxRecDepth 20000 in
theorem not_v (v : Value) (w : World) (c : CN) (h : Cd w v c) : Calls Tryd.prog 29 #[v] w fun e w' => ∃ v', e = .returned v' ∧ Cd w' v' (notC c) ∧ Below w.heap.size w w' := by
  obtain ⟨cs, rfl, hc⟩ := h
  have hc2 := hc
  obtain ⟨k, col, oth, v0, v1, v2, ad, n, cap, rfl⟩ := hc.shape
  have HC := Lib.hid hc2
  clear hc hc2
  go_enter Tryd.func29, Tryd.ntmps29
  go_wp2
  obtain ⟨W, hW⟩ : ∃ W, ((w.alloc (.cells #[.int .i64 k, .string col, .string oth, .int .i64 v0, .int .i64 v1, .string v2, .slice ad n cap] 46)).alloc (.cells #[.int .i64 4, .string ⟨#[]⟩, .string ⟨#[]⟩, .int .i64 0, .int .i64 0, .string ⟨#[]⟩, .slice (some ⟨w.heap.size + 1 + 1, 0, none⟩) 1 1] 46)).alloc (.cells #[.int .i64 k, .string col, .string oth, .int .i64 v0, .int .i64 v1, .string v2, .slice ad n cap] 46) = W := ⟨_, rfl⟩
  rw [hW]
  obtain ⟨hb, h1, h2⟩ := al3 _ _ _ _ _ _ _ W hW
  clear hW
  have r0 := h1 0 _ rfl
  have r1 := h1 1 _ rfl
  have r2 := h1 2 _ rfl
  have r3 := h1 3 _ rfl
  have r4 := h1 4 _ rfl
  have r5 := h1 5 _ rfl
  have r6 := h1 6 _ rfl
  refine bodyPost_ret (v := .agg #[.int .i64 4, .string ⟨#[]⟩, .string ⟨#[]⟩, .int .i64 0, .int .i64 0, .string ⟨#[]⟩, .slice (some ⟨w.heap.size + 1 + 1, 0, none⟩) 1 1]) (by simp [results, Tryd.results29, go_sem, r0, r1, r2, r3, r4, r5, r6]) rfl ?_
  exact ⟨_, rfl, ⟨_, rfl, cn_one W 4 _ _ c (CnAt.below hb _ _ HC.out) h2⟩, hb⟩
set_option maxRecDepth 20000 in
theorem and_v (v v' : Value) (w : World) (c c' : CN) (h : Cd w v c) (h' : Cd w v' c') : Calls Tryd.prog 30 #[v, v'] w fun e w' => ∃ v', e = .returned v' ∧ Cd w' v' (andC c c') ∧ Below w.heap.size w w' := by
  obtain ⟨cs, rfl, hc⟩ := h
  obtain ⟨cs', rfl, hc'⟩ := h'
  have hc2 := hc
  have hc2' := hc'
  obtain ⟨k, col, oth, v0, v1, v2, ad, n, cap, rfl⟩ := hc.shape
  obtain ⟨k2, col2, oth2, u0, u1, u2, ad2, n2, cap2, rfl⟩ := hc'.shape
  have HC := Lib.hid hc2
  have HC' := Lib.hid hc2'
  clear hc hc2 hc' hc2'
  go_enter Tryd.func30, Tryd.ntmps30
  go_wp2
  obtain ⟨W, hW⟩ : ∃ W, (((w.alloc (.cells #[.int .i64 k, .string col, .string oth, .int .i64 v0, .int .i64 v1, .string v2, .slice ad n cap] 46)).alloc (.cells #[.int .i64 k2, .string col2, .string oth2, .int .i64 u0, .int .i64 u1, .string u2, .slice ad2 n2 cap2] 46)).alloc (.cells #[.int .i64 5, .string ⟨#[]⟩, .string ⟨#[]⟩, .int .i64 0, .int .i64 0, .string ⟨#[]⟩, .slice (some ⟨w.heap.size + 1 + 1 + 1, 0, none⟩) 2 2] 46)).alloc (.cells #[.int .i64 k, .string col, .string oth, .int .i64 v0, .int .i64 v1, .string v2, .slice ad n cap, .int .i64 k2, .string col2, .string oth2, .int .i64 u0, .int .i64 u1, .string u2, .slice ad2 n2 cap2] 46) = W := ⟨_, rfl⟩
  rw [hW]
  obtain ⟨hb, h1, h2⟩ := al4 _ _ _ _ _ _ _ _ _ W hW
  clear hW
  have r0 := h1 0 _ rfl
  have r1 := h1 1 _ rfl
  have r2 := h1 2 _ rfl
  have r3 := h1 3 _ rfl
  have r4 := h1 4 _ rfl
  have r5 := h1 5 _ rfl
  have r6 := h1 6 _ rfl
  refine bodyPost_ret (v := .agg #[.int .i64 5, .string ⟨#[]⟩, .string ⟨#[]⟩, .int .i64 0, .int .i64 0, .string ⟨#[]⟩, .slice (some ⟨w.heap.size + 1 + 1 + 1, 0, none⟩) 2 2]) (by simp [results, Tryd.results30, go_sem, r0, r1, r2, r3, r4, r5, r6]) rfl ?_
  exact ⟨_, rfl, ⟨_, rfl, cn_two W 5 _ _ _ c c' (CnAt.below hb _ _ HC.out) (CnAt.below hb _ _ HC'.out) h2⟩, hb⟩
set_option maxRecDepth 20000 in
theorem or_v (v v' : Value) (w : World) (c c' : CN) (h : Cd w v c) (h' : Cd w v' c') : Calls Tryd.prog 31 #[v, v'] w fun e w' => ∃ v', e = .returned v' ∧ Cd w' v' (orC c c') ∧ Below w.heap.size w w' := by
  obtain ⟨cs, rfl, hc⟩ := h
  obtain ⟨cs', rfl, hc'⟩ := h'
  have hc2 := hc
  have hc2' := hc'
  obtain ⟨k, col, oth, v0, v1, v2, ad, n, cap, rfl⟩ := hc.shape
  obtain ⟨k2, col2, oth2, u0, u1, u2, ad2, n2, cap2, rfl⟩ := hc'.shape
  have HC := Lib.hid hc2
  have HC' := Lib.hid hc2'
  clear hc hc2 hc' hc2'
  go_enter Tryd.func31, Tryd.ntmps31
  go_wp2
  obtain ⟨W, hW⟩ : ∃ W, (((w.alloc (.cells #[.int .i64 k, .string col, .string oth, .int .i64 v0, .int .i64 v1, .string v2, .slice ad n cap] 46)).alloc (.cells #[.int .i64 k2, .string col2, .string oth2, .int .i64 u0, .int .i64 u1, .string u2, .slice ad2 n2 cap2] 46)).alloc (.cells #[.int .i64 6, .string ⟨#[]⟩, .string ⟨#[]⟩, .int .i64 0, .int .i64 0, .string ⟨#[]⟩, .slice (some ⟨w.heap.size + 1 + 1 + 1, 0, none⟩) 2 2] 46)).alloc (.cells #[.int .i64 k, .string col, .string oth, .int .i64 v0, .int .i64 v1, .string v2, .slice ad n cap, .int .i64 k2, .string col2, .string oth2, .int .i64 u0, .int .i64 u1, .string u2, .slice ad2 n2 cap2] 46) = W := ⟨_, rfl⟩
  rw [hW]
  obtain ⟨hb, h1, h2⟩ := al4 _ _ _ _ _ _ _ _ _ W hW
  clear hW
  have r0 := h1 0 _ rfl
  have r1 := h1 1 _ rfl
  have r2 := h1 2 _ rfl
  have r3 := h1 3 _ rfl
  have r4 := h1 4 _ rfl
  have r5 := h1 5 _ rfl
  have r6 := h1 6 _ rfl
  refine bodyPost_ret (v := .agg #[.int .i64 6, .string ⟨#[]⟩, .string ⟨#[]⟩, .int .i64 0, .int .i64 0, .string ⟨#[]⟩, .slice (some ⟨w.heap.size + 1 + 1 + 1, 0, none⟩) 2 2]) (by simp [results, Tryd.results31, go_sem, r0, r1, r2, r3, r4, r5, r6]) rfl ?_
  exact ⟨_, rfl, ⟨_, rfl, cn_two W 6 _ _ _ c c' (CnAt.below hb _ _ HC.out) (CnAt.below hb _ _ HC'.out) h2⟩, hb⟩

/-- What the laws say of a condition built of a and b. -/
theorem holds_ok {c : CN} {ns : List ByteArray} {vs : List V3} (h : (holdsC c ns vs).2 = 0) : ¬ (ns.length ≠ vs.length ∨ 100 < ns.length ∨ allV vs = false) ∧ typ c (colsOf ns vs) = 0 ∧ holdsC c ns vs = (mng c (colsOf ns vs) vs, 0) := by
  unfold holdsC at h ⊢
  by_cases h1 : ns.length ≠ vs.length ∨ 100 < ns.length ∨ allV vs = false
  · rw [if_pos h1] at h; cases h
  · rw [if_neg h1] at h ⊢
    by_cases h2 : chk c (colsOf ns vs) = 0
    · refine ⟨h1, ?_, by rw [if_pos h2]⟩
      unfold chk at h2
      cases hw : wellF c
      · rw [hw] at h2; cases h2
      · rw [hw] at h2; exact h2
    · rw [if_neg h2] at h; exact absurd h h2
/-- .. it is too deep, or holds as its typed meaning says. -/
theorem holds_of {c : CN} {ns : List ByteArray} {vs : List V3} (h1 : ¬ (ns.length ≠ vs.length ∨ 100 < ns.length ∨ allV vs = false)) (ht : typ c (colsOf ns vs) = 0) : (holdsC c ns vs).2 = 1 ∨ holdsC c ns vs = (mng c (colsOf ns vs) vs, 0) := by
  unfold holdsC
  rw [if_neg h1]
  unfold chk
  cases hw : wellF c
  · exact .inl rfl
  · exact .inr (by simp [ht])
theorem typ_not (c : CN) (l : List Cl) (h : typ c l = 0) : typ (notC c) l = 0 := by
  unfold notC; rw [typ, show typN 4 _ _ zeroV l = 0 from rfl, if_pos rfl, typL, if_pos h, typL]
theorem typ_and (a b : CN) (l : List Cl) (h : typ a l = 0) (h2 : typ b l = 0) : typ (andC a b) l = 0 := by
  unfold andC; rw [typ, show typN 5 _ _ zeroV l = 0 from rfl, if_pos rfl, typL, if_pos h, typL, if_pos h2, typL]
theorem typ_or (a b : CN) (l : List Cl) (h : typ a l = 0) (h2 : typ b l = 0) : typ (orC a b) l = 0 := by
  unfold orC; rw [typ, show typN 6 _ _ zeroV l = 0 from rfl, if_pos rfl, typL, if_pos h, typL, if_pos h2, typL]
theorem mng_not (c : CN) (l : List Cl) (vs : List V3) : mng (notC c) l vs = !mng c l vs := by
  unfold notC; rw [mng, if_neg (by decide), if_pos rfl, mngL]; rfl
theorem mng_and (a b : CN) (l : List Cl) (vs : List V3) : mng (andC a b) l vs = (mng a l vs && mng b l vs) := by
  unfold andC; rw [mng, if_neg (by decide), if_neg (by decide), if_pos rfl, mngL, mngL]; rfl
theorem mng_or (a b : CN) (l : List Cl) (vs : List V3) : mng (orC a b) l vs = (mng a l vs || mng b l vs) := by
  unfold orC; rw [mng, if_neg (by decide), if_neg (by decide), if_neg (by decide), if_pos rfl, mngL, mngL]; rfl
def alwC : CN := .mk 3 ⟨#[]⟩ ⟨#[]⟩ zeroV []
/-- The law's six conditions and what they want. -/
def six (a b : CN) (x y : Bool) : List (CN × Bool) := [(notC (notC a), x), (notC (andC a b), !x || !y), (orC (notC a) (notC b), !x || !y), (orC a (notC a), true), (andC a (notC a), false), (alwC, true)]
theorem six_hold (a b : CN) (ns : List ByteArray) (vs : List V3) (ha : (holdsC a ns vs).2 = 0) (hb : (holdsC b ns vs).2 = 0) : ∀ p ∈ six a b (holdsC a ns vs).1 (holdsC b ns vs).1, (holdsC p.1 ns vs).2 = 1 ∨ holdsC p.1 ns vs = (p.2, 0) := by
  obtain ⟨h1, ta, ea⟩ := holds_ok ha
  obtain ⟨_, tb, eb⟩ := holds_ok hb
  rw [ea, eb]
  have key : ∀ (c : CN) (w : Bool), typ c (colsOf ns vs) = 0 → mng c (colsOf ns vs) vs = w → (holdsC c ns vs).2 = 1 ∨ holdsC c ns vs = (w, 0) := fun c w ht hm => by
    rcases holds_of h1 ht with h | h
    · exact .inl h
    · exact .inr (by rw [h, hm])
  intro p hp
  unfold six at hp
  simp only [List.mem_cons, List.not_mem_nil, or_false] at hp
  have tna := typ_not a _ ta
  have tnb := typ_not b _ tb
  rcases hp with rfl | rfl | rfl | rfl | rfl | rfl
  · exact key _ _ (typ_not _ _ tna) (by rw [mng_not, mng_not, Bool.not_not])
  · exact key _ _ (typ_not _ _ (typ_and _ _ _ ta tb)) (by rw [mng_not, mng_and, Bool.not_and])
  · exact key _ _ (typ_or _ _ _ tna tnb) (by rw [mng_or, mng_not, mng_not])
  · exact key _ _ (typ_or _ _ _ ta tna) (by rw [mng_or, mng_not, Bool.or_not_self])
  · exact key _ _ (typ_and _ _ _ ta tna) (by rw [mng_and, mng_not, Bool.and_not_self])
  · refine key _ _ ?_ ?_
    · unfold alwC; rw [typ, show typN 3 _ _ zeroV (colsOf ns vs) = 0 from rfl, if_pos rfl, typL]
    · unfold alwC; rw [mng, if_neg (by decide), if_neg (by decide), if_neg (by decide), if_neg (by decide)]
theorem holds_err (c : CN) (ns : List ByteArray) (vs : List V3) (h : ¬ (holdsC c ns vs).2 = 0) : (holdsC c ns vs).1 = false := by
  unfold holdsC at h ⊢
  by_cases h1 : ns.length ≠ vs.length ∨ 100 < ns.length ∨ allV vs = false
  · rw [if_pos h1]
  · rw [if_neg h1] at h ⊢
    by_cases h2 : chk c (colsOf ns vs) = 0
    · rw [if_pos h2] at h; exact absurd rfl h
    · rw [if_neg h2]
end Go.Proofs.YtgfppajbegcaeaaDoor.Va
