/-
  The walk of ValueCompares.
-/
import Derived.Test.YtgfppajbegcaeaaDoorVaZ
import Derived.Test.YtgfppajbegcaeaaDoorVop
set_option linter.unusedSimpArgs false
set_option linter.unusedVariables false
namespace Go.Proofs.YtgfppajbegcaeaaDoor.Va
open Go.RowKit Go.ChangeShapes Go.WideShapes Go.Proofs.YtgfppajbegcaeaaDoor.Sl

def nA : ByteArray := ⟨#[97]⟩
def nB : ByteArray := ⟨#[98]⟩
theorem hold_cols (a b : V3) (c : CN) (ha : validV a = true) (hb : validV b = true) : holdsC c [nA, nB] [a, b] = if chk c [(nA, a.1), (nB, b.1)] = 0 then (mng c [(nA, a.1), (nB, b.1)] [a, b], 0) else (false, chk c [(nA, a.1), (nB, b.1)]) := by
  unfold holdsC
  rw [if_neg (by simp [allV, ha, hb])]
  rfl
theorem well_leaf (k : Int) (hk : k = 1 ∨ k = 2) (col oth : ByteArray) (v : V3) (hc : ¬ col.size = 0) (h : (if oth.size = 0 then validV v else decide (v = zeroV)) = true) : wellF (.mk k col oth v []) = true := by
  unfold wellF
  rw [good, okN12 k hk, h]
  simp [hc, goodL, cnt, cntL]
theorem chk_leaf (k : Int) (hk : k = 1 ∨ k = 2) (col oth : ByteArray) (v : V3) (hc : ¬ col.size = 0) (h : (if oth.size = 0 then validV v else decide (v = zeroV)) = true) (l : List Cl) : chk (.mk k col oth v []) l = typN k col oth v l := by
  unfold chk
  rw [well_leaf k hk col oth v hc h, if_pos rfl, typ, typL]
  split
  · rename_i h; rw [h]
  · rfl
theorem typ_two (x y : Int) (k : Int) (hk : k = 1 ∨ k = 2) : typN k nA nB zeroV [(nA, x), (nB, y)] = (if y = x then 0 else 13) ∧ typN k nB nA zeroV [(nA, x), (nB, y)] = (if x = y then 0 else 13) := by
  have e1 : idxC nA 0 [(nA, x), (nB, y)] = 0 := rfl
  have e2 : idxC nB 0 [(nA, x), (nB, y)] = 1 := rfl
  have k0 : kindAt [(nA, x), (nB, y)] 0 = x := rfl
  have k1 : kindAt [(nA, x), (nB, y)] 1 = y := rfl
  have sA : ¬ nA.size = 0 := by decide
  have sB : ¬ nB.size = 0 := by decide
  constructor
  · unfold typN
    rw [if_pos hk, e1, e2, k0, k1, if_neg (show ¬ (0 : Int) < 0 by decide), if_neg sB, if_neg (show ¬ (1 : Int) < 0 by decide)]
  · unfold typN
    rw [if_pos hk, e1, e2, k0, k1, if_neg (show ¬ (1 : Int) < 0 by decide), if_neg sA, if_neg (show ¬ (0 : Int) < 0 by decide)]
theorem typ_own (x y : Int) (v : V3) : typN 1 nA ⟨#[]⟩ v [(nA, x), (nB, y)] = if v.1 = x then 0 else 13 := by
  have e1 : idxC nA 0 [(nA, x), (nB, y)] = 0 := rfl
  have k0 : kindAt [(nA, x), (nB, y)] 0 = x := rfl
  have s0 : (⟨#[]⟩ : ByteArray).size = 0 := rfl
  unfold typN
  rw [if_pos (show (1 : Int) = 1 ∨ (1 : Int) = 2 from .inl rfl), e1, k0, if_neg (show ¬ (0 : Int) < 0 by decide), if_pos s0]
theorem hold_ab (a b : V3) (k : Int) (hk : k = 1 ∨ k = 2) (ha : validV a = true) (hb : validV b = true) : holdsC (.mk k nA nB zeroV []) [nA, nB] [a, b] = if b.1 = a.1 then (cmpN k (ordV a b), 0) else (false, 13) := by
  rw [hold_cols a b _ ha hb, chk_leaf k hk nA nB zeroV (by decide) (by decide), (typ_two a.1 b.1 k hk).1]
  by_cases h : b.1 = a.1
  · rw [if_pos h, if_pos rfl, if_pos h, mng, if_pos hk]; rfl
  · rw [if_neg h, if_neg (by decide), if_neg h]
theorem hold_ba (a b : V3) (k : Int) (hk : k = 1 ∨ k = 2) (ha : validV a = true) (hb : validV b = true) : holdsC (.mk k nB nA zeroV []) [nA, nB] [a, b] = if a.1 = b.1 then (cmpN k (ordV b a), 0) else (false, 13) := by
  rw [hold_cols a b _ ha hb, chk_leaf k hk nB nA zeroV (by decide) (by decide), (typ_two a.1 b.1 k hk).2]
  by_cases h : a.1 = b.1
  · rw [if_pos h, if_pos rfl, if_pos h, mng, if_pos hk]; rfl
  · rw [if_neg h, if_neg (by decide), if_neg h]
theorem hold_own (a b : V3) (ha : validV a = true) (hb : validV b = true) (hk : b.1 = a.1) : holdsC (.mk 1 nA ⟨#[]⟩ b []) [nA, nB] [a, b] = (cmpN 1 (ordV a b), 0) := by
  have s0 : (⟨#[]⟩ : ByteArray).size = 0 := rfl
  rw [hold_cols a b _ ha hb, chk_leaf 1 (.inl rfl) nA ⟨#[]⟩ b (by decide) (by rw [if_pos s0]; exact hb), typ_own, if_pos hk, if_pos rfl, mng, if_pos (show (1 : Int) = 1 ∨ (1 : Int) = 2 from .inl rfl)]
  rfl
theorem two_box {w w1 : World} {a0 a1 a2 b0 b1 b2 : Value} {t t2 : TypeId} (hb : Below ((w.alloc (.cells #[a0, a1, a2] t)).alloc (.cells #[b0, b1, b2] t2)).heap.size ((w.alloc (.cells #[a0, a1, a2] t)).alloc (.cells #[b0, b1, b2] t2)) w1) :
    Below w.heap.size w w1 ∧ w1.cell? ⟨w.heap.size, 0, none⟩ = some a0 ∧ w1.cell? ⟨w.heap.size, 1, none⟩ = some a1 ∧ w1.cell? ⟨w.heap.size, 2, none⟩ = some a2 ∧ w1.cell? ⟨w.heap.size + 1, 0, none⟩ = some b0 ∧ w1.cell? ⟨w.heap.size + 1, 1, none⟩ = some b1 ∧ w1.cell? ⟨w.heap.size + 1, 2, none⟩ = some b2 := by
  have hb1 : Below w.heap.size w (w.alloc (.cells #[a0, a1, a2] t)) := (Below.refl _ _).alloc (Nat.le_refl _) _
  have k : ∀ j u, #[a0, a1, a2][j]? = some u → w1.cell? ⟨w.heap.size, j, none⟩ = some u := fun j u hu => Go.Proofs.YtgfppajbegcaeaaDoor.Sl.cell_kept (cell_alloc (box_cell (box_new w _ _) j u hu) _) hb
  have z : (w.alloc (.cells #[a0, a1, a2] t)).heap.size = w.heap.size + 1 := by simp
  have k2 : ∀ j u, #[b0, b1, b2][j]? = some u → w1.cell? ⟨w.heap.size + 1, j, none⟩ = some u := fun j u hu => by
    rw [← z]
    exact Go.Proofs.YtgfppajbegcaeaaDoor.Sl.cell_kept (box_cell (box_new _ _ _) j u hu) hb
  exact ⟨bstep (hb1.alloc hb1.size _) hb, k 0 _ rfl, k 1 _ rfl, k 2 _ rfl, k2 0 _ rfl, k2 1 _ rfl, k2 2 _ rfl⟩
/-- The names and the values of the law, wherever they lie. -/
def Two (W : World) (a b : V3) (s1 s2 : Value) : Prop := Ss W s1 [nA, nB] ∧ Vs W s2 [a, b]
theorem Two.below {W W' : World} {a b : V3} {s1 s2 : Value} (h : Two W a b s1 s2) (hb : Below W.heap.size W W') : Two W' a b s1 s2 := ⟨h.1.below hb, h.2.below hb⟩
theorem two_hold (W : World) (a b : V3) (s1 s2 : Value) (h : Two W a b s1 s2) (k : Int) (col oth : ByteArray) (v : V3) :
    Calls Tryd.prog 25 #[.agg #[.int .i64 k, .string col, .string oth, .int .i64 v.1, .int .i64 v.2.1, .string v.2.2, .slice none 0 0], s1, s2] W fun e w' => e = .returned (.tuple #[.bool (holdsC (.mk k col oth v []) [nA, nB] [a, b]).1, .int .i64 (holdsC (.mk k col oth v []) [nA, nB] [a, b]).2]) ∧ Below W.heap.size W w' := by
  refine holds_any (.mk k col oth v []) [.int .i64 k, .string col, .string oth, .int .i64 v.1, .int .i64 v.2.1, .string v.2.2, .slice none 0 0] [nA, nB] [a, b] s1 s2 W ?_ h.1 h.2
  rw [CnAt]
  exact ⟨.slice none 0 0, rfl, [], Sl.mk0 _ _ _ _, by rw [RowsAt]; trivial⟩
theorem mk_two1 (w2 : World) (a b : V3) : Two ((w2.alloc (Obj.cells #[.string ⟨#[97]⟩, .string ⟨#[98]⟩] 9)).alloc (Obj.cells #[.int .i64 a.1, .int .i64 a.2.1, .string a.2.2, .int .i64 b.1, .int .i64 b.2.1, .string b.2.2] 32)).drew a b (.slice (some ⟨w2.heap.size, 0, none⟩) 2 2) (.slice (some ⟨w2.heap.size + 1, 0, none⟩) 2 2) ∧
    Below w2.heap.size w2 ((w2.alloc (Obj.cells #[.string ⟨#[97]⟩, .string ⟨#[98]⟩] 9)).alloc (Obj.cells #[.int .i64 a.1, .int .i64 a.2.1, .string a.2.2, .int .i64 b.1, .int .i64 b.2.1, .string b.2.2] 32)).drew := by
  have hb1 : Below w2.heap.size w2 (w2.alloc (Obj.cells #[.string ⟨#[97]⟩, .string ⟨#[98]⟩] 9)) := (Below.refl _ _).alloc (Nat.le_refl _) _
  refine ⟨⟨Sl.mk rfl fun j u hu => ?_, Sl.mk rfl fun j u hu => ?_⟩, bdrew (hb1.alloc hb1.size _)⟩
  · rw [Nat.zero_add]
    refine cell_alloc (box_cell (box_new w2 _ _) j u ?_) _
    rw [← Array.getElem?_toList]; exact hu
  · rw [Nat.zero_add]
    have z : (w2.alloc (Obj.cells #[.string ⟨#[97]⟩, .string ⟨#[98]⟩] 9)).heap.size = w2.heap.size + 1 := by simp
    have := box_cell (box_new (w2.alloc (Obj.cells #[.string ⟨#[97]⟩, .string ⟨#[98]⟩] 9)) #[.int .i64 a.1, .int .i64 a.2.1, .string a.2.2, .int .i64 b.1, .int .i64 b.2.1, .string b.2.2] 32) j u (by rw [← Array.getElem?_toList]; exact hu)
    rw [z] at this
    exact this
theorem mk_two2 (w2 : World) (a b : V3) : Two ((w2.alloc (Obj.cells #[.int .i64 a.1, .int .i64 a.2.1, .string a.2.2, .int .i64 b.1, .int .i64 b.2.1, .string b.2.2] 32)).alloc (Obj.cells #[.string ⟨#[97]⟩, .string ⟨#[98]⟩] 9)).drew a b (.slice (some ⟨w2.heap.size + 1, 0, none⟩) 2 2) (.slice (some ⟨w2.heap.size, 0, none⟩) 2 2) ∧
    Below w2.heap.size w2 ((w2.alloc (Obj.cells #[.int .i64 a.1, .int .i64 a.2.1, .string a.2.2, .int .i64 b.1, .int .i64 b.2.1, .string b.2.2] 32)).alloc (Obj.cells #[.string ⟨#[97]⟩, .string ⟨#[98]⟩] 9)).drew := by
  have hb1 : Below w2.heap.size w2 (w2.alloc (Obj.cells #[.int .i64 a.1, .int .i64 a.2.1, .string a.2.2, .int .i64 b.1, .int .i64 b.2.1, .string b.2.2] 32)) := (Below.refl _ _).alloc (Nat.le_refl _) _
  refine ⟨⟨Sl.mk rfl fun j u hu => ?_, Sl.mk rfl fun j u hu => ?_⟩, bdrew (hb1.alloc hb1.size _)⟩
  · rw [Nat.zero_add]
    have z : (w2.alloc (Obj.cells #[.int .i64 a.1, .int .i64 a.2.1, .string a.2.2, .int .i64 b.1, .int .i64 b.2.1, .string b.2.2] 32)).heap.size = w2.heap.size + 1 := by simp
    have := box_cell (box_new (w2.alloc (Obj.cells #[.int .i64 a.1, .int .i64 a.2.1, .string a.2.2, .int .i64 b.1, .int .i64 b.2.1, .string b.2.2] 32)) #[.string ⟨#[97]⟩, .string ⟨#[98]⟩] 9) j u (by rw [← Array.getElem?_toList]; exact hu)
    rw [z] at this
    exact this
  · rw [Nat.zero_add]
    refine cell_alloc (box_cell (box_new w2 _ _) j u ?_) _
    rw [← Array.getElem?_toList]; exact hu
set_option maxRecDepth 20000 in
theorem vc_diff (a0 a1 : Int) (a2 : ByteArray) (b0 b1 : Int) (b2 : ByteArray) (m : Int) (w : World) (hm : w.cell? ⟨0, 0, none⟩ = some (.int .i64 m)) (hva : validV (a0, a1, a2) = true) (hvb : validV (b0, b1, b2) = true) (hne : ¬ a0 = b0) (H1 : ∀ (W : World) (s1 s2 : Value), Two W (a0, a1, a2) (b0, b1, b2) s1 s2 → Calls Tryd.prog 25 #[.agg #[.int .i64 2, .string ⟨#[97]⟩, .string ⟨#[98]⟩, .int .i64 0, .int .i64 0, .string ⟨#[]⟩, .slice none 0 0], s1, s2] W fun e w' => e = .returned (.tuple #[.bool false, .int .i64 13]) ∧ Below W.heap.size W w') (H2 : ∀ (W : World) (s1 s2 : Value), Two W (a0, a1, a2) (b0, b1, b2) s1 s2 → Calls Tryd.prog 25 #[.agg #[.int .i64 1, .string ⟨#[97]⟩, .string ⟨#[98]⟩, .int .i64 0, .int .i64 0, .string ⟨#[]⟩, .slice none 0 0], s1, s2] W fun e w' => e = .returned (.tuple #[.bool false, .int .i64 13]) ∧ Below W.heap.size W w') (H3 : ∀ (W : World) (s1 s2 : Value), Two W (a0, a1, a2) (b0, b1, b2) s1 s2 → Calls Tryd.prog 25 #[.agg #[.int .i64 2, .string ⟨#[98]⟩, .string ⟨#[97]⟩, .int .i64 0, .int .i64 0, .string ⟨#[]⟩, .slice none 0 0], s1, s2] W fun e w' => e = .returned (.tuple #[.bool false, .int .i64 13]) ∧ Below W.heap.size W w') :
    Calls Tryd.prog 7 #[agV a0 a1 a2, agV b0 b1 b2] w fun e w' => e = .returned (.bool true) ∧ Below w.heap.size w w' := by
  have HW := fun (W : World) (h : Below w.heap.size w W) => awake_any m W (Go.Proofs.YtgfppajbegcaeaaDoor.Sl.cell_kept hm h)
  have HV1 := fun W => valid_any (a0, a1, a2) W
  have HV2 := fun W => valid_any (b0, b1, b2) W
  rw [hva] at HV1
  rw [hvb] at HV2
  have hne2 : (a0 == b0) = false := by simpa using hne
  go_enter Tryd.func7, Tryd.ntmps7
  go_upto_region 3 with (first | (go_at_call 10; (with_reducible refine (HW _ (by go_grown)).mono ?_); rintro e w1 ⟨rfl, hb⟩; obtain ⟨hL, p0, p1, p2, p3, p4, p5⟩ := two_box hb; clear hb) | (go_at_call 21; (first | (with_reducible refine (HV1 _).mono ?_) | (with_reducible refine (HV2 _).mono ?_)); rintro e w2 ⟨rfl, hb⟩; replace hL := bstep hL hb; replace p0 := Go.Proofs.YtgfppajbegcaeaaDoor.Sl.cell_kept p0 hb; replace p1 := Go.Proofs.YtgfppajbegcaeaaDoor.Sl.cell_kept p1 hb; replace p2 := Go.Proofs.YtgfppajbegcaeaaDoor.Sl.cell_kept p2 hb; replace p3 := Go.Proofs.YtgfppajbegcaeaaDoor.Sl.cell_kept p3 hb; replace p4 := Go.Proofs.YtgfppajbegcaeaaDoor.Sl.cell_kept p4 hb; replace p5 := Go.Proofs.YtgfppajbegcaeaaDoor.Sl.cell_kept p5 hb; clear hb))
  clear HW HV1 HV2
  have hl1 := block_of_cell p0
  have hl2 := block_of_cell p3
  go_region
  · obtain ⟨h2, hbW⟩ := mk_two1 w2 (a0, a1, a2) (b0, b1, b2)
    generalize ((w2.alloc (Obj.cells #[.string ⟨#[97]⟩, .string ⟨#[98]⟩] 9)).alloc (Obj.cells #[.int .i64 a0, .int .i64 a1, .string a2, .int .i64 b0, .int .i64 b1, .string b2] 32)).drew = W at h2 hbW ⊢
    generalize Value.slice (some ⟨w2.heap.size, 0, none⟩) 2 2 = sx at h2 ⊢
    generalize Value.slice (some ⟨w2.heap.size + 1, 0, none⟩) 2 2 = sy at h2 ⊢
    replace p0 := Go.Proofs.YtgfppajbegcaeaaDoor.Sl.cell_kept p0 hbW
    replace p1 := Go.Proofs.YtgfppajbegcaeaaDoor.Sl.cell_kept p1 hbW
    replace p2 := Go.Proofs.YtgfppajbegcaeaaDoor.Sl.cell_kept p2 hbW
    replace p3 := Go.Proofs.YtgfppajbegcaeaaDoor.Sl.cell_kept p3 hbW
    replace p4 := Go.Proofs.YtgfppajbegcaeaaDoor.Sl.cell_kept p4 hbW
    replace p5 := Go.Proofs.YtgfppajbegcaeaaDoor.Sl.cell_kept p5 hbW
    replace hL := bstep hL hbW
    clear hbW hl1 hl2
    go_wp2_with (first | (go_at_call 25; (with_reducible refine (H1 _ _ _ h2).mono ?_); rintro e w5 ⟨rfl, hb⟩; replace hL := bstep hL hb; replace h2 := h2.below hb; replace p0 := Go.Proofs.YtgfppajbegcaeaaDoor.Sl.cell_kept p0 hb; replace p1 := Go.Proofs.YtgfppajbegcaeaaDoor.Sl.cell_kept p1 hb; replace p2 := Go.Proofs.YtgfppajbegcaeaaDoor.Sl.cell_kept p2 hb; replace p3 := Go.Proofs.YtgfppajbegcaeaaDoor.Sl.cell_kept p3 hb; replace p4 := Go.Proofs.YtgfppajbegcaeaaDoor.Sl.cell_kept p4 hb; replace p5 := Go.Proofs.YtgfppajbegcaeaaDoor.Sl.cell_kept p5 hb; clear hb) | (go_at_call 25; (with_reducible refine (H2 _ _ _ h2).mono ?_); rintro e w5 ⟨rfl, hb⟩; replace hL := bstep hL hb; replace h2 := h2.below hb; replace p0 := Go.Proofs.YtgfppajbegcaeaaDoor.Sl.cell_kept p0 hb; replace p1 := Go.Proofs.YtgfppajbegcaeaaDoor.Sl.cell_kept p1 hb; replace p2 := Go.Proofs.YtgfppajbegcaeaaDoor.Sl.cell_kept p2 hb; replace p3 := Go.Proofs.YtgfppajbegcaeaaDoor.Sl.cell_kept p3 hb; replace p4 := Go.Proofs.YtgfppajbegcaeaaDoor.Sl.cell_kept p4 hb; replace p5 := Go.Proofs.YtgfppajbegcaeaaDoor.Sl.cell_kept p5 hb; clear hb) | (go_at_call 25; (with_reducible refine (H3 _ _ _ h2).mono ?_); rintro e w5 ⟨rfl, hb⟩; replace hL := bstep hL hb; replace h2 := h2.below hb; replace p0 := Go.Proofs.YtgfppajbegcaeaaDoor.Sl.cell_kept p0 hb; replace p1 := Go.Proofs.YtgfppajbegcaeaaDoor.Sl.cell_kept p1 hb; replace p2 := Go.Proofs.YtgfppajbegcaeaaDoor.Sl.cell_kept p2 hb; replace p3 := Go.Proofs.YtgfppajbegcaeaaDoor.Sl.cell_kept p3 hb; replace p4 := Go.Proofs.YtgfppajbegcaeaaDoor.Sl.cell_kept p4 hb; replace p5 := Go.Proofs.YtgfppajbegcaeaaDoor.Sl.cell_kept p5 hb; clear hb))
    go_ret
    exact ⟨rfl, hL⟩
  · obtain ⟨h2, hbW⟩ := mk_two2 w2 (a0, a1, a2) (b0, b1, b2)
    generalize ((w2.alloc (Obj.cells #[.int .i64 a0, .int .i64 a1, .string a2, .int .i64 b0, .int .i64 b1, .string b2] 32)).alloc (Obj.cells #[.string ⟨#[97]⟩, .string ⟨#[98]⟩] 9)).drew = W at h2 hbW ⊢
    generalize Value.slice (some ⟨w2.heap.size, 0, none⟩) 2 2 = sx at h2 ⊢
    generalize Value.slice (some ⟨w2.heap.size + 1, 0, none⟩) 2 2 = sy at h2 ⊢
    replace p0 := Go.Proofs.YtgfppajbegcaeaaDoor.Sl.cell_kept p0 hbW
    replace p1 := Go.Proofs.YtgfppajbegcaeaaDoor.Sl.cell_kept p1 hbW
    replace p2 := Go.Proofs.YtgfppajbegcaeaaDoor.Sl.cell_kept p2 hbW
    replace p3 := Go.Proofs.YtgfppajbegcaeaaDoor.Sl.cell_kept p3 hbW
    replace p4 := Go.Proofs.YtgfppajbegcaeaaDoor.Sl.cell_kept p4 hbW
    replace p5 := Go.Proofs.YtgfppajbegcaeaaDoor.Sl.cell_kept p5 hbW
    replace hL := bstep hL hbW
    clear hbW hl1 hl2
    go_wp2_with (first | (go_at_call 25; (with_reducible refine (H1 _ _ _ h2).mono ?_); rintro e w5 ⟨rfl, hb⟩; replace hL := bstep hL hb; replace h2 := h2.below hb; replace p0 := Go.Proofs.YtgfppajbegcaeaaDoor.Sl.cell_kept p0 hb; replace p1 := Go.Proofs.YtgfppajbegcaeaaDoor.Sl.cell_kept p1 hb; replace p2 := Go.Proofs.YtgfppajbegcaeaaDoor.Sl.cell_kept p2 hb; replace p3 := Go.Proofs.YtgfppajbegcaeaaDoor.Sl.cell_kept p3 hb; replace p4 := Go.Proofs.YtgfppajbegcaeaaDoor.Sl.cell_kept p4 hb; replace p5 := Go.Proofs.YtgfppajbegcaeaaDoor.Sl.cell_kept p5 hb; clear hb) | (go_at_call 25; (with_reducible refine (H2 _ _ _ h2).mono ?_); rintro e w5 ⟨rfl, hb⟩; replace hL := bstep hL hb; replace h2 := h2.below hb; replace p0 := Go.Proofs.YtgfppajbegcaeaaDoor.Sl.cell_kept p0 hb; replace p1 := Go.Proofs.YtgfppajbegcaeaaDoor.Sl.cell_kept p1 hb; replace p2 := Go.Proofs.YtgfppajbegcaeaaDoor.Sl.cell_kept p2 hb; replace p3 := Go.Proofs.YtgfppajbegcaeaaDoor.Sl.cell_kept p3 hb; replace p4 := Go.Proofs.YtgfppajbegcaeaaDoor.Sl.cell_kept p4 hb; replace p5 := Go.Proofs.YtgfppajbegcaeaaDoor.Sl.cell_kept p5 hb; clear hb) | (go_at_call 25; (with_reducible refine (H3 _ _ _ h2).mono ?_); rintro e w5 ⟨rfl, hb⟩; replace hL := bstep hL hb; replace h2 := h2.below hb; replace p0 := Go.Proofs.YtgfppajbegcaeaaDoor.Sl.cell_kept p0 hb; replace p1 := Go.Proofs.YtgfppajbegcaeaaDoor.Sl.cell_kept p1 hb; replace p2 := Go.Proofs.YtgfppajbegcaeaaDoor.Sl.cell_kept p2 hb; replace p3 := Go.Proofs.YtgfppajbegcaeaaDoor.Sl.cell_kept p3 hb; replace p4 := Go.Proofs.YtgfppajbegcaeaaDoor.Sl.cell_kept p4 hb; replace p5 := Go.Proofs.YtgfppajbegcaeaaDoor.Sl.cell_kept p5 hb; clear hb))
    go_ret
    exact ⟨rfl, hL⟩
set_option maxRecDepth 20000 in
theorem vc_lt (a0 a1 : Int) (a2 : ByteArray) (b0 b1 : Int) (b2 : ByteArray) (m : Int) (w : World) (hm : w.cell? ⟨0, 0, none⟩ = some (.int .i64 m)) (hva : validV (a0, a1, a2) = true) (hvb : validV (b0, b1, b2) = true) (heq : a0 = b0) (H1 : ∀ (W : World) (s1 s2 : Value), Two W (a0, a1, a2) (b0, b1, b2) s1 s2 → Calls Tryd.prog 25 #[.agg #[.int .i64 2, .string ⟨#[97]⟩, .string ⟨#[98]⟩, .int .i64 0, .int .i64 0, .string ⟨#[]⟩, .slice none 0 0], s1, s2] W fun e w' => e = .returned (.tuple #[.bool true, .int .i64 0]) ∧ Below W.heap.size W w') (H2 : ∀ (W : World) (s1 s2 : Value), Two W (a0, a1, a2) (b0, b1, b2) s1 s2 → Calls Tryd.prog 25 #[.agg #[.int .i64 1, .string ⟨#[97]⟩, .string ⟨#[98]⟩, .int .i64 0, .int .i64 0, .string ⟨#[]⟩, .slice none 0 0], s1, s2] W fun e w' => e = .returned (.tuple #[.bool false, .int .i64 0]) ∧ Below W.heap.size W w') (H3 : ∀ (W : World) (s1 s2 : Value), Two W (a0, a1, a2) (b0, b1, b2) s1 s2 → Calls Tryd.prog 25 #[.agg #[.int .i64 2, .string ⟨#[98]⟩, .string ⟨#[97]⟩, .int .i64 0, .int .i64 0, .string ⟨#[]⟩, .slice none 0 0], s1, s2] W fun e w' => e = .returned (.tuple #[.bool false, .int .i64 0]) ∧ Below W.heap.size W w') (H4 : ∀ (W : World) (s1 s2 : Value), Two W (a0, a1, a2) (b0, b1, b2) s1 s2 → Calls Tryd.prog 25 #[.agg #[.int .i64 1, .string ⟨#[97]⟩, .string ⟨#[]⟩, .int .i64 b0, .int .i64 b1, .string b2, .slice none 0 0], s1, s2] W fun e w' => e = .returned (.tuple #[.bool false, .int .i64 0]) ∧ Below W.heap.size W w') (HO : ∀ W, Calls Tryd.prog 32 #[agV a0 a1 a2, agV b0 b1 b2] W fun e w' => e = .returned (.int .i64 (-1)) ∧ Below W.heap.size W w') :
    Calls Tryd.prog 7 #[agV a0 a1 a2, agV b0 b1 b2] w fun e w' => e = .returned (.bool true) ∧ Below w.heap.size w w' := by
  subst heq
  have HW := fun (W : World) (h : Below w.heap.size w W) => awake_any m W (Go.Proofs.YtgfppajbegcaeaaDoor.Sl.cell_kept hm h)
  have HV1 := fun W => valid_any (a0, a1, a2) W
  have HV2 := fun W => valid_any (a0, b1, b2) W
  rw [hva] at HV1
  rw [hvb] at HV2
  go_enter Tryd.func7, Tryd.ntmps7
  go_upto_region 3 with (first | (go_at_call 10; (with_reducible refine (HW _ (by go_grown)).mono ?_); rintro e w1 ⟨rfl, hb⟩; obtain ⟨hL, p0, p1, p2, p3, p4, p5⟩ := two_box hb; clear hb) | (go_at_call 21; (first | (with_reducible refine (HV1 _).mono ?_) | (with_reducible refine (HV2 _).mono ?_)); rintro e w2 ⟨rfl, hb⟩; replace hL := bstep hL hb; replace p0 := Go.Proofs.YtgfppajbegcaeaaDoor.Sl.cell_kept p0 hb; replace p1 := Go.Proofs.YtgfppajbegcaeaaDoor.Sl.cell_kept p1 hb; replace p2 := Go.Proofs.YtgfppajbegcaeaaDoor.Sl.cell_kept p2 hb; replace p3 := Go.Proofs.YtgfppajbegcaeaaDoor.Sl.cell_kept p3 hb; replace p4 := Go.Proofs.YtgfppajbegcaeaaDoor.Sl.cell_kept p4 hb; replace p5 := Go.Proofs.YtgfppajbegcaeaaDoor.Sl.cell_kept p5 hb; clear hb))
  clear HW HV1 HV2
  have hl1 := block_of_cell p0
  have hl2 := block_of_cell p3
  go_region
  · obtain ⟨h2, hbW⟩ := mk_two1 w2 (a0, a1, a2) (a0, b1, b2)
    generalize ((w2.alloc (Obj.cells #[.string ⟨#[97]⟩, .string ⟨#[98]⟩] 9)).alloc (Obj.cells #[.int .i64 a0, .int .i64 a1, .string a2, .int .i64 a0, .int .i64 b1, .string b2] 32)).drew = W at h2 hbW ⊢
    generalize Value.slice (some ⟨w2.heap.size, 0, none⟩) 2 2 = sx at h2 ⊢
    generalize Value.slice (some ⟨w2.heap.size + 1, 0, none⟩) 2 2 = sy at h2 ⊢
    replace p0 := Go.Proofs.YtgfppajbegcaeaaDoor.Sl.cell_kept p0 hbW
    replace p1 := Go.Proofs.YtgfppajbegcaeaaDoor.Sl.cell_kept p1 hbW
    replace p2 := Go.Proofs.YtgfppajbegcaeaaDoor.Sl.cell_kept p2 hbW
    replace p3 := Go.Proofs.YtgfppajbegcaeaaDoor.Sl.cell_kept p3 hbW
    replace p4 := Go.Proofs.YtgfppajbegcaeaaDoor.Sl.cell_kept p4 hbW
    replace p5 := Go.Proofs.YtgfppajbegcaeaaDoor.Sl.cell_kept p5 hbW
    replace hL := bstep hL hbW
    clear hbW hl1 hl2
    go_wp2_with (first | (go_at_call 25; (with_reducible refine (H1 _ _ _ h2).mono ?_); rintro e w5 ⟨rfl, hb⟩; replace hL := bstep hL hb; replace h2 := h2.below hb; replace p0 := Go.Proofs.YtgfppajbegcaeaaDoor.Sl.cell_kept p0 hb; replace p1 := Go.Proofs.YtgfppajbegcaeaaDoor.Sl.cell_kept p1 hb; replace p2 := Go.Proofs.YtgfppajbegcaeaaDoor.Sl.cell_kept p2 hb; replace p3 := Go.Proofs.YtgfppajbegcaeaaDoor.Sl.cell_kept p3 hb; replace p4 := Go.Proofs.YtgfppajbegcaeaaDoor.Sl.cell_kept p4 hb; replace p5 := Go.Proofs.YtgfppajbegcaeaaDoor.Sl.cell_kept p5 hb; clear hb) | (go_at_call 25; (with_reducible refine (H2 _ _ _ h2).mono ?_); rintro e w5 ⟨rfl, hb⟩; replace hL := bstep hL hb; replace h2 := h2.below hb; replace p0 := Go.Proofs.YtgfppajbegcaeaaDoor.Sl.cell_kept p0 hb; replace p1 := Go.Proofs.YtgfppajbegcaeaaDoor.Sl.cell_kept p1 hb; replace p2 := Go.Proofs.YtgfppajbegcaeaaDoor.Sl.cell_kept p2 hb; replace p3 := Go.Proofs.YtgfppajbegcaeaaDoor.Sl.cell_kept p3 hb; replace p4 := Go.Proofs.YtgfppajbegcaeaaDoor.Sl.cell_kept p4 hb; replace p5 := Go.Proofs.YtgfppajbegcaeaaDoor.Sl.cell_kept p5 hb; clear hb) | (go_at_call 25; (with_reducible refine (H3 _ _ _ h2).mono ?_); rintro e w5 ⟨rfl, hb⟩; replace hL := bstep hL hb; replace h2 := h2.below hb; replace p0 := Go.Proofs.YtgfppajbegcaeaaDoor.Sl.cell_kept p0 hb; replace p1 := Go.Proofs.YtgfppajbegcaeaaDoor.Sl.cell_kept p1 hb; replace p2 := Go.Proofs.YtgfppajbegcaeaaDoor.Sl.cell_kept p2 hb; replace p3 := Go.Proofs.YtgfppajbegcaeaaDoor.Sl.cell_kept p3 hb; replace p4 := Go.Proofs.YtgfppajbegcaeaaDoor.Sl.cell_kept p4 hb; replace p5 := Go.Proofs.YtgfppajbegcaeaaDoor.Sl.cell_kept p5 hb; clear hb) | (go_at_call 25; (with_reducible refine (H4 _ _ _ h2).mono ?_); rintro e w5 ⟨rfl, hb⟩; replace hL := bstep hL hb; replace h2 := h2.below hb; replace p0 := Go.Proofs.YtgfppajbegcaeaaDoor.Sl.cell_kept p0 hb; replace p1 := Go.Proofs.YtgfppajbegcaeaaDoor.Sl.cell_kept p1 hb; replace p2 := Go.Proofs.YtgfppajbegcaeaaDoor.Sl.cell_kept p2 hb; replace p3 := Go.Proofs.YtgfppajbegcaeaaDoor.Sl.cell_kept p3 hb; replace p4 := Go.Proofs.YtgfppajbegcaeaaDoor.Sl.cell_kept p4 hb; replace p5 := Go.Proofs.YtgfppajbegcaeaaDoor.Sl.cell_kept p5 hb; clear hb) | (go_at_call 32; (with_reducible refine (HO _).mono ?_); rintro e w5 ⟨rfl, hb⟩; replace hL := bstep hL hb; replace h2 := h2.below hb; replace p0 := Go.Proofs.YtgfppajbegcaeaaDoor.Sl.cell_kept p0 hb; replace p1 := Go.Proofs.YtgfppajbegcaeaaDoor.Sl.cell_kept p1 hb; replace p2 := Go.Proofs.YtgfppajbegcaeaaDoor.Sl.cell_kept p2 hb; replace p3 := Go.Proofs.YtgfppajbegcaeaaDoor.Sl.cell_kept p3 hb; replace p4 := Go.Proofs.YtgfppajbegcaeaaDoor.Sl.cell_kept p4 hb; replace p5 := Go.Proofs.YtgfppajbegcaeaaDoor.Sl.cell_kept p5 hb; clear hb))
    go_ret
    exact ⟨rfl, hL⟩
  · obtain ⟨h2, hbW⟩ := mk_two2 w2 (a0, a1, a2) (a0, b1, b2)
    generalize ((w2.alloc (Obj.cells #[.int .i64 a0, .int .i64 a1, .string a2, .int .i64 a0, .int .i64 b1, .string b2] 32)).alloc (Obj.cells #[.string ⟨#[97]⟩, .string ⟨#[98]⟩] 9)).drew = W at h2 hbW ⊢
    generalize Value.slice (some ⟨w2.heap.size, 0, none⟩) 2 2 = sx at h2 ⊢
    generalize Value.slice (some ⟨w2.heap.size + 1, 0, none⟩) 2 2 = sy at h2 ⊢
    replace p0 := Go.Proofs.YtgfppajbegcaeaaDoor.Sl.cell_kept p0 hbW
    replace p1 := Go.Proofs.YtgfppajbegcaeaaDoor.Sl.cell_kept p1 hbW
    replace p2 := Go.Proofs.YtgfppajbegcaeaaDoor.Sl.cell_kept p2 hbW
    replace p3 := Go.Proofs.YtgfppajbegcaeaaDoor.Sl.cell_kept p3 hbW
    replace p4 := Go.Proofs.YtgfppajbegcaeaaDoor.Sl.cell_kept p4 hbW
    replace p5 := Go.Proofs.YtgfppajbegcaeaaDoor.Sl.cell_kept p5 hbW
    replace hL := bstep hL hbW
    clear hbW hl1 hl2
    go_wp2_with (first | (go_at_call 25; (with_reducible refine (H1 _ _ _ h2).mono ?_); rintro e w5 ⟨rfl, hb⟩; replace hL := bstep hL hb; replace h2 := h2.below hb; replace p0 := Go.Proofs.YtgfppajbegcaeaaDoor.Sl.cell_kept p0 hb; replace p1 := Go.Proofs.YtgfppajbegcaeaaDoor.Sl.cell_kept p1 hb; replace p2 := Go.Proofs.YtgfppajbegcaeaaDoor.Sl.cell_kept p2 hb; replace p3 := Go.Proofs.YtgfppajbegcaeaaDoor.Sl.cell_kept p3 hb; replace p4 := Go.Proofs.YtgfppajbegcaeaaDoor.Sl.cell_kept p4 hb; replace p5 := Go.Proofs.YtgfppajbegcaeaaDoor.Sl.cell_kept p5 hb; clear hb) | (go_at_call 25; (with_reducible refine (H2 _ _ _ h2).mono ?_); rintro e w5 ⟨rfl, hb⟩; replace hL := bstep hL hb; replace h2 := h2.below hb; replace p0 := Go.Proofs.YtgfppajbegcaeaaDoor.Sl.cell_kept p0 hb; replace p1 := Go.Proofs.YtgfppajbegcaeaaDoor.Sl.cell_kept p1 hb; replace p2 := Go.Proofs.YtgfppajbegcaeaaDoor.Sl.cell_kept p2 hb; replace p3 := Go.Proofs.YtgfppajbegcaeaaDoor.Sl.cell_kept p3 hb; replace p4 := Go.Proofs.YtgfppajbegcaeaaDoor.Sl.cell_kept p4 hb; replace p5 := Go.Proofs.YtgfppajbegcaeaaDoor.Sl.cell_kept p5 hb; clear hb) | (go_at_call 25; (with_reducible refine (H3 _ _ _ h2).mono ?_); rintro e w5 ⟨rfl, hb⟩; replace hL := bstep hL hb; replace h2 := h2.below hb; replace p0 := Go.Proofs.YtgfppajbegcaeaaDoor.Sl.cell_kept p0 hb; replace p1 := Go.Proofs.YtgfppajbegcaeaaDoor.Sl.cell_kept p1 hb; replace p2 := Go.Proofs.YtgfppajbegcaeaaDoor.Sl.cell_kept p2 hb; replace p3 := Go.Proofs.YtgfppajbegcaeaaDoor.Sl.cell_kept p3 hb; replace p4 := Go.Proofs.YtgfppajbegcaeaaDoor.Sl.cell_kept p4 hb; replace p5 := Go.Proofs.YtgfppajbegcaeaaDoor.Sl.cell_kept p5 hb; clear hb) | (go_at_call 25; (with_reducible refine (H4 _ _ _ h2).mono ?_); rintro e w5 ⟨rfl, hb⟩; replace hL := bstep hL hb; replace h2 := h2.below hb; replace p0 := Go.Proofs.YtgfppajbegcaeaaDoor.Sl.cell_kept p0 hb; replace p1 := Go.Proofs.YtgfppajbegcaeaaDoor.Sl.cell_kept p1 hb; replace p2 := Go.Proofs.YtgfppajbegcaeaaDoor.Sl.cell_kept p2 hb; replace p3 := Go.Proofs.YtgfppajbegcaeaaDoor.Sl.cell_kept p3 hb; replace p4 := Go.Proofs.YtgfppajbegcaeaaDoor.Sl.cell_kept p4 hb; replace p5 := Go.Proofs.YtgfppajbegcaeaaDoor.Sl.cell_kept p5 hb; clear hb) | (go_at_call 32; (with_reducible refine (HO _).mono ?_); rintro e w5 ⟨rfl, hb⟩; replace hL := bstep hL hb; replace h2 := h2.below hb; replace p0 := Go.Proofs.YtgfppajbegcaeaaDoor.Sl.cell_kept p0 hb; replace p1 := Go.Proofs.YtgfppajbegcaeaaDoor.Sl.cell_kept p1 hb; replace p2 := Go.Proofs.YtgfppajbegcaeaaDoor.Sl.cell_kept p2 hb; replace p3 := Go.Proofs.YtgfppajbegcaeaaDoor.Sl.cell_kept p3 hb; replace p4 := Go.Proofs.YtgfppajbegcaeaaDoor.Sl.cell_kept p4 hb; replace p5 := Go.Proofs.YtgfppajbegcaeaaDoor.Sl.cell_kept p5 hb; clear hb))
    go_ret
    exact ⟨rfl, hL⟩
set_option maxRecDepth 20000 in
theorem vc_eq (a0 a1 : Int) (a2 : ByteArray) (b0 b1 : Int) (b2 : ByteArray) (m : Int) (w : World) (hm : w.cell? ⟨0, 0, none⟩ = some (.int .i64 m)) (hva : validV (a0, a1, a2) = true) (hvb : validV (b0, b1, b2) = true) (heq : a0 = b0) (H1 : ∀ (W : World) (s1 s2 : Value), Two W (a0, a1, a2) (b0, b1, b2) s1 s2 → Calls Tryd.prog 25 #[.agg #[.int .i64 2, .string ⟨#[97]⟩, .string ⟨#[98]⟩, .int .i64 0, .int .i64 0, .string ⟨#[]⟩, .slice none 0 0], s1, s2] W fun e w' => e = .returned (.tuple #[.bool false, .int .i64 0]) ∧ Below W.heap.size W w') (H2 : ∀ (W : World) (s1 s2 : Value), Two W (a0, a1, a2) (b0, b1, b2) s1 s2 → Calls Tryd.prog 25 #[.agg #[.int .i64 1, .string ⟨#[97]⟩, .string ⟨#[98]⟩, .int .i64 0, .int .i64 0, .string ⟨#[]⟩, .slice none 0 0], s1, s2] W fun e w' => e = .returned (.tuple #[.bool true, .int .i64 0]) ∧ Below W.heap.size W w') (H3 : ∀ (W : World) (s1 s2 : Value), Two W (a0, a1, a2) (b0, b1, b2) s1 s2 → Calls Tryd.prog 25 #[.agg #[.int .i64 2, .string ⟨#[98]⟩, .string ⟨#[97]⟩, .int .i64 0, .int .i64 0, .string ⟨#[]⟩, .slice none 0 0], s1, s2] W fun e w' => e = .returned (.tuple #[.bool false, .int .i64 0]) ∧ Below W.heap.size W w') (H4 : ∀ (W : World) (s1 s2 : Value), Two W (a0, a1, a2) (b0, b1, b2) s1 s2 → Calls Tryd.prog 25 #[.agg #[.int .i64 1, .string ⟨#[97]⟩, .string ⟨#[]⟩, .int .i64 b0, .int .i64 b1, .string b2, .slice none 0 0], s1, s2] W fun e w' => e = .returned (.tuple #[.bool true, .int .i64 0]) ∧ Below W.heap.size W w') (HO : ∀ W, Calls Tryd.prog 32 #[agV a0 a1 a2, agV b0 b1 b2] W fun e w' => e = .returned (.int .i64 (0)) ∧ Below W.heap.size W w') :
    Calls Tryd.prog 7 #[agV a0 a1 a2, agV b0 b1 b2] w fun e w' => e = .returned (.bool true) ∧ Below w.heap.size w w' := by
  subst heq
  have HW := fun (W : World) (h : Below w.heap.size w W) => awake_any m W (Go.Proofs.YtgfppajbegcaeaaDoor.Sl.cell_kept hm h)
  have HV1 := fun W => valid_any (a0, a1, a2) W
  have HV2 := fun W => valid_any (a0, b1, b2) W
  rw [hva] at HV1
  rw [hvb] at HV2
  go_enter Tryd.func7, Tryd.ntmps7
  go_upto_region 3 with (first | (go_at_call 10; (with_reducible refine (HW _ (by go_grown)).mono ?_); rintro e w1 ⟨rfl, hb⟩; obtain ⟨hL, p0, p1, p2, p3, p4, p5⟩ := two_box hb; clear hb) | (go_at_call 21; (first | (with_reducible refine (HV1 _).mono ?_) | (with_reducible refine (HV2 _).mono ?_)); rintro e w2 ⟨rfl, hb⟩; replace hL := bstep hL hb; replace p0 := Go.Proofs.YtgfppajbegcaeaaDoor.Sl.cell_kept p0 hb; replace p1 := Go.Proofs.YtgfppajbegcaeaaDoor.Sl.cell_kept p1 hb; replace p2 := Go.Proofs.YtgfppajbegcaeaaDoor.Sl.cell_kept p2 hb; replace p3 := Go.Proofs.YtgfppajbegcaeaaDoor.Sl.cell_kept p3 hb; replace p4 := Go.Proofs.YtgfppajbegcaeaaDoor.Sl.cell_kept p4 hb; replace p5 := Go.Proofs.YtgfppajbegcaeaaDoor.Sl.cell_kept p5 hb; clear hb))
  clear HW HV1 HV2
  have hl1 := block_of_cell p0
  have hl2 := block_of_cell p3
  go_region
  · obtain ⟨h2, hbW⟩ := mk_two1 w2 (a0, a1, a2) (a0, b1, b2)
    generalize ((w2.alloc (Obj.cells #[.string ⟨#[97]⟩, .string ⟨#[98]⟩] 9)).alloc (Obj.cells #[.int .i64 a0, .int .i64 a1, .string a2, .int .i64 a0, .int .i64 b1, .string b2] 32)).drew = W at h2 hbW ⊢
    generalize Value.slice (some ⟨w2.heap.size, 0, none⟩) 2 2 = sx at h2 ⊢
    generalize Value.slice (some ⟨w2.heap.size + 1, 0, none⟩) 2 2 = sy at h2 ⊢
    replace p0 := Go.Proofs.YtgfppajbegcaeaaDoor.Sl.cell_kept p0 hbW
    replace p1 := Go.Proofs.YtgfppajbegcaeaaDoor.Sl.cell_kept p1 hbW
    replace p2 := Go.Proofs.YtgfppajbegcaeaaDoor.Sl.cell_kept p2 hbW
    replace p3 := Go.Proofs.YtgfppajbegcaeaaDoor.Sl.cell_kept p3 hbW
    replace p4 := Go.Proofs.YtgfppajbegcaeaaDoor.Sl.cell_kept p4 hbW
    replace p5 := Go.Proofs.YtgfppajbegcaeaaDoor.Sl.cell_kept p5 hbW
    replace hL := bstep hL hbW
    clear hbW hl1 hl2
    go_wp2_with (first | (go_at_call 25; (with_reducible refine (H1 _ _ _ h2).mono ?_); rintro e w5 ⟨rfl, hb⟩; replace hL := bstep hL hb; replace h2 := h2.below hb; replace p0 := Go.Proofs.YtgfppajbegcaeaaDoor.Sl.cell_kept p0 hb; replace p1 := Go.Proofs.YtgfppajbegcaeaaDoor.Sl.cell_kept p1 hb; replace p2 := Go.Proofs.YtgfppajbegcaeaaDoor.Sl.cell_kept p2 hb; replace p3 := Go.Proofs.YtgfppajbegcaeaaDoor.Sl.cell_kept p3 hb; replace p4 := Go.Proofs.YtgfppajbegcaeaaDoor.Sl.cell_kept p4 hb; replace p5 := Go.Proofs.YtgfppajbegcaeaaDoor.Sl.cell_kept p5 hb; clear hb) | (go_at_call 25; (with_reducible refine (H2 _ _ _ h2).mono ?_); rintro e w5 ⟨rfl, hb⟩; replace hL := bstep hL hb; replace h2 := h2.below hb; replace p0 := Go.Proofs.YtgfppajbegcaeaaDoor.Sl.cell_kept p0 hb; replace p1 := Go.Proofs.YtgfppajbegcaeaaDoor.Sl.cell_kept p1 hb; replace p2 := Go.Proofs.YtgfppajbegcaeaaDoor.Sl.cell_kept p2 hb; replace p3 := Go.Proofs.YtgfppajbegcaeaaDoor.Sl.cell_kept p3 hb; replace p4 := Go.Proofs.YtgfppajbegcaeaaDoor.Sl.cell_kept p4 hb; replace p5 := Go.Proofs.YtgfppajbegcaeaaDoor.Sl.cell_kept p5 hb; clear hb) | (go_at_call 25; (with_reducible refine (H3 _ _ _ h2).mono ?_); rintro e w5 ⟨rfl, hb⟩; replace hL := bstep hL hb; replace h2 := h2.below hb; replace p0 := Go.Proofs.YtgfppajbegcaeaaDoor.Sl.cell_kept p0 hb; replace p1 := Go.Proofs.YtgfppajbegcaeaaDoor.Sl.cell_kept p1 hb; replace p2 := Go.Proofs.YtgfppajbegcaeaaDoor.Sl.cell_kept p2 hb; replace p3 := Go.Proofs.YtgfppajbegcaeaaDoor.Sl.cell_kept p3 hb; replace p4 := Go.Proofs.YtgfppajbegcaeaaDoor.Sl.cell_kept p4 hb; replace p5 := Go.Proofs.YtgfppajbegcaeaaDoor.Sl.cell_kept p5 hb; clear hb) | (go_at_call 25; (with_reducible refine (H4 _ _ _ h2).mono ?_); rintro e w5 ⟨rfl, hb⟩; replace hL := bstep hL hb; replace h2 := h2.below hb; replace p0 := Go.Proofs.YtgfppajbegcaeaaDoor.Sl.cell_kept p0 hb; replace p1 := Go.Proofs.YtgfppajbegcaeaaDoor.Sl.cell_kept p1 hb; replace p2 := Go.Proofs.YtgfppajbegcaeaaDoor.Sl.cell_kept p2 hb; replace p3 := Go.Proofs.YtgfppajbegcaeaaDoor.Sl.cell_kept p3 hb; replace p4 := Go.Proofs.YtgfppajbegcaeaaDoor.Sl.cell_kept p4 hb; replace p5 := Go.Proofs.YtgfppajbegcaeaaDoor.Sl.cell_kept p5 hb; clear hb) | (go_at_call 32; (with_reducible refine (HO _).mono ?_); rintro e w5 ⟨rfl, hb⟩; replace hL := bstep hL hb; replace h2 := h2.below hb; replace p0 := Go.Proofs.YtgfppajbegcaeaaDoor.Sl.cell_kept p0 hb; replace p1 := Go.Proofs.YtgfppajbegcaeaaDoor.Sl.cell_kept p1 hb; replace p2 := Go.Proofs.YtgfppajbegcaeaaDoor.Sl.cell_kept p2 hb; replace p3 := Go.Proofs.YtgfppajbegcaeaaDoor.Sl.cell_kept p3 hb; replace p4 := Go.Proofs.YtgfppajbegcaeaaDoor.Sl.cell_kept p4 hb; replace p5 := Go.Proofs.YtgfppajbegcaeaaDoor.Sl.cell_kept p5 hb; clear hb))
    go_ret
    exact ⟨rfl, hL⟩
  · obtain ⟨h2, hbW⟩ := mk_two2 w2 (a0, a1, a2) (a0, b1, b2)
    generalize ((w2.alloc (Obj.cells #[.int .i64 a0, .int .i64 a1, .string a2, .int .i64 a0, .int .i64 b1, .string b2] 32)).alloc (Obj.cells #[.string ⟨#[97]⟩, .string ⟨#[98]⟩] 9)).drew = W at h2 hbW ⊢
    generalize Value.slice (some ⟨w2.heap.size, 0, none⟩) 2 2 = sx at h2 ⊢
    generalize Value.slice (some ⟨w2.heap.size + 1, 0, none⟩) 2 2 = sy at h2 ⊢
    replace p0 := Go.Proofs.YtgfppajbegcaeaaDoor.Sl.cell_kept p0 hbW
    replace p1 := Go.Proofs.YtgfppajbegcaeaaDoor.Sl.cell_kept p1 hbW
    replace p2 := Go.Proofs.YtgfppajbegcaeaaDoor.Sl.cell_kept p2 hbW
    replace p3 := Go.Proofs.YtgfppajbegcaeaaDoor.Sl.cell_kept p3 hbW
    replace p4 := Go.Proofs.YtgfppajbegcaeaaDoor.Sl.cell_kept p4 hbW
    replace p5 := Go.Proofs.YtgfppajbegcaeaaDoor.Sl.cell_kept p5 hbW
    replace hL := bstep hL hbW
    clear hbW hl1 hl2
    go_wp2_with (first | (go_at_call 25; (with_reducible refine (H1 _ _ _ h2).mono ?_); rintro e w5 ⟨rfl, hb⟩; replace hL := bstep hL hb; replace h2 := h2.below hb; replace p0 := Go.Proofs.YtgfppajbegcaeaaDoor.Sl.cell_kept p0 hb; replace p1 := Go.Proofs.YtgfppajbegcaeaaDoor.Sl.cell_kept p1 hb; replace p2 := Go.Proofs.YtgfppajbegcaeaaDoor.Sl.cell_kept p2 hb; replace p3 := Go.Proofs.YtgfppajbegcaeaaDoor.Sl.cell_kept p3 hb; replace p4 := Go.Proofs.YtgfppajbegcaeaaDoor.Sl.cell_kept p4 hb; replace p5 := Go.Proofs.YtgfppajbegcaeaaDoor.Sl.cell_kept p5 hb; clear hb) | (go_at_call 25; (with_reducible refine (H2 _ _ _ h2).mono ?_); rintro e w5 ⟨rfl, hb⟩; replace hL := bstep hL hb; replace h2 := h2.below hb; replace p0 := Go.Proofs.YtgfppajbegcaeaaDoor.Sl.cell_kept p0 hb; replace p1 := Go.Proofs.YtgfppajbegcaeaaDoor.Sl.cell_kept p1 hb; replace p2 := Go.Proofs.YtgfppajbegcaeaaDoor.Sl.cell_kept p2 hb; replace p3 := Go.Proofs.YtgfppajbegcaeaaDoor.Sl.cell_kept p3 hb; replace p4 := Go.Proofs.YtgfppajbegcaeaaDoor.Sl.cell_kept p4 hb; replace p5 := Go.Proofs.YtgfppajbegcaeaaDoor.Sl.cell_kept p5 hb; clear hb) | (go_at_call 25; (with_reducible refine (H3 _ _ _ h2).mono ?_); rintro e w5 ⟨rfl, hb⟩; replace hL := bstep hL hb; replace h2 := h2.below hb; replace p0 := Go.Proofs.YtgfppajbegcaeaaDoor.Sl.cell_kept p0 hb; replace p1 := Go.Proofs.YtgfppajbegcaeaaDoor.Sl.cell_kept p1 hb; replace p2 := Go.Proofs.YtgfppajbegcaeaaDoor.Sl.cell_kept p2 hb; replace p3 := Go.Proofs.YtgfppajbegcaeaaDoor.Sl.cell_kept p3 hb; replace p4 := Go.Proofs.YtgfppajbegcaeaaDoor.Sl.cell_kept p4 hb; replace p5 := Go.Proofs.YtgfppajbegcaeaaDoor.Sl.cell_kept p5 hb; clear hb) | (go_at_call 25; (with_reducible refine (H4 _ _ _ h2).mono ?_); rintro e w5 ⟨rfl, hb⟩; replace hL := bstep hL hb; replace h2 := h2.below hb; replace p0 := Go.Proofs.YtgfppajbegcaeaaDoor.Sl.cell_kept p0 hb; replace p1 := Go.Proofs.YtgfppajbegcaeaaDoor.Sl.cell_kept p1 hb; replace p2 := Go.Proofs.YtgfppajbegcaeaaDoor.Sl.cell_kept p2 hb; replace p3 := Go.Proofs.YtgfppajbegcaeaaDoor.Sl.cell_kept p3 hb; replace p4 := Go.Proofs.YtgfppajbegcaeaaDoor.Sl.cell_kept p4 hb; replace p5 := Go.Proofs.YtgfppajbegcaeaaDoor.Sl.cell_kept p5 hb; clear hb) | (go_at_call 32; (with_reducible refine (HO _).mono ?_); rintro e w5 ⟨rfl, hb⟩; replace hL := bstep hL hb; replace h2 := h2.below hb; replace p0 := Go.Proofs.YtgfppajbegcaeaaDoor.Sl.cell_kept p0 hb; replace p1 := Go.Proofs.YtgfppajbegcaeaaDoor.Sl.cell_kept p1 hb; replace p2 := Go.Proofs.YtgfppajbegcaeaaDoor.Sl.cell_kept p2 hb; replace p3 := Go.Proofs.YtgfppajbegcaeaaDoor.Sl.cell_kept p3 hb; replace p4 := Go.Proofs.YtgfppajbegcaeaaDoor.Sl.cell_kept p4 hb; replace p5 := Go.Proofs.YtgfppajbegcaeaaDoor.Sl.cell_kept p5 hb; clear hb))
    go_ret
    exact ⟨rfl, hL⟩
set_option maxRecDepth 20000 in
theorem vc_gt (a0 a1 : Int) (a2 : ByteArray) (b0 b1 : Int) (b2 : ByteArray) (m : Int) (w : World) (hm : w.cell? ⟨0, 0, none⟩ = some (.int .i64 m)) (hva : validV (a0, a1, a2) = true) (hvb : validV (b0, b1, b2) = true) (heq : a0 = b0) (H1 : ∀ (W : World) (s1 s2 : Value), Two W (a0, a1, a2) (b0, b1, b2) s1 s2 → Calls Tryd.prog 25 #[.agg #[.int .i64 2, .string ⟨#[97]⟩, .string ⟨#[98]⟩, .int .i64 0, .int .i64 0, .string ⟨#[]⟩, .slice none 0 0], s1, s2] W fun e w' => e = .returned (.tuple #[.bool false, .int .i64 0]) ∧ Below W.heap.size W w') (H2 : ∀ (W : World) (s1 s2 : Value), Two W (a0, a1, a2) (b0, b1, b2) s1 s2 → Calls Tryd.prog 25 #[.agg #[.int .i64 1, .string ⟨#[97]⟩, .string ⟨#[98]⟩, .int .i64 0, .int .i64 0, .string ⟨#[]⟩, .slice none 0 0], s1, s2] W fun e w' => e = .returned (.tuple #[.bool false, .int .i64 0]) ∧ Below W.heap.size W w') (H3 : ∀ (W : World) (s1 s2 : Value), Two W (a0, a1, a2) (b0, b1, b2) s1 s2 → Calls Tryd.prog 25 #[.agg #[.int .i64 2, .string ⟨#[98]⟩, .string ⟨#[97]⟩, .int .i64 0, .int .i64 0, .string ⟨#[]⟩, .slice none 0 0], s1, s2] W fun e w' => e = .returned (.tuple #[.bool true, .int .i64 0]) ∧ Below W.heap.size W w') (H4 : ∀ (W : World) (s1 s2 : Value), Two W (a0, a1, a2) (b0, b1, b2) s1 s2 → Calls Tryd.prog 25 #[.agg #[.int .i64 1, .string ⟨#[97]⟩, .string ⟨#[]⟩, .int .i64 b0, .int .i64 b1, .string b2, .slice none 0 0], s1, s2] W fun e w' => e = .returned (.tuple #[.bool false, .int .i64 0]) ∧ Below W.heap.size W w') (HO : ∀ W, Calls Tryd.prog 32 #[agV a0 a1 a2, agV b0 b1 b2] W fun e w' => e = .returned (.int .i64 (1)) ∧ Below W.heap.size W w') :
    Calls Tryd.prog 7 #[agV a0 a1 a2, agV b0 b1 b2] w fun e w' => e = .returned (.bool true) ∧ Below w.heap.size w w' := by
  subst heq
  have HW := fun (W : World) (h : Below w.heap.size w W) => awake_any m W (Go.Proofs.YtgfppajbegcaeaaDoor.Sl.cell_kept hm h)
  have HV1 := fun W => valid_any (a0, a1, a2) W
  have HV2 := fun W => valid_any (a0, b1, b2) W
  rw [hva] at HV1
  rw [hvb] at HV2
  go_enter Tryd.func7, Tryd.ntmps7
  go_upto_region 3 with (first | (go_at_call 10; (with_reducible refine (HW _ (by go_grown)).mono ?_); rintro e w1 ⟨rfl, hb⟩; obtain ⟨hL, p0, p1, p2, p3, p4, p5⟩ := two_box hb; clear hb) | (go_at_call 21; (first | (with_reducible refine (HV1 _).mono ?_) | (with_reducible refine (HV2 _).mono ?_)); rintro e w2 ⟨rfl, hb⟩; replace hL := bstep hL hb; replace p0 := Go.Proofs.YtgfppajbegcaeaaDoor.Sl.cell_kept p0 hb; replace p1 := Go.Proofs.YtgfppajbegcaeaaDoor.Sl.cell_kept p1 hb; replace p2 := Go.Proofs.YtgfppajbegcaeaaDoor.Sl.cell_kept p2 hb; replace p3 := Go.Proofs.YtgfppajbegcaeaaDoor.Sl.cell_kept p3 hb; replace p4 := Go.Proofs.YtgfppajbegcaeaaDoor.Sl.cell_kept p4 hb; replace p5 := Go.Proofs.YtgfppajbegcaeaaDoor.Sl.cell_kept p5 hb; clear hb))
  clear HW HV1 HV2
  have hl1 := block_of_cell p0
  have hl2 := block_of_cell p3
  go_region
  · obtain ⟨h2, hbW⟩ := mk_two1 w2 (a0, a1, a2) (a0, b1, b2)
    generalize ((w2.alloc (Obj.cells #[.string ⟨#[97]⟩, .string ⟨#[98]⟩] 9)).alloc (Obj.cells #[.int .i64 a0, .int .i64 a1, .string a2, .int .i64 a0, .int .i64 b1, .string b2] 32)).drew = W at h2 hbW ⊢
    generalize Value.slice (some ⟨w2.heap.size, 0, none⟩) 2 2 = sx at h2 ⊢
    generalize Value.slice (some ⟨w2.heap.size + 1, 0, none⟩) 2 2 = sy at h2 ⊢
    replace p0 := Go.Proofs.YtgfppajbegcaeaaDoor.Sl.cell_kept p0 hbW
    replace p1 := Go.Proofs.YtgfppajbegcaeaaDoor.Sl.cell_kept p1 hbW
    replace p2 := Go.Proofs.YtgfppajbegcaeaaDoor.Sl.cell_kept p2 hbW
    replace p3 := Go.Proofs.YtgfppajbegcaeaaDoor.Sl.cell_kept p3 hbW
    replace p4 := Go.Proofs.YtgfppajbegcaeaaDoor.Sl.cell_kept p4 hbW
    replace p5 := Go.Proofs.YtgfppajbegcaeaaDoor.Sl.cell_kept p5 hbW
    replace hL := bstep hL hbW
    clear hbW hl1 hl2
    go_wp2_with (first | (go_at_call 25; (with_reducible refine (H1 _ _ _ h2).mono ?_); rintro e w5 ⟨rfl, hb⟩; replace hL := bstep hL hb; replace h2 := h2.below hb; replace p0 := Go.Proofs.YtgfppajbegcaeaaDoor.Sl.cell_kept p0 hb; replace p1 := Go.Proofs.YtgfppajbegcaeaaDoor.Sl.cell_kept p1 hb; replace p2 := Go.Proofs.YtgfppajbegcaeaaDoor.Sl.cell_kept p2 hb; replace p3 := Go.Proofs.YtgfppajbegcaeaaDoor.Sl.cell_kept p3 hb; replace p4 := Go.Proofs.YtgfppajbegcaeaaDoor.Sl.cell_kept p4 hb; replace p5 := Go.Proofs.YtgfppajbegcaeaaDoor.Sl.cell_kept p5 hb; clear hb) | (go_at_call 25; (with_reducible refine (H2 _ _ _ h2).mono ?_); rintro e w5 ⟨rfl, hb⟩; replace hL := bstep hL hb; replace h2 := h2.below hb; replace p0 := Go.Proofs.YtgfppajbegcaeaaDoor.Sl.cell_kept p0 hb; replace p1 := Go.Proofs.YtgfppajbegcaeaaDoor.Sl.cell_kept p1 hb; replace p2 := Go.Proofs.YtgfppajbegcaeaaDoor.Sl.cell_kept p2 hb; replace p3 := Go.Proofs.YtgfppajbegcaeaaDoor.Sl.cell_kept p3 hb; replace p4 := Go.Proofs.YtgfppajbegcaeaaDoor.Sl.cell_kept p4 hb; replace p5 := Go.Proofs.YtgfppajbegcaeaaDoor.Sl.cell_kept p5 hb; clear hb) | (go_at_call 25; (with_reducible refine (H3 _ _ _ h2).mono ?_); rintro e w5 ⟨rfl, hb⟩; replace hL := bstep hL hb; replace h2 := h2.below hb; replace p0 := Go.Proofs.YtgfppajbegcaeaaDoor.Sl.cell_kept p0 hb; replace p1 := Go.Proofs.YtgfppajbegcaeaaDoor.Sl.cell_kept p1 hb; replace p2 := Go.Proofs.YtgfppajbegcaeaaDoor.Sl.cell_kept p2 hb; replace p3 := Go.Proofs.YtgfppajbegcaeaaDoor.Sl.cell_kept p3 hb; replace p4 := Go.Proofs.YtgfppajbegcaeaaDoor.Sl.cell_kept p4 hb; replace p5 := Go.Proofs.YtgfppajbegcaeaaDoor.Sl.cell_kept p5 hb; clear hb) | (go_at_call 25; (with_reducible refine (H4 _ _ _ h2).mono ?_); rintro e w5 ⟨rfl, hb⟩; replace hL := bstep hL hb; replace h2 := h2.below hb; replace p0 := Go.Proofs.YtgfppajbegcaeaaDoor.Sl.cell_kept p0 hb; replace p1 := Go.Proofs.YtgfppajbegcaeaaDoor.Sl.cell_kept p1 hb; replace p2 := Go.Proofs.YtgfppajbegcaeaaDoor.Sl.cell_kept p2 hb; replace p3 := Go.Proofs.YtgfppajbegcaeaaDoor.Sl.cell_kept p3 hb; replace p4 := Go.Proofs.YtgfppajbegcaeaaDoor.Sl.cell_kept p4 hb; replace p5 := Go.Proofs.YtgfppajbegcaeaaDoor.Sl.cell_kept p5 hb; clear hb) | (go_at_call 32; (with_reducible refine (HO _).mono ?_); rintro e w5 ⟨rfl, hb⟩; replace hL := bstep hL hb; replace h2 := h2.below hb; replace p0 := Go.Proofs.YtgfppajbegcaeaaDoor.Sl.cell_kept p0 hb; replace p1 := Go.Proofs.YtgfppajbegcaeaaDoor.Sl.cell_kept p1 hb; replace p2 := Go.Proofs.YtgfppajbegcaeaaDoor.Sl.cell_kept p2 hb; replace p3 := Go.Proofs.YtgfppajbegcaeaaDoor.Sl.cell_kept p3 hb; replace p4 := Go.Proofs.YtgfppajbegcaeaaDoor.Sl.cell_kept p4 hb; replace p5 := Go.Proofs.YtgfppajbegcaeaaDoor.Sl.cell_kept p5 hb; clear hb))
    go_ret
    exact ⟨rfl, hL⟩
  · obtain ⟨h2, hbW⟩ := mk_two2 w2 (a0, a1, a2) (a0, b1, b2)
    generalize ((w2.alloc (Obj.cells #[.int .i64 a0, .int .i64 a1, .string a2, .int .i64 a0, .int .i64 b1, .string b2] 32)).alloc (Obj.cells #[.string ⟨#[97]⟩, .string ⟨#[98]⟩] 9)).drew = W at h2 hbW ⊢
    generalize Value.slice (some ⟨w2.heap.size, 0, none⟩) 2 2 = sx at h2 ⊢
    generalize Value.slice (some ⟨w2.heap.size + 1, 0, none⟩) 2 2 = sy at h2 ⊢
    replace p0 := Go.Proofs.YtgfppajbegcaeaaDoor.Sl.cell_kept p0 hbW
    replace p1 := Go.Proofs.YtgfppajbegcaeaaDoor.Sl.cell_kept p1 hbW
    replace p2 := Go.Proofs.YtgfppajbegcaeaaDoor.Sl.cell_kept p2 hbW
    replace p3 := Go.Proofs.YtgfppajbegcaeaaDoor.Sl.cell_kept p3 hbW
    replace p4 := Go.Proofs.YtgfppajbegcaeaaDoor.Sl.cell_kept p4 hbW
    replace p5 := Go.Proofs.YtgfppajbegcaeaaDoor.Sl.cell_kept p5 hbW
    replace hL := bstep hL hbW
    clear hbW hl1 hl2
    go_wp2_with (first | (go_at_call 25; (with_reducible refine (H1 _ _ _ h2).mono ?_); rintro e w5 ⟨rfl, hb⟩; replace hL := bstep hL hb; replace h2 := h2.below hb; replace p0 := Go.Proofs.YtgfppajbegcaeaaDoor.Sl.cell_kept p0 hb; replace p1 := Go.Proofs.YtgfppajbegcaeaaDoor.Sl.cell_kept p1 hb; replace p2 := Go.Proofs.YtgfppajbegcaeaaDoor.Sl.cell_kept p2 hb; replace p3 := Go.Proofs.YtgfppajbegcaeaaDoor.Sl.cell_kept p3 hb; replace p4 := Go.Proofs.YtgfppajbegcaeaaDoor.Sl.cell_kept p4 hb; replace p5 := Go.Proofs.YtgfppajbegcaeaaDoor.Sl.cell_kept p5 hb; clear hb) | (go_at_call 25; (with_reducible refine (H2 _ _ _ h2).mono ?_); rintro e w5 ⟨rfl, hb⟩; replace hL := bstep hL hb; replace h2 := h2.below hb; replace p0 := Go.Proofs.YtgfppajbegcaeaaDoor.Sl.cell_kept p0 hb; replace p1 := Go.Proofs.YtgfppajbegcaeaaDoor.Sl.cell_kept p1 hb; replace p2 := Go.Proofs.YtgfppajbegcaeaaDoor.Sl.cell_kept p2 hb; replace p3 := Go.Proofs.YtgfppajbegcaeaaDoor.Sl.cell_kept p3 hb; replace p4 := Go.Proofs.YtgfppajbegcaeaaDoor.Sl.cell_kept p4 hb; replace p5 := Go.Proofs.YtgfppajbegcaeaaDoor.Sl.cell_kept p5 hb; clear hb) | (go_at_call 25; (with_reducible refine (H3 _ _ _ h2).mono ?_); rintro e w5 ⟨rfl, hb⟩; replace hL := bstep hL hb; replace h2 := h2.below hb; replace p0 := Go.Proofs.YtgfppajbegcaeaaDoor.Sl.cell_kept p0 hb; replace p1 := Go.Proofs.YtgfppajbegcaeaaDoor.Sl.cell_kept p1 hb; replace p2 := Go.Proofs.YtgfppajbegcaeaaDoor.Sl.cell_kept p2 hb; replace p3 := Go.Proofs.YtgfppajbegcaeaaDoor.Sl.cell_kept p3 hb; replace p4 := Go.Proofs.YtgfppajbegcaeaaDoor.Sl.cell_kept p4 hb; replace p5 := Go.Proofs.YtgfppajbegcaeaaDoor.Sl.cell_kept p5 hb; clear hb) | (go_at_call 25; (with_reducible refine (H4 _ _ _ h2).mono ?_); rintro e w5 ⟨rfl, hb⟩; replace hL := bstep hL hb; replace h2 := h2.below hb; replace p0 := Go.Proofs.YtgfppajbegcaeaaDoor.Sl.cell_kept p0 hb; replace p1 := Go.Proofs.YtgfppajbegcaeaaDoor.Sl.cell_kept p1 hb; replace p2 := Go.Proofs.YtgfppajbegcaeaaDoor.Sl.cell_kept p2 hb; replace p3 := Go.Proofs.YtgfppajbegcaeaaDoor.Sl.cell_kept p3 hb; replace p4 := Go.Proofs.YtgfppajbegcaeaaDoor.Sl.cell_kept p4 hb; replace p5 := Go.Proofs.YtgfppajbegcaeaaDoor.Sl.cell_kept p5 hb; clear hb) | (go_at_call 32; (with_reducible refine (HO _).mono ?_); rintro e w5 ⟨rfl, hb⟩; replace hL := bstep hL hb; replace h2 := h2.below hb; replace p0 := Go.Proofs.YtgfppajbegcaeaaDoor.Sl.cell_kept p0 hb; replace p1 := Go.Proofs.YtgfppajbegcaeaaDoor.Sl.cell_kept p1 hb; replace p2 := Go.Proofs.YtgfppajbegcaeaaDoor.Sl.cell_kept p2 hb; replace p3 := Go.Proofs.YtgfppajbegcaeaaDoor.Sl.cell_kept p3 hb; replace p4 := Go.Proofs.YtgfppajbegcaeaaDoor.Sl.cell_kept p4 hb; replace p5 := Go.Proofs.YtgfppajbegcaeaaDoor.Sl.cell_kept p5 hb; clear hb))
    go_ret
    exact ⟨rfl, hL⟩
set_option maxRecDepth 20000 in
theorem vc_bad (a0 a1 : Int) (a2 : ByteArray) (b0 b1 : Int) (b2 : ByteArray) (m : Int) (w : World) (hm : w.cell? ⟨0, 0, none⟩ = some (.int .i64 m)) (hva : validV (a0, a1, a2) = false) :
    Calls Tryd.prog 7 #[agV a0 a1 a2, agV b0 b1 b2] w fun e w' => e = .returned (.bool true) ∧ Below w.heap.size w w' := by
  have HW := fun (W : World) (h : Below w.heap.size w W) => awake_any m W (Go.Proofs.YtgfppajbegcaeaaDoor.Sl.cell_kept hm h)
  have HV1 := fun W => valid_any (a0, a1, a2) W
  rw [hva] at HV1
  go_enter Tryd.func7, Tryd.ntmps7
  go_wp2_with (first | (go_at_call 10; (first | (with_reducible refine (HW _ hL).mono ?_; rintro e w9 ⟨rfl, hb⟩; replace hL := bstep hL hb; clear hb) | (with_reducible refine (HW _ (by go_grown)).mono ?_; rintro e w1 ⟨rfl, hb⟩; obtain ⟨hL, p0, p1, p2, p3, p4, p5⟩ := two_box hb; clear hb))) | (go_at_call 21; (with_reducible refine (HV1 _).mono ?_); rintro e w2 ⟨rfl, hb⟩; replace hL := bstep hL hb; clear hb))
  go_ret
  exact ⟨rfl, hL⟩
set_option maxRecDepth 20000 in
theorem vc_bad2 (a0 a1 : Int) (a2 : ByteArray) (b0 b1 : Int) (b2 : ByteArray) (m : Int) (w : World) (hm : w.cell? ⟨0, 0, none⟩ = some (.int .i64 m)) (hva : validV (a0, a1, a2) = true) (hvb : validV (b0, b1, b2) = false) :
    Calls Tryd.prog 7 #[agV a0 a1 a2, agV b0 b1 b2] w fun e w' => e = .returned (.bool true) ∧ Below w.heap.size w w' := by
  have HW := fun (W : World) (h : Below w.heap.size w W) => awake_any m W (Go.Proofs.YtgfppajbegcaeaaDoor.Sl.cell_kept hm h)
  have HV1 := fun W => valid_any (a0, a1, a2) W
  have HV2 := fun W => valid_any (b0, b1, b2) W
  rw [hva] at HV1
  rw [hvb] at HV2
  go_enter Tryd.func7, Tryd.ntmps7
  go_wp2_with (first | (go_at_call 10; (first | (with_reducible refine (HW _ hL).mono ?_; rintro e w9 ⟨rfl, hb⟩; replace hL := bstep hL hb; clear hb) | (with_reducible refine (HW _ (by go_grown)).mono ?_; rintro e w1 ⟨rfl, hb⟩; obtain ⟨hL, p0, p1, p2, p3, p4, p5⟩ := two_box hb; clear hb))) | (go_at_call 21; (first | (with_reducible refine (HV1 _).mono ?_) | (with_reducible refine (HV2 _).mono ?_)); rintro e w2 ⟨rfl, hb⟩; replace hL := bstep hL hb; replace p0 := Go.Proofs.YtgfppajbegcaeaaDoor.Sl.cell_kept p0 hb; replace p1 := Go.Proofs.YtgfppajbegcaeaaDoor.Sl.cell_kept p1 hb; replace p2 := Go.Proofs.YtgfppajbegcaeaaDoor.Sl.cell_kept p2 hb; replace p3 := Go.Proofs.YtgfppajbegcaeaaDoor.Sl.cell_kept p3 hb; replace p4 := Go.Proofs.YtgfppajbegcaeaaDoor.Sl.cell_kept p4 hb; replace p5 := Go.Proofs.YtgfppajbegcaeaaDoor.Sl.cell_kept p5 hb; clear hb))
  go_ret
  exact ⟨rfl, hL⟩
theorem valueCompares_walk (a b : V3) (m : Int) (w : World) (hm : w.cell? ⟨0, 0, none⟩ = some (.int .i64 m)) (hga : GoodV a) (hgb : GoodV b) :
    Calls Tryd.prog 7 #[agV a.1 a.2.1 a.2.2, agV b.1 b.2.1 b.2.2] w fun e w' => e = .returned (.bool true) ∧ Below w.heap.size w w' := by
  obtain ⟨a0, a1, a2⟩ := a
  obtain ⟨b0, b1, b2⟩ := b
  show Calls Tryd.prog 7 #[agV a0 a1 a2, agV b0 b1 b2] w _
  cases hva : validV (a0, a1, a2)
  · exact vc_bad a0 a1 a2 b0 b1 b2 m w hm hva
  cases hvb : validV (b0, b1, b2)
  · exact vc_bad2 a0 a1 a2 b0 b1 b2 m w hm hva hvb
  have H1 := fun (W : World) (s1 s2 : Value) (h : Two W (a0, a1, a2) (b0, b1, b2) s1 s2) => two_hold W _ _ s1 s2 h 2 nA nB zeroV
  have H2 := fun (W : World) (s1 s2 : Value) (h : Two W (a0, a1, a2) (b0, b1, b2) s1 s2) => two_hold W _ _ s1 s2 h 1 nA nB zeroV
  have H3 := fun (W : World) (s1 s2 : Value) (h : Two W (a0, a1, a2) (b0, b1, b2) s1 s2) => two_hold W _ _ s1 s2 h 2 nB nA zeroV
  have H4 := fun (W : World) (s1 s2 : Value) (h : Two W (a0, a1, a2) (b0, b1, b2) s1 s2) => two_hold W _ _ s1 s2 h 1 nA ⟨#[]⟩ (b0, b1, b2)
  rw [hold_ab _ _ 2 (.inr rfl) hva hvb] at H1
  rw [hold_ab _ _ 1 (.inl rfl) hva hvb] at H2
  rw [hold_ba _ _ 2 (.inr rfl) hva hvb] at H3
  by_cases he : a0 = b0
  · have he2 : ((b0, b1, b2) : V3).1 = ((a0, a1, a2) : V3).1 := he.symm
    have he3 : ((a0, a1, a2) : V3).1 = ((b0, b1, b2) : V3).1 := he
    rw [if_pos he2] at H1 H2
    rw [if_pos he3] at H3
    rw [hold_own _ _ hva hvb he2] at H4
    have HO := fun W => compare_any (a0, a1, a2) (b0, b1, b2) W
    unfold cmpV at HO
    rw [hva, hvb, Bool.and_self, if_pos rfl] at HO
    rw [ordV_cmp.anti (a0, a1, a2) (b0, b1, b2)] at H3
    have hz := ordV_cmp.rng (a0, a1, a2) (b0, b1, b2)
    generalize ordV (a0, a1, a2) (b0, b1, b2) = z at H1 H2 H3 H4 HO hz
    rcases hz with rfl | rfl | rfl
    · exact vc_lt a0 a1 a2 b0 b1 b2 m w hm hva hvb he H1 H2 H3 H4 HO
    · exact vc_eq a0 a1 a2 b0 b1 b2 m w hm hva hvb he H1 H2 H3 H4 HO
    · exact vc_gt a0 a1 a2 b0 b1 b2 m w hm hva hvb he H1 H2 H3 H4 HO
  · rw [if_neg (show ¬ ((b0, b1, b2) : V3).1 = ((a0, a1, a2) : V3).1 from fun h => he h.symm)] at H1 H2
    rw [if_neg (show ¬ ((a0, a1, a2) : V3).1 = ((b0, b1, b2) : V3).1 from he)] at H3
    exact vc_diff a0 a1 a2 b0 b1 b2 m w hm hva hvb he H1 H2 H3
end Go.Proofs.YtgfppajbegcaeaaDoor.Va
