/-
  The walk of layer 33's examples (awake).
-/
import Derived.Test.YtgfppajbegcaeaaDoorVcK
import Derived.Test.YtgfppajbegcaeaaDoorVaH
set_option linter.unusedSimpArgs false
set_option linter.unusedVariables false
namespace Go.Proofs.YtgfppajbegcaeaaDoor.Va
open Go.RowKit Go.ChangeShapes Go.WideShapes Go.Proofs.YtgfppajbegcaeaaDoor.Sl Go.Lib

def tA : ByteArray := ⟨#[97, 34, 98]⟩
def tB : ByteArray := ⟨#[97, 92, 34, 98]⟩
def tC : ByteArray := ⟨#[34, 97, 92, 34, 98, 34]⟩
theorem rp1 (m : Int) (w : World) (hm : w.cell? ⟨0, 0, none⟩ = some (.int .i64 m)) : Calls Tryd.prog 58 #[.string tA, .string ⟨#[92]⟩, .string ⟨#[92, 92]⟩] w fun e w' => e = .returned (.string tA) ∧ Below w.heap.size w w' := by
  have h := Tryd.strings_ReplaceAll tA ⟨#[92]⟩ ⟨#[92, 92]⟩ m w (by decide) hm (by decide) (of_decide_eq_true (by kernel_rfl))
  rw [show (⟨(Lib.replaceAll tA.data.toList (ByteArray.mk #[92]).data.toList (ByteArray.mk #[92, 92]).data.toList).toArray⟩ : ByteArray) = tA by kernel_rfl] at h
  exact h
theorem rp2 (m : Int) (w : World) (hm : w.cell? ⟨0, 0, none⟩ = some (.int .i64 m)) : Calls Tryd.prog 58 #[.string tA, .string ⟨#[34]⟩, .string ⟨#[92, 34]⟩] w fun e w' => e = .returned (.string tB) ∧ Below w.heap.size w w' := by
  have h := Tryd.strings_ReplaceAll tA ⟨#[34]⟩ ⟨#[92, 34]⟩ m w (by decide) hm (by decide) (of_decide_eq_true (by kernel_rfl))
  rw [show (⟨(Lib.replaceAll tA.data.toList (ByteArray.mk #[34]).data.toList (ByteArray.mk #[92, 34]).data.toList).toArray⟩ : ByteArray) = tB by kernel_rfl] at h
  exact h
theorem cat1 (w : World) : (binOp .add 9 (.string ⟨#[34]⟩) (.string tB)).run Tryd.prog w = .ok (.string ⟨#[34, 97, 92, 34, 98]⟩) w := by kernel_rfl
theorem cat2 (w : World) : (binOp .add 9 (.string ⟨#[34, 97, 92, 34, 98]⟩) (.string ⟨#[34]⟩)).run Tryd.prog w = .ok (.string tC) w := by kernel_rfl
set_option maxRecDepth 20000 in
theorem text_awake (m : Int) (w : World) (hm : w.cell? ⟨0, 0, none⟩ = some (.int .i64 m)) : Calls Tryd.prog 38 #[.agg #[.int .i64 2, .int .i64 0, .string tA]] w fun e w' => e = .returned (.string tC) ∧ Below w.heap.size w w' := by
  have HV := fun W => valid_any (2, 0, tA) W
  rw [show validV (2, 0, tA) = true by kernel_rfl] at HV
  have k1 := cat1
  have k2 := cat2
  have hbx : ∀ w1 : World, Below (w.alloc (.cells #[.int .i64 2, .int .i64 0, .string tA] 32)).heap.size (w.alloc (.cells #[.int .i64 2, .int .i64 0, .string tA] 32)) w1 → w1.cell? ⟨w.heap.size, 0, none⟩ = some (.int .i64 2) ∧ w1.cell? ⟨w.heap.size, 2, none⟩ = some (.string tA) := fun w1 hb => ⟨Go.Proofs.YtgfppajbegcaeaaDoor.Sl.cell_kept (box_cell (box_new w _ _) 0 _ rfl) hb, Go.Proofs.YtgfppajbegcaeaaDoor.Sl.cell_kept (box_cell (box_new w _ _) 2 _ rfl) hb⟩
  go_enter Tryd.func38, Tryd.ntmps38
  go_wp2_with (first | (go_at_call 21; (with_reducible refine (HV _).mono ?_); rintro e w1 ⟨rfl, hb⟩; obtain ⟨c0, c2⟩ := hbx _ hb; have hL : Below w.heap.size w w1 := bstep (by go_grown) hb; clear hb) | (go_at_call 58; (first | (with_reducible refine (rp1 m _ (Go.Proofs.YtgfppajbegcaeaaDoor.Sl.cell_kept hm hL)).mono ?_; rintro e w2 ⟨rfl, hb2⟩; have hL2 := bstep hL hb2) | (with_reducible refine (rp2 m _ (Go.Proofs.YtgfppajbegcaeaaDoor.Sl.cell_kept hm hL2)).mono ?_; rintro e w3 ⟨rfl, hb3⟩))))
  go_ret
  exact ⟨rfl, bstep hL2 hb3⟩
def exL : List V3 := [(1, -1, ⟨#[]⟩)]
def exE : List UInt8 := [1, 127, 255, 255, 255, 255, 255, 255, 255]
theorem ex_enc : encL exL = exE := by kernel_rfl
theorem ex1 (W : World) (H : Nat) (h0 : W.cell? ⟨H, 0, none⟩ = some (.int .i64 1)) (h1 : W.cell? ⟨H, 1, none⟩ = some (.int .i64 (-1))) (h2 : W.cell? ⟨H, 2, none⟩ = some (.string ⟨#[]⟩)) :
    Calls Tryd.prog 14 #[.slice (some ⟨H, 0, none⟩) 1 1] W fun e w' => ∃ v, e = .returned (.tuple #[v, .int .i64 0]) ∧ Sl w' v 9 1 (bcs exE) ∧ Below W.heap.size W w' := by
  refine (encode_any exL _ W (by decide) (fun v hv => ?_) (by kernel_rfl) (Sl.mk rfl fun j u hu => ?_)).mono ?_
  · rcases List.mem_singleton.1 hv with rfl
    exact ⟨by decide, by decide⟩
  · match j, hu with
    | 0, hu => cases hu; exact h0
    | 1, hu => cases hu; exact h1
    | 2, hu => cases hu; exact h2
    | n + 3, hu => cases hu
  · rintro e w' ⟨v, rfl, hB⟩
    rw [ex_enc] at hB
    exact ⟨v, rfl, hB.sl, hB.2⟩
def cn2 : CN := .mk 2 ⟨#[120]⟩ ⟨#[]⟩ (1, 3, ⟨#[]⟩) []
def cnE : CN := .mk 4 ⟨#[]⟩ ⟨#[]⟩ zeroV [cn2]
theorem ex_holds : holdsC cnE [⟨#[120]⟩] [(1, 3, ⟨#[]⟩)] = (true, 0) := by kernel_rfl
theorem ex2 (W : World) (H H2 H3 : Nat) (h0 : W.cell? ⟨H, 0, none⟩ = some (.int .i64 2)) (h1 : W.cell? ⟨H, 1, none⟩ = some (.string ⟨#[120]⟩)) (h2 : W.cell? ⟨H, 2, none⟩ = some (.string ⟨#[]⟩)) (h3 : W.cell? ⟨H, 3, none⟩ = some (.int .i64 1)) (h4 : W.cell? ⟨H, 4, none⟩ = some (.int .i64 3)) (h5 : W.cell? ⟨H, 5, none⟩ = some (.string ⟨#[]⟩)) (h6 : W.cell? ⟨H, 6, none⟩ = some (.slice none 0 0))
    (g0 : W.cell? ⟨H2, 0, none⟩ = some (.string ⟨#[120]⟩)) (f0 : W.cell? ⟨H3, 0, none⟩ = some (.int .i64 1)) (f1 : W.cell? ⟨H3, 1, none⟩ = some (.int .i64 3)) (f2 : W.cell? ⟨H3, 2, none⟩ = some (.string ⟨#[]⟩)) :
    Calls Tryd.prog 25 #[.agg #[.int .i64 4, .string ⟨#[]⟩, .string ⟨#[]⟩, .int .i64 0, .int .i64 0, .string ⟨#[]⟩, .slice (some ⟨H, 0, none⟩) 1 1], .slice (some ⟨H2, 0, none⟩) 1 1, .slice (some ⟨H3, 0, none⟩) 1 1] W fun e w' => e = .returned (.tuple #[.bool true, .int .i64 0]) ∧ Below W.heap.size W w' := by
  have k2 : CnAt W [.int .i64 2, .string ⟨#[120]⟩, .string ⟨#[]⟩, .int .i64 1, .int .i64 3, .string ⟨#[]⟩, .slice none 0 0] cn2 := by
    unfold cn2
    rw [CnAt]
    exact ⟨.slice none 0 0, rfl, [], Sl.mk0 _ _ _ _, by rw [RowsAt]; trivial⟩
  have k4 : CnAt W [.int .i64 4, .string ⟨#[]⟩, .string ⟨#[]⟩, .int .i64 0, .int .i64 0, .string ⟨#[]⟩, .slice (some ⟨H, 0, none⟩) 1 1] cnE := by
    unfold cnE
    rw [CnAt]
    refine ⟨.slice (some ⟨H, 0, none⟩) 1 1, rfl, [[.int .i64 2, .string ⟨#[120]⟩, .string ⟨#[]⟩, .int .i64 1, .int .i64 3, .string ⟨#[]⟩, .slice none 0 0]], Sl.mk rfl fun j u hu => ?_, ?_⟩
    · rw [Nat.zero_add]
      match j, hu with
      | 0, hu => cases hu; exact h0
      | 1, hu => cases hu; exact h1
      | 2, hu => cases hu; exact h2
      | 3, hu => cases hu; exact h3
      | 4, hu => cases hu; exact h4
      | 5, hu => cases hu; exact h5
      | 6, hu => cases hu; exact h6
      | n + 7, hu => cases hu
    · rw [RowsAt]
      exact ⟨k2, by rw [RowsAt]; trivial⟩
  have h := holds_any cnE _ [⟨#[120]⟩] [(1, 3, ⟨#[]⟩)] (.slice (some ⟨H2, 0, none⟩) 1 1) (.slice (some ⟨H3, 0, none⟩) 1 1) W k4 (Sl.mk rfl fun j u hu => by
    match j, hu with
    | 0, hu => cases hu; exact g0
    | n + 1, hu => cases hu) (Sl.mk rfl fun j u hu => by
    match j, hu with
    | 0, hu => cases hu; exact f0
    | 1, hu => cases hu; exact f1
    | 2, hu => cases hu; exact f2
    | n + 3, hu => cases hu)
  rw [ex_holds] at h
  exact h
abbrev bxL : Obj := .cells #[.int .i64 2, .string ⟨#[120]⟩, .string ⟨#[]⟩, .int .i64 1, .int .i64 3, .string ⟨#[]⟩, .slice none 0 0] 46
theorem ex2w (w1 : World) : Calls Tryd.prog 25 #[.agg #[.int .i64 4, .string ⟨#[]⟩, .string ⟨#[]⟩, .int .i64 0, .int .i64 0, .string ⟨#[]⟩, .slice (some ⟨w1.heap.size + 1, 0, none⟩) 1 1], .slice (some ⟨w1.heap.size + 1 + 1, 0, none⟩) 1 1, .slice (some ⟨w1.heap.size + 1 + 1 + 1, 0, none⟩) 1 1]
    ((((w1.alloc (.cells #[.int .i64 2, .string ⟨#[120]⟩, .string ⟨#[]⟩, .int .i64 1, .int .i64 3, .string ⟨#[]⟩, .slice none 0 0] 46)).alloc (.cells #[.int .i64 2, .string ⟨#[120]⟩, .string ⟨#[]⟩, .int .i64 1, .int .i64 3, .string ⟨#[]⟩, .slice none 0 0] 46)).alloc (.cells #[.string ⟨#[120]⟩] 9)).alloc (.cells #[.int .i64 1, .int .i64 3, .string ⟨#[]⟩] 32))
    fun e w' => e = .returned (.tuple #[.bool true, .int .i64 0]) ∧ Below w1.heap.size w1 w' := by
  obtain ⟨a, ha⟩ : ∃ a, a = w1.alloc bxL := ⟨_, rfl⟩
  obtain ⟨b, hb⟩ : ∃ b, b = a.alloc bxL := ⟨_, rfl⟩
  obtain ⟨c, hc⟩ : ∃ c, c = b.alloc (.cells #[.string ⟨#[120]⟩] 9) := ⟨_, rfl⟩
  obtain ⟨d, hd⟩ : ∃ d, d = c.alloc (.cells #[.int .i64 1, .int .i64 3, .string ⟨#[]⟩] 32) := ⟨_, rfl⟩
  rw [← ha, ← hb, ← hc, ← hd]
  have za : a.heap.size = w1.heap.size + 1 := by rw [ha]; simp
  have zb : b.heap.size = w1.heap.size + 1 + 1 := by rw [hb]; simp [za]
  have zc : c.heap.size = w1.heap.size + 1 + 1 + 1 := by rw [hc]; simp [zb]
  have bb : ∀ j u, #[.int .i64 2, .string ⟨#[120]⟩, .string ⟨#[]⟩, .int .i64 1, .int .i64 3, .string ⟨#[]⟩, .slice none 0 0][j]? = some u → d.cell? ⟨w1.heap.size + 1, j, none⟩ = some u := fun j u hu => by
    rw [← za, hd, hc]
    exact cell_alloc (cell_alloc (by rw [hb]; exact box_cell (box_new a _ _) j u hu) _) _
  have bc : d.cell? ⟨w1.heap.size + 1 + 1, 0, none⟩ = some (.string ⟨#[120]⟩) := by
    rw [← zb, hd]
    exact cell_alloc (by rw [hc]; exact box_cell (box_new b _ _) 0 _ rfl) _
  have bd : ∀ j u, #[.int .i64 1, .int .i64 3, .string ⟨#[]⟩][j]? = some u → d.cell? ⟨w1.heap.size + 1 + 1 + 1, j, none⟩ = some u := fun j u hu => by
    rw [← zc, hd]
    exact box_cell (box_new c _ _) j u hu
  refine (ex2 d _ _ _ (bb 0 _ rfl) (bb 1 _ rfl) (bb 2 _ rfl) (bb 3 _ rfl) (bb 4 _ rfl) (bb 5 _ rfl) (bb 6 _ rfl) bc (bd 0 _ rfl) (bd 1 _ rfl) (bd 2 _ rfl)).mono fun e w' ⟨h1, h2⟩ => ⟨h1, bstep ?_ h2⟩
  have h3 : Below w1.heap.size w1 a := by rw [ha]; exact (Below.refl _ _).alloc (Nat.le_refl _) _
  have h4 : Below w1.heap.size w1 b := by rw [hb]; exact h3.alloc h3.size _
  have h5 : Below w1.heap.size w1 c := by rw [hc]; exact h4.alloc h4.size _
  rw [hd]
  exact h5.alloc h5.size _
theorem ex3 (W : World) (v : Value) (H : Nat) (hv : Sl W v 9 1 (bcs exE)) (hH : W.heap[H]? = some (Obj.cells #[.int .u8 1, .int .u8 127, .int .u8 255, .int .u8 255, .int .u8 255, .int .u8 255, .int .u8 255, .int .u8 255, .int .u8 255] 5 (0, 0))) :
    Calls Tryd.prog 16 #[v, .slice (some ⟨H, 0, none⟩) 9 9] W fun e w' => e = .returned (.bool true) ∧ Below W.heap.size W w' := by
  have h := bequal_any exE exE v (.slice (some ⟨H, 0, none⟩) 9 9) W (by decide) (by decide) hv (Sl.mk rfl fun j u hu => by
    rw [Nat.zero_add]
    exact box_cell hH j u (by rw [← Array.getElem?_toList]; exact hu))
  rw [decide_eq_true rfl] at h
  exact h
set_option maxRecDepth 20000 in
set_option maxHeartbeats 1000000 in
theorem awake_any (m : Int) (w : World) (hm : w.cell? ⟨0, 0, none⟩ = some (.int .i64 m)) : Calls Tryd.prog 10 #[] w fun e w' => e = .returned (.bool true) ∧ Below w.heap.size w w' := by
  have eA : (⟨#[97, 34, 98]⟩ : ByteArray) = tA := rfl
  have eC : (⟨#[34, 97, 92, 34, 98, 34]⟩ : ByteArray) = tC := rfl
  have hq : ∀ w : World, (binOp .eql 9 (.string tC) (.string tC)).run Tryd.prog w = .ok (.bool true) w := fun w => str_eq tC w
  go_enter Tryd.func10, Tryd.ntmps10
  go_upto_region 2 with (go_at_call 14; (with_reducible refine (ex1 _ _ (by simp) (by simp) (by simp)).mono ?_); rintro e w1 ⟨v, rfl, hv, hb⟩; have hL : Below w.heap.size w w1 := bstep (by go_grown) hb; clear hb)
  go_upto_region 4 with (go_at_call 25; (with_reducible refine (ex2w _).mono ?_); rintro e w2 ⟨rfl, hL1⟩)
  replace hv := hv.below hL1
  replace hL := bstep hL hL1
  clear hL1
  go_wp2_with (first | (go_at_call 16; (with_reducible refine (ex3 _ _ _ (hv.below (by go_grown)) (heap_alloc_new _ _)).mono ?_); rintro e w3 ⟨rfl, hb⟩; have hL2 : Below w.heap.size w w3 := bstep hL (bstep (by go_grown) hb); clear hb) | (go_at_call 38; (with_reducible refine (text_awake m _ (Go.Proofs.YtgfppajbegcaeaaDoor.Sl.cell_kept hm hL2)).mono ?_); rintro e w4 ⟨rfl, hb⟩; have hL3 := bstep hL2 hb; clear hb))
  go_ret
  exact ⟨rfl, hL3⟩
end Go.Proofs.YtgfppajbegcaeaaDoor.Va
