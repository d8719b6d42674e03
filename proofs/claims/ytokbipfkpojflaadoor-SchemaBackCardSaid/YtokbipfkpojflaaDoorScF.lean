/-
  The walk of fits (layer 34).
-/
import Derived.Test.YtokbipfkpojflaaDoorScX
import Derived.Lib.QuietBelow
import Derived.Deep.Cut
set_option linter.unusedSimpArgs false
set_option linter.unusedVariables false
namespace Go.Proofs.YtokbipfkpojflaaDoor.Sc
open Go Go.RowKit Go.ChangeShapes Go.WideShapes Go.Proofs.YtokbipfkpojflaaDoor.Sl Go.Proofs.YtokbipfkpojflaaDoor.Va Go.Lib

theorem box3n {w W : World} {a0 a1 a2 a3 b0 b1 d0 d1 d2 d3 : Value} {t1 t2 t3 : TypeId} (h : ((w.alloc (.cells #[a0, a1, a2, a3] t1)).alloc (.cells #[b0, b1] t2)).alloc (.cells #[d0, d1, d2, d3] t3) = W) :
    Below w.heap.size w W ∧ w.heap.size + 2 < W.heap.size ∧ (W.cell? ⟨w.heap.size, 0, none⟩ = some a0 ∧ W.cell? ⟨w.heap.size, 1, none⟩ = some a1 ∧ W.cell? ⟨w.heap.size, 2, none⟩ = some a2 ∧ W.cell? ⟨w.heap.size, 3, none⟩ = some a3) ∧
      (W.cell? ⟨w.heap.size + 1, 0, none⟩ = some b0 ∧ W.cell? ⟨w.heap.size + 1, 1, none⟩ = some b1) ∧
      (W.cell? ⟨w.heap.size + 2, 0, none⟩ = some d0 ∧ W.cell? ⟨w.heap.size + 2, 1, none⟩ = some d1 ∧ W.cell? ⟨w.heap.size + 2, 2, none⟩ = some d2 ∧ W.cell? ⟨w.heap.size + 2, 3, none⟩ = some d3) := by
  have s1 : (w.alloc (.cells #[a0, a1, a2, a3] t1)).heap.size = w.heap.size + 1 := by simp
  have s2 : ((w.alloc (.cells #[a0, a1, a2, a3] t1)).alloc (.cells #[b0, b1] t2)).heap.size = w.heap.size + 2 := by simp
  have l1 := (Below.refl _ w).alloc (Nat.le_refl _) (.cells #[a0, a1, a2, a3] t1)
  have l2 := (Below.refl _ (w.alloc (.cells #[a0, a1, a2, a3] t1))).alloc (Nat.le_refl _) (.cells #[b0, b1] t2)
  have l3 := (Below.refl _ ((w.alloc (.cells #[a0, a1, a2, a3] t1)).alloc (.cells #[b0, b1] t2))).alloc (Nat.le_refl _) (.cells #[d0, d1, d2, d3] t3)
  have k1 : ∀ j u, #[a0, a1, a2, a3][j]? = some u → W.cell? ⟨w.heap.size, j, none⟩ = some u := fun j u hu => h ▸ cell_kept (cell_kept (bx_at w _ _ j u hu) l2) l3
  have k2 : ∀ j u, #[b0, b1][j]? = some u → W.cell? ⟨w.heap.size + 1, j, none⟩ = some u := fun j u hu => by
    have := bx_at (w.alloc (.cells #[a0, a1, a2, a3] t1)) #[b0, b1] t2 j u hu
    rw [s1] at this
    exact h ▸ cell_kept this l3
  have k3 : ∀ j u, #[d0, d1, d2, d3][j]? = some u → W.cell? ⟨w.heap.size + 2, j, none⟩ = some u := fun j u hu => by
    have := bx_at ((w.alloc (.cells #[a0, a1, a2, a3] t1)).alloc (.cells #[b0, b1] t2)) #[d0, d1, d2, d3] t3 j u hu
    rw [s2] at this
    exact h ▸ this
  exact ⟨h ▸ bstep (bstep l1 l2) l3, h ▸ by simp, ⟨k1 0 _ rfl, k1 1 _ rfl, k1 2 _ rfl, k1 3 _ rfl⟩, ⟨k2 0 _ rfl, k2 1 _ rfl⟩, ⟨k3 0 _ rfl, k3 1 _ rfl, k3 2 _ rfl, k3 3 _ rfl⟩⟩
theorem fitK_step (cols tt : List Cl) (l : List ByteArray) (i : Nat) (c : ByteArray) (h : l[i]? = some c) : fitK cols tt i (l.drop i) = (decide (kdAt cols (idxC c 0 cols) = kdAt tt i) && fitK cols tt (i + 1) (l.drop (i + 1))) := by
  have hk : i < l.length := (List.getElem?_eq_some_iff.1 h).1
  rw [List.drop_eq_getElem_cons hk, fitK, (List.getElem?_eq_some_iff.1 h).2]
theorem kdAt_at (l : List Cl) (k : Nat) (x : Cl) (h : l[k]? = some x) : kdAt l (k : Int) = x.2 := by
  unfold kdAt
  rw [Int.toNat_natCast, h]; rfl
set_option maxRecDepth 20000 in
theorem fits_len (sn tn tab : ByteArray) (sk tk : Int) (a1 a2 a3 a4 a5 : Option Addr) (n1 n2 n3 n4 q c1 c2 c3 c4 c5 : Nat) (w : World) (h : ¬ (q : Int) = tk) :
    Calls Tryd.prog 59 #[agS sn (.slice a1 n1 c1) sk (.slice a2 n2 c2), .agg #[.slice a5 q c5, .string tab], agS tn (.slice a3 n3 c3) tk (.slice a4 n4 c4)] w fun e w' => e = .returned (.bool false) ∧ Below w.heap.size w w' := by
  have h2 : ((q : Int) != tk) = true := by simpa using h
  go_enter Tryd.func59, Tryd.ntmps59
  go_wp2
  go_ret
  exact ⟨rfl, by go_grown⟩
set_option maxRecDepth 20000 in
set_option maxHeartbeats 1000000 in
theorem fits_go (sn tn tab : ByteArray) (sk : Int) (a1 a2 a3 a4 a5 : Option Addr) (n1 n2 n3 n4 q c1 c2 c3 c4 c5 : Nat) (w : World) (sl tl : List Cl) (fc : List ByteArray) (hn1 : n1 = sl.length) (hn3 : n3 = tl.length) (hq : q = fc.length)
    (h1 : Cs w (.slice a1 n1 c1) sl) (h3 : Cs w (.slice a3 n3 c3) tl) (h5 : Ss w (.slice a5 q c5) fc) (hq3 : q ≤ n3) (hn1b : n1 ≤ 1000000) (hqb : q ≤ 1000000) (hf : ∀ c ∈ fc, 0 ≤ idxC c 0 sl) :
    Calls Tryd.prog 59 #[agS sn (.slice a1 n1 c1) sk (.slice a2 n2 c2), .agg #[.slice a5 q c5, .string tab], agS tn (.slice a3 n3 c3) (q : Int) (.slice a4 n4 c4)] w fun e w' => e = .returned (.bool (fitK sl tl 0 fc)) ∧ Below w.heap.size w w' := by
  have HCL := fun x W (h : Below w.heap.size w W) => column_any sn sk (.slice a2 n2 c2) sl (.slice a1 n1 c1) x W (by omega) (h1.below h)
  have H1 := Lib.hid (hn1 ▸ h1)
  have H3 := Lib.hid (hn3 ▸ h3)
  have H5 := Lib.hid (hq ▸ h5)
  have HN1 := Lib.hid hn1
  have HN3 := Lib.hid hn3
  have HQ := Lib.hid hq
  have HF := Lib.hid hf
  obtain ⟨Z, hZ⟩ : ∃ Z, fitK sl tl 0 fc = Z := ⟨_, rfl⟩
  have HZ := Lib.hid hZ
  rw [hZ]
  clear h1 h3 h5 hn1 hn3 hq hf hZ
  go_enter Tryd.func59, Tryd.ntmps59
  go_upto_region 1 with fail
  obtain ⟨W0, hW⟩ : ∃ W0, ((w.alloc (.cells #[.string sn, .slice a1 n1 c1, .int .i64 sk, .slice a2 n2 c2] 25)).alloc (.cells #[.slice a5 q c5, .string tab] 50)).alloc (.cells #[.string tn, .slice a3 n3 c3, .int .i64 q, .slice a4 n4 c4] 25) = W0 := ⟨_, rfl⟩
  obtain ⟨hL, hlt, ⟨p0, p1, p2, p3⟩, ⟨u0, u1⟩, v0, v1, v2, v3⟩ := box3n hW
  rw [hW]
  clear hW
  go_wp2
  go_loopw [7, 8, 18] (fun _ _ i wr => ∃ k : Nat, k ≤ q ∧ i = .int .i64 k ∧ Hid (fitK sl tl k (fc.drop k) = Z) ∧ Below W0.heap.size W0 wr) (fun _ _ i _ => q - (intOf i).toNat)
  case atStart => exact ⟨0, Nat.zero_le _, rfl, Lib.hid HZ.out, Below.refl _ _⟩
  case round =>
    obtain ⟨k, hk, rfl, HI, hR⟩ := hrel
    by_cases hlt2 : k < q
    · obtain ⟨x, hx⟩ : ∃ t, fc[k]? = some t := ⟨_, List.getElem?_eq_getElem (by rw [← HQ.out]; exact hlt2)⟩
      have hz0 := HF.out x (List.mem_of_getElem? hx)
      have hzl : idxC x 0 sl < sl.length := by
        rcases idxC_ge x sl 0 with h | h
        · omega
        · have := h.2; omega
      obtain ⟨z, hz⟩ : ∃ z : Nat, idxC x 0 sl = z := ⟨(idxC x 0 sl).toNat, by omega⟩
      obtain ⟨⟨sa, sb⟩, hs⟩ : ∃ t, sl[z]? = some t := ⟨_, List.getElem?_eq_getElem (by omega)⟩
      obtain ⟨⟨ta, tb⟩, ht⟩ : ∃ t, tl[k]? = some t := ⟨_, List.getElem?_eq_getElem (by have := HN3.out; omega)⟩
      obtain ⟨g1, o1, cp1, e1, hc1⟩ := H1.out.open (by have := HN1.out; omega)
      simp only [Value.slice.injEq] at e1
      obtain ⟨rfl, _, rfl⟩ := e1
      obtain ⟨g3, o3, cp3, e3, hc3⟩ := H3.out.open (by have := HN3.out; omega)
      simp only [Value.slice.injEq] at e3
      obtain ⟨rfl, _, rfl⟩ := e3
      obtain ⟨g5, o5, cp5, e5, hc5⟩ := H5.out.1.open (by have := HQ.out; omega)
      simp only [Value.slice.injEq] at e5
      obtain ⟨rfl, _, rfl⟩ := e5
      have hw := bstep hL hR
      have x0 := cell_kept (ss_get hc5 hx) hw
      have y0 := cell_kept (cs_get hc1 hs).2 hw
      have z0 := cell_kept (cs_get hc3 ht).2 hw
      have hst := fitK_step sl tl fc k x hx
      rw [HI.out, kdAt_at tl k _ ht, hz, kdAt_at sl z _ hs] at hst
      dsimp only at hst
      have HCI := fun W (h : Below w.heap.size w W) => HCL x W h
      rw [hz] at HCI
      have j0 : (0 : Int) ≤ (k : Int) := by omega
      have j1 : (k : Int) < (q : Int) := by omega
      have j2 : (k : Int) < (n3 : Int) := by omega
      have j3 : (0 : Int) ≤ (z : Int) := by omega
      have j4 : (z : Int) < (n1 : Int) := by have := HN1.out; omega
      clear hx hs ht hc1 hc3 hc5 hz hz0 hzl
      have HST := Lib.hid hst
      clear hst
      go_upto_region 6 with fail
      have g0 := cell_regrown (cell_kept p0 hR)
      have g1' := cell_regrown (cell_kept p1 hR)
      have g2 := cell_regrown (cell_kept p2 hR)
      have g3' := cell_regrown (cell_kept p3 hR)
      have g4 := cell_regrown (cell_kept v1 hR)
      have g5' := cell_regrown y0
      have g6 := cell_regrown z0
      by_cases he : sb = tb
      · have HS := Lib.hid (show fitK sl tl (k + 1) (fc.drop (k + 1)) = Z by rw [HST.out, decide_eq_true he, Bool.true_and])
        subst he
        refine wp_region_quiet_below (by kernel_rfl) (by kernel_rfl) ?_
        repeat (go_big_quiet_step (first | (go_at_call 25; with_reducible exact Calls.regrown_of (HCI _ (bstep hw (below_regrown _ _ _))))))
        refine wpQuiet_nil ?_
        intro _ hw9
        obtain ⟨⟨dq, osq⟩, hw9⟩ := hw9
        subst hw9
        have hL2 := bstep hR (below_regrown wr dq osq)
        go_wp2
        go_roundw
        case rel => exact ⟨k + 1, by omega, by go_num, HS, hL2⟩
        case measure => simp [intOf]; omega
      · have HS := Lib.hid (show false = Z by rw [HST.out, decide_eq_false he]; rfl)
        have he2 : (sb != tb) = true := by simpa using he
        refine wp_region_quiet_below (by kernel_rfl) (by kernel_rfl) ?_
        repeat (go_big_quiet_step (first | (go_at_call 25; with_reducible exact Calls.regrown_of (HCI _ (bstep hw (below_regrown _ _ _))))))
        refine wpQuiet_nil ?_
        intro _ hw9
        obtain ⟨⟨dq, osq⟩, hw9⟩ := hw9
        subst hw9
        have hL2 := bstep hw (below_regrown wr dq osq)
        go_wp2
        go_ret
        exact ⟨by rw [← HS.out]; rfl, hL2⟩
    · go_wp2
      go_ret
      exact ⟨by show Ending.returned (.bool true) = _; rw [← HI.out, List.drop_of_length_le (by rw [← HQ.out]; omega)]; rfl, bstep hL hR⟩
end Go.Proofs.YtokbipfkpojflaaDoor.Sc
