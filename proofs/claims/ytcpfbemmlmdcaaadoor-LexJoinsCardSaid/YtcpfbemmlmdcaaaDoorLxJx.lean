/-
  The walk of the law LexJoins where both texts are in order.
-/
import Derived.Test.YtcpfbemmlmdcaaaDoorLxJw
set_option linter.unusedSimpArgs false
set_option linter.unusedVariables false
namespace Go.Proofs.YtcpfbemmlmdcaaaDoor.Lx
open Go.RowKit Go.ChangeShapes Go.WideShapes Go.Proofs.YtcpfbemmlmdcaaaDoor.Sl

theorem lines_ne (s : ByteArray) (L : List (List Tok)) (p : Nat × Nat) (h : linesR s = (L, p, 0)) : ∀ l ∈ L, l ≠ [] := by
  obtain ⟨idx, h1, h2, _⟩ := linesR_places s L p h
  intro l hl
  obtain ⟨j, hj, e⟩ := List.mem_iff_getElem.1 hl
  exact (h2 j _ l (List.getElem?_eq_getElem (by omega)) (by rw [List.getElem?_eq_getElem hj, e])).1
def replT (a : ByteArray) : ByteArray := ⟨(Lib.replaceAll ((⟨#[32]⟩ : ByteArray) ++ a ++ ⟨#[32, 35, 32, 99, 111, 109, 109, 101, 110, 116]⟩).data.toList [32] [9, 32]).toArray⟩
theorem replT_list (a : ByteArray) : (replT a).data.toList = repL 32 [9, 32] (32 :: (a.data.toList ++ [32, 35, 32, 99, 111, 109, 109, 101, 110, 116])) := by
  unfold replT
  show (Lib.replaceAll _ _ _).toArray.toList = _
  rw [replaceAll_one 32 [9, 32] _ (by decide)]
  simp
theorem repl_is (a R : ByteArray) (m : Int) (w : World) (hR : R = replT a) (ha : a.size ≤ 2000) (hm : w.cell? ⟨0, 0, none⟩ = some (.int .i64 m)) :
    Calls Tryd.prog 39 #[.string ((⟨#[32]⟩ : ByteArray) ++ a ++ ⟨#[32, 35, 32, 99, 111, 109, 109, 101, 110, 116]⟩), .string ⟨#[32]⟩, .string ⟨#[9, 32]⟩] w fun e w' => e = .returned (.string R) ∧ Below w.heap.size w w' := by
  have hs : ((⟨#[32]⟩ : ByteArray) ++ a ++ ⟨#[32, 35, 32, 99, 111, 109, 109, 101, 110, 116]⟩).size ≤ 2020 := by
    rw [ByteArray.size_append, ByteArray.size_append]
    show 1 + a.size + 10 ≤ 2020
    omega
  have hle := Lib.countB_le ⟨#[32]⟩ (by show 1 ≤ 1; omega) _ ((⟨#[32]⟩ : ByteArray) ++ a ++ ⟨#[32, 35, 32, 99, 111, 109, 109, 101, 110, 116]⟩) (Nat.le_refl _)
  have hd : Lib.countB ((⟨#[32]⟩ : ByteArray) ++ a ++ ⟨#[32, 35, 32, 99, 111, 109, 109, 101, 110, 116]⟩) ⟨#[32]⟩ ≤ 3000 := by omega
  refine (Tryd.strings_ReplaceAll _ ⟨#[32]⟩ ⟨#[9, 32]⟩ m w (by omega) hm (by show 1 ≤ 1; omega) ?_).mono ?_
  · show _ + _ * 2 ≤ _
    omega
  · rintro e w' ⟨rfl, hb⟩
    exact ⟨by rw [hR]; rfl, hb⟩
theorem own_one {B : Nat} {w : World} {e : TypeId} {size : Nat} {v : Value} {n : Nat} {xs : List Value} (h : w.ownsRow B e size v n xs) : v.oneCell' = true := by
  rcases h.2 with ⟨rfl, _⟩ | ⟨g, cap, cur, rfl, _⟩
  · rfl
  · rfl
theorem OutS.one {W w : World} {v : Value} {acc : List (List ByteArray)} {hs : List Value} (hl : hs.length = acc.length)
    (h : ∀ (j : Nat) (h : Value) (l : List ByteArray), hs[j]? = some h → acc[j]? = some l → w.ownsRow W.heap.size 9 1 h l.length (l.map Value.string) ∧ (h.ownBlock = none ∨ h.ownBlock ≠ v.ownBlock)) : ∀ u ∈ hs, u.oneCell' = true := by
  intro u hu
  obtain ⟨j, hj, e⟩ := List.mem_iff_getElem.1 hu
  exact own_one (h j u _ (by rw [List.getElem?_eq_getElem hj, e]) (List.getElem?_eq_getElem (by omega))).1
/-- The texts of one list behind another's, in the appended slice. -/
theorem joinTs {A B w w' : World} {u v : Value} {S T : List (List ByteArray)} {hs1 hs2 : List Value} {g cap : Nat}
    (o1 : w.ownsRow A.heap.size 46 1 u S.length hs1)
    (o2 : ∀ (j : Nat) (h : Value) (l : List ByteArray), hs1[j]? = some h → S[j]? = some l → w.ownsRow A.heap.size 9 1 h l.length (l.map Value.string) ∧ (h.ownBlock = none ∨ h.ownBlock ≠ u.ownBlock))
    (hu : ∀ k, u.ownBlock = some k → k < B.heap.size) (hl2 : hs2.length = T.length)
    (r2 : ∀ (j : Nat) (h : Value) (l : List ByteArray), hs2[j]? = some h → T[j]? = some l → w.ownsRow B.heap.size 9 1 h l.length (l.map Value.string) ∧ (h.ownBlock = none ∨ h.ownBlock ≠ v.ownBlock))
    (hown : w'.ownsRow A.heap.size 46 1 (.slice (some ⟨g, 0, none⟩) (S.length + T.length) cap) (S.length + T.length) (hs1 ++ hs2)) (hg : w.grownBy w' u.ownBlock) :
    Ts w' (.slice (some ⟨g, 0, none⟩) (S.length + T.length) cap) (S ++ T) := by
  have hl1 : hs1.length = S.length := by have := o1.1; omega
  refine ⟨hs1 ++ hs2, by rw [List.length_append]; exact Sl.of_owns hown, fun j x l hx hl => ?_⟩
  by_cases hj : j < S.length
  · rw [List.getElem?_append_left (by omega)] at hx
    rw [List.getElem?_append_left hj] at hl
    obtain ⟨h1, h2⟩ := o2 j x l hx hl
    exact Sl.of_owns (h1.kept hg h2)
  · rw [List.getElem?_append_right (by omega), hl1] at hx
    rw [List.getElem?_append_right (by omega)] at hl
    obtain ⟨h1, _⟩ := r2 _ x l hx hl
    refine Sl.of_owns (h1.kept hg ?_)
    by_cases hn : x.ownBlock = none
    · exact .inl hn
    · right
      intro e
      cases hb : x.ownBlock with
      | none => exact hn hb
      | some k =>
        have a := (h1.lt k hb).1
        have b := hu k (by rw [← e, hb])
        omega

set_option maxRecDepth 100000 in
set_option maxHeartbeats 2000000 in
theorem joins_ok (a b : ByteArray) (X Y Z C : List (List Tok)) (p1 q1 p2 q2 p3 q3 p4 q4 : Nat) (m : Int) (w : World) (hm : w.cell? ⟨0, 0, none⟩ = some (.int .i64 m)) (ha : a.size ≤ 2000) (hb : b.size ≤ 2000)
    (h1 : linesR a = (X, (p1, q1), 0)) (h2 : linesR b = (Y, (p2, q2), 0)) (h3 : linesR (a ++ ⟨#[10]⟩ ++ b) = (Z, (p3, q3), 0)) (R : ByteArray) (h4 : linesR R = (C, (p4, q4), 0)) (hR : R = replT a) (hJ : txs Z = txs X ++ txs Y) (hC : txs C = txs X) (hY : Y ≠ []) :
    Calls Tryd.prog 9 #[.string a, .string b] w fun e w' => e = .returned (.bool true) ∧ Below w.heap.size w w' := by
  obtain ⟨z1, z2⟩ := ab_size a b ha hb
  have sX := Lib.hid (show Short X by have := linesR_short a; rw [h1] at this; exact this)
  have sY := Lib.hid (show Short Y by have := linesR_short b; rw [h2] at this; exact this)
  have sZ := Lib.hid (show Short Z by have := linesR_short (a ++ ⟨#[10]⟩ ++ b); rw [h3] at this; exact this)
  have sC := Lib.hid (show Short C by have := linesR_short R; rw [h4] at this; exact this)
  have nX := Lib.hid (lines_ne a X _ h1)
  have nY := Lib.hid (lines_ne b Y _ h2)
  have nZ := Lib.hid (lines_ne _ Z _ h3)
  have nC := Lib.hid (lines_ne R C _ h4)
  have HJ := Lib.hid hJ
  have HCC := Lib.hid hC
  have HZ4 := Lib.hid h4
  have HRR := Lib.hid hR
  clear hJ hC h4 hR
  have HZ1 := Lib.hid h1
  have HZ2 := Lib.hid h2
  have HZ3 := Lib.hid h3
  clear h1 h2 h3
  go_enter Tryd.func9, Tryd.ntmps9
  go_upto_region 6 with (first | (go_at_call 11; ((with_reducible refine (awake_any m _ hm).mono ?_); rintro e w1 ⟨rfl, hb⟩; (first | (replace hL := bstep hL hb) | (have hL := hb)); clear hb; replace hc := bcell hL)) | (go_at_call 20; with_reducible refine (lines_is a X p1 q1 0 m _ (cell_kept hm (by go_grown)) HZ1.out).mono ?_; rintro e w1 ⟨v1, rfl, hv1, hb⟩; replace hL := bstep hL hb; clear hb))
  have p0 := pos_new w1 p1 q1 38
  have hl1 : w1.heap.size < (w1.alloc (.cells #[.int .i64 p1, .int .i64 q1] 38)).heap.size := by simp
  replace hv1 := hv1.below (w' := w1.alloc (.cells #[.int .i64 p1, .int .i64 q1] 38)) ((Below.refl _ _).alloc (Nat.le_refl _) _)
  replace hL := hL.alloc hL.size (.cells #[.int .i64 p1, .int .i64 q1] 38)
  obtain ⟨W1, hW1⟩ : ∃ W, W = w1.alloc (.cells #[.int .i64 p1, .int .i64 q1] 38) := ⟨_, rfl⟩
  rw [← hW1] at p0 hl1 hv1 hL ⊢
  clear hW1
  go_upto_region 7 with (go_at_call 20; with_reducible refine (lines_is b Y p2 q2 0 m _ (cell_kept hm hL) HZ2.out).mono ?_; rintro e w2 ⟨v2, rfl, hv2, hb2⟩)
  have d0 := cell_kept p0.1 hb2
  have d1 := cell_kept p0.2.1 hb2
  have hl12 : w1.heap.size < w2.heap.size := block_of_cell d0
  replace hv1 := (hv1.below hb2).below (w' := w2.alloc (.cells #[.int .i64 p2, .int .i64 q2] 38)) ((Below.refl _ _).alloc (Nat.le_refl _) _)
  replace hv2 := hv2.below (w' := w2.alloc (.cells #[.int .i64 p2, .int .i64 q2] 38)) ((Below.refl _ _).alloc (Nat.le_refl _) _)
  replace hL := bstep hL hb2
  replace hL := hL.alloc hL.size (.cells #[.int .i64 p2, .int .i64 q2] 38)
  replace d0 := cell_kept d0 ((Below.refl _ _).alloc (Nat.le_refl _) (.cells #[.int .i64 p2, .int .i64 q2] 38))
  replace d1 := cell_kept d1 ((Below.refl _ _).alloc (Nat.le_refl _) (.cells #[.int .i64 p2, .int .i64 q2] 38))
  obtain ⟨W2, hW2⟩ : ∃ W, W = w2.alloc (.cells #[.int .i64 p2, .int .i64 q2] 38) := ⟨_, rfl⟩
  rw [← hW2] at d0 d1 hv1 hv2 hL ⊢
  clear hW2 p0 hb2 hl1 hl12
  go_upto_region 8 with (go_at_call 20; with_reducible refine (lines_is (a ++ ⟨#[10]⟩ ++ b) Z p3 q3 0 m _ (cell_kept hm hL) HZ3.out).mono ?_; rintro e w3 ⟨v3, rfl, hv3, hb3⟩)
  replace d0 := cell_kept d0 hb3
  replace d1 := cell_kept d1 hb3
  have hl13 : w1.heap.size < w3.heap.size := block_of_cell d0
  have g0 := pos_new w3 p3 q3 38
  replace hv1 := (hv1.below hb3).below (w' := w3.alloc (.cells #[.int .i64 p3, .int .i64 q3] 38)) ((Below.refl _ _).alloc (Nat.le_refl _) _)
  replace hv2 := (hv2.below hb3).below (w' := w3.alloc (.cells #[.int .i64 p3, .int .i64 q3] 38)) ((Below.refl _ _).alloc (Nat.le_refl _) _)
  replace hv3 := hv3.below (w' := w3.alloc (.cells #[.int .i64 p3, .int .i64 q3] 38)) ((Below.refl _ _).alloc (Nat.le_refl _) _)
  replace hL := bstep hL hb3
  replace hL := hL.alloc hL.size (.cells #[.int .i64 p3, .int .i64 q3] 38)
  replace d0 := cell_kept d0 ((Below.refl _ _).alloc (Nat.le_refl _) (.cells #[.int .i64 p3, .int .i64 q3] 38))
  replace d1 := cell_kept d1 ((Below.refl _ _).alloc (Nat.le_refl _) (.cells #[.int .i64 p3, .int .i64 q3] 38))
  obtain ⟨W3, hW3⟩ : ∃ W, W = w3.alloc (.cells #[.int .i64 p3, .int .i64 q3] 38) := ⟨_, rfl⟩
  rw [← hW3] at d0 d1 g0 hv1 hv2 hv3 hL ⊢
  clear hW3 hb3
  obtain ⟨g0, g1, _, _⟩ := g0
  go_wp2_with fail
  with_reducible refine (texts_any Z v3 _ sZ.out nZ.out hv3).mono ?_
  rintro e x1 ⟨u3, rfl, hu3, hb1⟩
  replace hv1 := hv1.below hb1
  replace hv2 := hv2.below hb1
  replace hL := bstep hL hb1
  have HU3 := Lib.hid hu3.ts
  have hv1a := Lib.hid hv1
  have hLa := Lib.hid hL
  clear hu3 hb1 hv3 d0 d1 g0 g1
  go_wp2_with fail
  with_reducible refine (texts_any X v1 _ sX.out nX.out hv1).mono ?_
  rintro e x2 ⟨u1, rfl, hu1, hb1⟩
  replace hv1 := hv1.below hb1
  replace hv2 := hv2.below hb1
  replace hL := bstep hL hb1
  have hB1 := hb1
  have hx12 := hb1.size
  clear hb1
  go_wp2_with fail
  with_reducible refine (texts_any Y v2 _ sY.out nY.out hv2).mono ?_
  rintro e x3 ⟨u2, rfl, hu2, hb1⟩
  replace hv1 := hv1.below hb1
  replace hL := bstep hL hb1
  have hu1b := hu1.below hb1
  have hx23 := hb1.size
  replace hB1 := hB1.trans (hb1.mono hx12)
  obtain ⟨hs1, o1, o2⟩ := hu1b
  obtain ⟨hs2, r1, r2⟩ := hu2
  have hYl : 0 < (txs Y).length := by unfold txs; rw [List.length_map]; exact List.length_pos_iff.2 hY
  obtain ⟨gy, capy, hu2', hgy, _⟩ := r1.form hYl
  subst hu2'
  have hub : ∀ k, u1.ownBlock = some k → k < x2.heap.size := by
    obtain ⟨hs1', o1', _⟩ := hu1
    exact fun k hk => (o1'.lt k hk).2
  have hxl : (txs X).length ≤ 70000 := by unfold txs; rw [List.length_map]; exact sX.out.1
  have hyl : (txs Y).length ≤ 70000 := by unfold txs; rw [List.length_map]; exact sY.out.1
  have hl2 : hs2.length = (txs Y).length := by have := r1.1; omega
  have hone := OutS.one hl2 r2
  have hnews : ∀ j u, hs2[j]? = some u → x3.cell? ((⟨gy, 0, none⟩ : Addr).add j) = some u := fun j u hu => World.ownsRow.cells r1 rfl j u hu
  have hbase : x1.heap.size ≤ x3.heap.size := by omega
  obtain ⟨nx, hnx⟩ : ∃ n, n = (txs X).length := ⟨_, rfl⟩
  obtain ⟨ny, hny⟩ : ∃ n, n = (txs Y).length := ⟨_, rfl⟩
  have HNX := Lib.hid hnx
  have HNY := Lib.hid hny
  have O1 := Lib.hid (show x3.ownsRow x1.heap.size 46 1 u1 nx hs1 by rw [hnx]; exact o1)
  have O2 := Lib.hid o2
  have R2 := Lib.hid r2
  have HL2 := Lib.hid (show hs2.length = ny * 1 by rw [hny]; omega)
  have HONE := Lib.hid hone
  have HNEW := Lib.hid hnews
  have HUB := Lib.hid hub
  rw [← hnx] at hxl
  rw [← hny] at hyl hYl
  have HY := Lib.hid hYl
  obtain ⟨y3, hy3⟩ : ∃ y, y = Value.slice (some ⟨gy, 0, none⟩) (txs Y).length capy := ⟨_, rfl⟩
  rw [← hy3]
  rw [← hny] at hy3
  subst hy3
  clear o1 o2 r1 r2 hl2 hone hnews hub hnx hny hu1 hv1 hL hb1
  obtain ⟨ii, hi, hz0, hz1, hz2⟩ := info_parts info_strss
  go_wp2_with (at_builtin; refine wpList_step (fun K2 hK2 => ?_); rw [if_pos (by rfl)]; (refine wp_append_lies _ (.tmp 69) (.tmp 71) 53 (by rfl) x1.heap.size 46 ii _ 1 24 Tryd.underlying53 hi hz0 hz1 hz2 rfl (by decide) u1 nx hs1 (by rfl) O1.out ⟨gy, 0, none⟩ ny capy hs2 (by rfl) HL2.out HNEW.out HONE.out HY.out (by unfold maxLen; omega) (by omega) hbase x3.heap.size rfl ?_); intro g cap x4 hown hgr hG hlt4; refine hK2 _ _ ?_)
  have hB4 := grow_step hB1 hgr (fun k hk => (O1.out.lt k hk).1)
  have T3 := HU3.out.below hB4
  have hv4 := hv1a.out.below hB4
  have hL4 := bstep hLa.out hB4
  have TJ := joinTs (v := .slice (some ⟨gy, 0, none⟩) (txs Y).length capy) (by rw [← HNX.out]; exact O1.out) O2.out HUB.out (by rw [HL2.out, HNY.out]; omega) R2.out (by rw [← HNX.out, ← HNY.out]; exact hown) hgr
  rw [← HNX.out, ← HNY.out, ← HJ.out] at TJ
  clear hown hgr hG hlt4
  have z4 : ((⟨#[32]⟩ : ByteArray) ++ a).size ≤ 2001 := by rw [ByteArray.size_append]; show 1 + a.size ≤ 2001; omega
  with_reducible refine (eqS1_any (txs Z) u3 _ _ (txs_short Z sZ.out) T3 TJ).mono ?_
  rintro e x5 ⟨rfl, hb5⟩
  have hL5 := bstep hL4 hb5
  have hv5 := hv4.below hb5
  clear T3 TJ
  go_wp2_with fail
  with_reducible refine (repl_is a R m _ HRR.out ha (cell_kept hm hL5)).mono ?_
  rintro e x6 ⟨rfl, hb6⟩
  have hL6 := bstep hL5 hb6
  have hv6 := hv5.below hb6
  go_wp2_with fail
  with_reducible refine (lines_is R C p4 q4 0 m _ (cell_kept hm hL6) HZ4.out).mono ?_
  rintro e x7 ⟨v4, rfl, hvc, hb7⟩
  have hL7 := bstep hL6 hb7
  have hv7 := (hv6.below hb7).below (w' := x7.alloc (.cells #[.int .i64 p4, .int .i64 q4] 38)) ((Below.refl _ _).alloc (Nat.le_refl _) _)
  have hvc2 := hvc.below (w' := x7.alloc (.cells #[.int .i64 p4, .int .i64 q4] 38)) ((Below.refl _ _).alloc (Nat.le_refl _) _)
  have hL8 := hL7.alloc hL7.size (.cells #[.int .i64 p4, .int .i64 q4] 38)
  clear hb5 hb6 hb7 hvc hv5 hv6 hv4
  go_wp2_with fail
  with_reducible refine (texts_any C v4 _ sC.out nC.out hvc2).mono ?_
  rintro e x9 ⟨u4, rfl, hu4, hb9⟩
  have hL9 := bstep hL8 hb9
  have hv9 := hv7.below hb9
  have T4 := hu4.ts
  clear hu4 hb9 hv7 hvc2
  go_wp2_with fail
  with_reducible refine (texts_any X v1 _ sX.out nX.out hv9).mono ?_
  rintro e y1 ⟨u5, rfl, hu5, hb1⟩
  have hL10 := bstep hL9 hb1
  have T5 := hu5.ts
  replace T4 := T4.below hb1
  rw [← HCC.out] at T5
  clear hu5 hb1
  go_wp2_with fail
  with_reducible refine (eqS2_any (txs C) u4 _ _ (txs_short C sC.out) T4 T5).mono ?_
  rintro e y2 ⟨rfl, hb2⟩
  have hL11 := bstep hL10 hb2
  go_wp2
  go_ret
  exact ⟨rfl, hL11⟩
end Go.Proofs.YtcpfbemmlmdcaaaDoor.Lx
