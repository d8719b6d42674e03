/-
  The walks of the reference's Column, foreign, Valid and Find (layer 34).
-/
import Derived.Test.YtokbipfkpojflaaScX
import Derived.Lib.QuietBelow
import Derived.Deep.Cut
set_option linter.unusedSimpArgs false
set_option linter.unusedVariables false
namespace Go.Proofs.Ytokbipfkpojflaa.Sc
open Go Go.RowKit Go.ChangeShapes Go.WideShapes Go.Proofs.Ytokbipfkpojflaa.Sl Go.Proofs.Ytokbipfkpojflaa.Va Go.Lib

set_option maxRecDepth 20000 in
set_option maxHeartbeats 1000000 in
theorem rcolumn_any (sn : ByteArray) (key : Int) (a2 : Option Addr) (n2 c2 : Nat) (l : List Cl) (a1 : Option Addr) (n c1 : Nat) (x : ByteArray) (w : World) (hn : n = l.length) (hl : n ≤ 1000000) (hs : Cs w (.slice a1 n c1) l) : Calls Try.prog 34 #[.agg #[.string sn, .slice a1 n c1, .int .i64 key, .slice a2 n2 c2], .string x] w fun e w' => e = .returned (.int .i64 (idxC x 0 l)) ∧ Below w.heap.size w w' := by
  have HN := Lib.hid hn
  have HS := Lib.hid hs
  obtain ⟨Z, hZ⟩ : ∃ Z, idxC x 0 l = Z := ⟨_, rfl⟩
  have HZ := Lib.hid hZ
  rw [hZ]
  clear hs hn hZ
  go_enter Try.func34, Try.ntmps34
  go_upto_region 1 with fail
  obtain ⟨W0, hW⟩ : ∃ W0, w.alloc (.cells #[.string sn, .slice a1 n c1, .int .i64 key, .slice a2 n2 c2] 28) = W0 := ⟨_, rfl⟩
  obtain ⟨hL, hlt, p0, p1, p2, p3⟩ := box4n hW
  rw [hW]
  clear hW
  go_wp2
  go_loop [5] (fun i => ∃ k : Nat, k ≤ n ∧ i = .int .i64 k ∧ Hid (idxC x k (l.drop k) = Z)) (fun i => n - (intOf i).toNat)
  case atStart => exact ⟨0, Nat.zero_le _, rfl, Lib.hid (by simpa using HZ.out)⟩
  case round =>
    obtain ⟨k, hk, rfl, HI⟩ := hrel
    by_cases hlt2 : k < n
    · obtain ⟨g, off, cp, e1, hc⟩ := (HN.out ▸ HS.out : Cs w (.slice a1 l.length c1) l).open (by rw [← HN.out]; omega)
      simp only [Value.slice.injEq] at e1
      obtain ⟨rfl, _, rfl⟩ := e1
      obtain ⟨⟨a, b⟩, ht⟩ : ∃ t, l[k]? = some t := ⟨_, List.getElem?_eq_getElem (by rw [← HN.out]; exact hlt2)⟩
      obtain ⟨z0, z1⟩ := cs_get hc ht
      have d0 := Go.Proofs.Ytokbipfkpojflaa.Sl.cell_kept z0 hL
      have hst := idxC_step x l k _ ht
      rw [HI.out] at hst
      dsimp only at hst
      have k0 : (0 : Int) ≤ (k : Int) := by omega
      have k1 : (k : Int) < (n : Int) := by omega
      clear z0 z1 hc ht
      by_cases he : a = x
      · have HS2 := Lib.hid (show Z = k by rw [hst, if_pos he])
        have hb : (a.toList == x.toList) = true := (Lib.bytes_beq_iff a x).2 he
        clear hst he
        go_wp2
        go_ret
        exact ⟨by rw [HS2.out]; rfl, hL⟩
      · have HS2 := Lib.hid (show idxC x (k + 1) (l.drop (k + 1)) = Z by rw [hst, if_neg he])
        have hb : (a.toList == x.toList) = false := (Lib.bytes_beq_false_iff a x).2 he
        clear hst he
        go_wp2
        go_round
        case rel => exact ⟨k + 1, by omega, by go_num, HS2⟩
        case measure => simp [intOf]; omega
    · go_wp2
      go_ret
      exact ⟨by show Ending.returned (.int .i64 (-1)) = _; rw [← HI.out, List.drop_of_length_le (by rw [← HN.out]; omega)]; rfl, hL⟩
set_option maxRecDepth 20000 in
set_option maxHeartbeats 1000000 in
theorem rfind_any (l : List Sch) (a1 : Option Addr) (n c1 : Nat) (x : ByteArray) (w : World) (hn : n = l.length) (hl : n ≤ 1000000) (hs : LsAt w (.slice a1 n c1) l) : Calls Try.prog 32 #[.slice a1 n c1, .string x] w fun e w' => e = .returned (.int .i64 (fndS x 0 l)) ∧ w = w' := by
  have HN := Lib.hid hn
  have HS := Lib.hid hs
  obtain ⟨Z, hZ⟩ : ∃ Z, fndS x 0 l = Z := ⟨_, rfl⟩
  have HZ := Lib.hid hZ
  rw [hZ]
  clear hs hn hZ
  go_enter Try.func32, Try.ntmps32
  go_wp2
  go_loop [5] (fun i => ∃ k : Nat, k ≤ n ∧ i = .int .i64 k ∧ Hid (fndS x k (l.drop k) = Z)) (fun i => n - (intOf i).toNat)
  case atStart => exact ⟨0, Nat.zero_le _, rfl, Lib.hid (by simpa using HZ.out)⟩
  case round =>
    obtain ⟨k, hk, rfl, HI⟩ := hrel
    by_cases hlt2 : k < n
    · obtain ⟨g, off, cp, e1, hc⟩ := ls_get (HN.out ▸ HS.out) (by rw [← HN.out]; omega)
      simp only [Value.slice.injEq] at e1
      obtain ⟨rfl, _, rfl⟩ := e1
      obtain ⟨y, ht⟩ : ∃ t, l[k]? = some t := ⟨_, List.getElem?_eq_getElem (by rw [← HN.out]; exact hlt2)⟩
      obtain ⟨b1, d1, b2, d2, _, _, z0, _⟩ := hc k y ht
      have hst := fndS_step x l k _ ht
      rw [HI.out] at hst
      have k0 : (0 : Int) ≤ (k : Int) := by omega
      have k1 : (k : Int) < (n : Int) := by omega
      generalize y.name = a at z0 hst
      clear hc ht
      by_cases he : a = x
      · have HS2 := Lib.hid (show Z = k by rw [hst, if_pos he])
        have hb : (a.toList == x.toList) = true := (Lib.bytes_beq_iff a x).2 he
        clear hst he
        go_wp2
        go_ret
        exact ⟨by rw [HS2.out]; rfl, rfl⟩
      · have HS2 := Lib.hid (show fndS x (k + 1) (l.drop (k + 1)) = Z by rw [hst, if_neg he])
        have hb : (a.toList == x.toList) = false := (Lib.bytes_beq_false_iff a x).2 he
        clear hst he
        go_wp2
        go_round
        case rel => exact ⟨k + 1, by omega, by go_num, HS2⟩
        case measure => simp [intOf]; omega
    · go_wp2
      go_ret
      exact ⟨by show Ending.returned (.int .i64 (-1)) = _; rw [← HI.out, List.drop_of_length_le (by rw [← HN.out]; omega)]; rfl, rfl⟩
/-- What the reference's foreign says of the columns. -/
def rfrG (cols : List Cl) : List ByteArray → List ByteArray → Bool
  | _, [] => true
  | seen, c :: l => decide (0 ≤ idxC c 0 cols) && !Lib.containsS seen c && rfrG cols (seen ++ [c]) l
def rfrB (cols : List Cl) (f : Fr) : Bool := nmB f.tab && decide (1 ≤ f.cols.length) && decide (f.cols.length ≤ 8) && rfrG cols [] f.cols
theorem rfrG_step (cols : List Cl) (l : List ByteArray) (i : Nat) (s : ByteArray) (h : l[i]? = some s) : rfrG cols (l.take i) (l.drop i) = (decide (0 ≤ idxC s 0 cols) && !Lib.containsS (l.take i) s && rfrG cols (l.take (i + 1)) (l.drop (i + 1))) := by
  have hk : i < l.length := (List.getElem?_eq_some_iff.1 h).1
  have e := (List.getElem?_eq_some_iff.1 h).2
  rw [List.drop_eq_getElem_cons hk, rfrG, e, List.take_add_one, h]
  rfl
theorem has_step (l : List ByteArray) (j : Nat) (t s : ByteArray) (h : l[j]? = some t) : Lib.containsS (l.take (j + 1)) s = (Lib.containsS (l.take j) s || decide (t = s)) := by
  have key : ∀ zs : List ByteArray, Lib.containsS zs s = true ↔ s ∈ zs := fun zs => by
    unfold Lib.containsS
    rw [decide_eq_true_eq]
    exact Lib.idxOfS_nonneg_iff zs s
  rw [Bool.eq_iff_iff, Bool.or_eq_true, key, key, decide_eq_true_eq, List.take_add_one, h]
  simp only [List.mem_append, Option.toList_some, List.mem_singleton]
  exact or_congr Iff.rfl ⟨fun e => e.symm, fun e => e.symm⟩
theorem box42 {w W : World} {a0 a1 a2 a3 b0 b1 : Value} {t1 t2 : TypeId} (h : (w.alloc (.cells #[a0, a1, a2, a3] t1)).alloc (.cells #[b0, b1] t2) = W) :
    Below w.heap.size w W ∧ w.heap.size + 1 < W.heap.size ∧ (W.cell? ⟨w.heap.size, 0, none⟩ = some a0 ∧ W.cell? ⟨w.heap.size, 1, none⟩ = some a1 ∧ W.cell? ⟨w.heap.size, 2, none⟩ = some a2 ∧ W.cell? ⟨w.heap.size, 3, none⟩ = some a3) ∧ W.cell? ⟨w.heap.size + 1, 0, none⟩ = some b0 ∧ W.cell? ⟨w.heap.size + 1, 1, none⟩ = some b1 := by
  have s1 : (w.alloc (.cells #[a0, a1, a2, a3] t1)).heap.size = w.heap.size + 1 := by simp
  have l1 := (Below.refl _ w).alloc (Nat.le_refl _) (.cells #[a0, a1, a2, a3] t1)
  have l2 := (Below.refl _ (w.alloc (.cells #[a0, a1, a2, a3] t1))).alloc (Nat.le_refl _) (.cells #[b0, b1] t2)
  have k1 : ∀ j u, #[a0, a1, a2, a3][j]? = some u → W.cell? ⟨w.heap.size, j, none⟩ = some u := fun j u hu => h ▸ Go.Proofs.Ytokbipfkpojflaa.Sl.cell_kept (bx_at w _ _ j u hu) l2
  have k2 : ∀ j u, #[b0, b1][j]? = some u → W.cell? ⟨w.heap.size + 1, j, none⟩ = some u := fun j u hu => by
    have := bx_at (w.alloc (.cells #[a0, a1, a2, a3] t1)) #[b0, b1] t2 j u hu
    rw [s1] at this
    exact h ▸ this
  exact ⟨h ▸ bstep l1 l2, h ▸ by simp, ⟨k1 0 _ rfl, k1 1 _ rfl, k1 2 _ rfl, k1 3 _ rfl⟩, k2 0 _ rfl, k2 1 _ rfl⟩
theorem has_mem (l : List ByteArray) (q k : Nat) (x : ByteArray) (hq : q < k) (h : l[q]? = some x) : Lib.containsS (l.take k) x = true := by
  unfold Lib.containsS
  rw [decide_eq_true_eq]
  refine (Lib.idxOfS_nonneg_iff _ x).2 (List.mem_iff_getElem?.2 ⟨q, ?_⟩)
  rw [List.getElem?_take, if_pos hq]
  exact h
theorem has_nil (s : ByteArray) : Lib.containsS [] s = false := rfl
set_option maxRecDepth 20000 in
set_option maxHeartbeats 2000000 in
theorem rforeign_any (sn : ByteArray) (key : Int) (a2 : Option Addr) (n2 c2 : Nat) (cl : List Cl) (a1 : Option Addr) (n c1 : Nat) (fl : List ByteArray) (tab : ByteArray) (a3 : Option Addr) (m c3 : Nat) (w : World) (hn : n = cl.length) (hl : n ≤ 1000000) (hs : Cs w (.slice a1 n c1) cl) (hm : m = fl.length) (hf : Ss w (.slice a3 m c3) fl) :
    Calls Try.prog 48 #[.agg #[.string sn, .slice a1 n c1, .int .i64 key, .slice a2 n2 c2], .agg #[.slice a3 m c3, .string tab]] w fun e w' => e = .returned (.bool (rfrB cl ⟨fl, tab⟩)) ∧ Below w.heap.size w w' := by
  have HNM := fun W => rname_is tab W
  have HCL := fun x W (h : Below w.heap.size w W) => rcolumn_any sn key a2 n2 c2 cl a1 n c1 x W hn hl (hs.below h)
  have HM := Lib.hid hm
  have HF := Lib.hid hf
  obtain ⟨Z, hZ⟩ : ∃ Z, rfrG cl [] fl = Z := ⟨_, rfl⟩
  have HZ := Lib.hid hZ
  unfold rfrB
  dsimp only
  rw [hZ, ← hm]
  clear hs hn hZ hm hf
  generalize nmB tab = nb at HNM ⊢
  obtain ⟨RR, hRR⟩ : ∃ RR, (nb && decide (1 ≤ m) && decide (m ≤ 8) && Z) = RR := ⟨_, rfl⟩
  rw [hRR]
  have HRR := Lib.hid hRR
  clear hRR
  go_enter Try.func48, Try.ntmps48
  go_upto_region 1 with fail
  obtain ⟨W0, hW⟩ : ∃ W0, (w.alloc (.cells #[.string sn, .slice a1 n c1, .int .i64 key, .slice a2 n2 c2] 28)).alloc (.cells #[.slice a3 m c3, .string tab] 55) = W0 := ⟨_, rfl⟩
  obtain ⟨hL, hlt, ⟨p0, p1, p2, p3⟩, u0, u1⟩ := box42 hW
  rw [hW]
  clear hW
  generalize w.heap.size + 1 = B3 at u0 u1 hlt ⊢
  cases nb
  · go_wp2_with (go_at_call 47; (with_reducible refine (HNM _).mono ?_); rintro e w1 ⟨rfl, rfl⟩)
    go_ret
    exact ⟨by rw [← HRR.out]; rfl, hL⟩
  · by_cases q1 : (m : Int) < 1
    · have HE := Lib.hid (show RR = false by rw [← HRR.out, decide_eq_false (show ¬ 1 ≤ m by omega)]; rfl)
      go_wp2_with (go_at_call 47; (with_reducible refine (HNM _).mono ?_); rintro e w1 ⟨rfl, rfl⟩)
      go_ret
      exact ⟨by rw [HE.out]; rfl, hL⟩
    · by_cases q2 : (8 : Int) < (m : Int)
      · have HE := Lib.hid (show RR = false by rw [← HRR.out, decide_eq_false (show ¬ m ≤ 8 by omega)]; simp)
        go_wp2_with (go_at_call 47; (with_reducible refine (HNM _).mono ?_); rintro e w1 ⟨rfl, rfl⟩)
        go_ret
        exact ⟨by rw [HE.out]; rfl, hL⟩
      · have HEZ := Lib.hid (show RR = Z by rw [← HRR.out, decide_eq_true (show 1 ≤ m by omega), decide_eq_true (show m ≤ 8 by omega)]; rfl)
        go_upto_region 3 with (go_at_call 47; (with_reducible refine (HNM _).mono ?_); rintro e w1 ⟨rfl, rfl⟩)
        go_wp2
        go_loopw [5] (fun i wr => ∃ k : Nat, k ≤ m ∧ i = .int .i64 k ∧ Hid (rfrG cl (fl.take k) (fl.drop k) = Z) ∧ Below W0.heap.size W0 wr) (fun i _ => m - (intOf i).toNat)
        case atStart => exact ⟨0, Nat.zero_le _, rfl, Lib.hid HZ.out, Below.refl _ _⟩
        case round =>
          obtain ⟨k, hk, rfl, HI, hR⟩ := hrel
          have r0 := Go.Proofs.Ytokbipfkpojflaa.Sl.cell_kept p0 hR
          have r1 := Go.Proofs.Ytokbipfkpojflaa.Sl.cell_kept p1 hR
          have r2 := Go.Proofs.Ytokbipfkpojflaa.Sl.cell_kept p2 hR
          have r3 := Go.Proofs.Ytokbipfkpojflaa.Sl.cell_kept p3 hR
          have v0 := Go.Proofs.Ytokbipfkpojflaa.Sl.cell_kept u0 hR
          by_cases hlt2 : k < m
          · obtain ⟨x, hx⟩ : ∃ t, fl[k]? = some t := ⟨_, List.getElem?_eq_getElem (by rw [← HM.out]; exact hlt2)⟩
            obtain ⟨g5, o5, cp5, e5, hc5⟩ := (HM.out ▸ HF.out : Ss w (.slice a3 fl.length c3) fl).1.open (by have := HM.out; omega)
            simp only [Value.slice.injEq] at e5
            obtain ⟨rfl, _, rfl⟩ := e5
            have hw := bstep hL hR
            have x0 := Go.Proofs.Ytokbipfkpojflaa.Sl.cell_kept (ss_get hc5 hx) hw
            have HC5 := Lib.hid hc5
            have HX := Lib.hid hx
            have hst := rfrG_step cl fl k x hx
            rw [HI.out] at hst
            have HCI := fun W (h : Below w.heap.size w W) => HCL x W h
            have j0 : (0 : Int) ≤ (k : Int) := by omega
            have j1 : (k : Int) < (m : Int) := by omega
            clear hx hc5
            have HST := Lib.hid hst
            clear hst
            go_upto_region 6 with fail
            have g0 := cell_regrown r0
            have g1 := cell_regrown r1
            have g2 := cell_regrown r2
            have g3 := cell_regrown r3
            have g4 := cell_regrown v0
            have g6 := cell_regrown x0
            obtain ⟨z, hz⟩ : ∃ z, idxC x 0 cl = z := ⟨_, rfl⟩
            rw [hz] at HCI HST
            clear hz
            by_cases hzn : z < 0
            · have HS := Lib.hid (show Z = false by rw [HST.out, decide_eq_false (by omega)]; rfl)
              refine wp_region_quiet_below (by kernel_rfl) (by kernel_rfl) ?_
              repeat (go_big_quiet_step (first | (go_at_call 34; with_reducible exact Calls.regrown_of (HCI _ (bstep hw (below_regrown _ _ _))))))
              refine wpQuiet_nil ?_
              intro _ hw9
              obtain ⟨⟨dq, osq⟩, hw9⟩ := hw9
              subst hw9
              have hL2 := bstep hR (below_regrown wr dq osq)
              go_wp2
              go_ret
              exact ⟨by rw [HEZ.out, HS.out]; rfl, bstep hL hL2⟩
            · have HS := Lib.hid (show (!Lib.containsS (fl.take k) x && rfrG cl (fl.take (k + 1)) (fl.drop (k + 1))) = Z by rw [HST.out, decide_eq_true (by omega), Bool.true_and])
              refine wp_region_quiet_below (by kernel_rfl) (by kernel_rfl) ?_
              repeat (go_big_quiet_step (first | (go_at_call 34; with_reducible exact Calls.regrown_of (HCI _ (bstep hw (below_regrown _ _ _))))))
              refine wpQuiet_nil ?_
              intro _ hw9
              obtain ⟨⟨dq, osq⟩, hw9⟩ := hw9
              subst hw9
              have hL2 := bstep hR (below_regrown wr dq osq)
              clear g0 g1 g2 g3 g4 g6 r0 r1 r2 r3 v0 x0 hw hR HST HCI HI
              generalize Go.Sort.grow (redrawn wr dq) osq = Wq at hL2 ⊢
              go_wp2
              go_loopw [6] (fun i wq => ∃ q : Nat, q ≤ k ∧ i = .int .i64 q ∧ Hid (Lib.containsS (fl.take q) x = false) ∧ Below W0.heap.size W0 wq) (fun i _ => k - (intOf i).toNat)
              case atStart => exact ⟨0, Nat.zero_le _, rfl, Lib.hid rfl, hL2⟩
              case round =>
                obtain ⟨q, hq, rfl, HJ, hQ⟩ := hrel
                by_cases hlt3 : q < k
                · obtain ⟨y, hy⟩ : ∃ t, fl[q]? = some t := ⟨_, List.getElem?_eq_getElem (by rw [← HM.out]; omega)⟩
                  have hw := bstep hL hQ
                  have t0 := cell_regrown (Go.Proofs.Ytokbipfkpojflaa.Sl.cell_kept u0 hQ)
                  have t1 := cell_regrown (Go.Proofs.Ytokbipfkpojflaa.Sl.cell_kept (ss_get HC5.out HX.out) hw)
                  have t2 := cell_regrown (Go.Proofs.Ytokbipfkpojflaa.Sl.cell_kept (ss_get HC5.out hy) hw)
                  have i0 : (0 : Int) ≤ (q : Int) := by omega
                  have i1 : (q : Int) < (k : Int) := by omega
                  have i2 : (q : Int) < (m : Int) := by omega
                  have HY := Lib.hid hy
                  clear hy
                  by_cases he : y = x
                  · have HT := Lib.hid (has_mem fl q k y hlt3 HY.out)
                    have HZ2 := Lib.hid (show Z = false by rw [← HS.out, ← he, HT.out]; rfl)
                    have hb : (y.toList == x.toList) = true := (Lib.bytes_beq_iff y x).2 he
                    clear he
                    go_upto_region 11 with fail
                    refine wp_region_quiet_below (by kernel_rfl) (by kernel_rfl) ?_
                    repeat (go_big_quiet_step (fail))
                    refine wpQuiet_nil ?_
                    intro _ hw9
                    obtain ⟨⟨dq2, osq2⟩, hw9⟩ := hw9
                    subst hw9
                    have hL3 := bstep hQ (below_regrown wr dq2 osq2)
                    go_wp2
                    go_ret
                    exact ⟨by rw [HEZ.out, HZ2.out]; rfl, bstep hL hL3⟩
                  · have HJ2 := Lib.hid (show Lib.containsS (fl.take (q + 1)) x = false by rw [has_step fl q y x HY.out, HJ.out, decide_eq_false he]; rfl)
                    have hb : (y.toList == x.toList) = false := (Lib.bytes_beq_false_iff y x).2 he
                    clear he
                    go_upto_region 11 with fail
                    refine wp_region_quiet_below (by kernel_rfl) (by kernel_rfl) ?_
                    repeat (go_big_quiet_step (fail))
                    refine wpQuiet_nil ?_
                    intro _ hw9
                    obtain ⟨⟨dq2, osq2⟩, hw9⟩ := hw9
                    subst hw9
                    have hL3 := bstep hQ (below_regrown wr dq2 osq2)
                    go_wp2
                    go_roundw
                    case rel => exact ⟨q + 1, by omega, by go_num, HJ2, hL3⟩
                    case measure => simp [intOf]; omega
                · have hqk : q = k := by omega
                  have HE := Lib.hid (show rfrG cl (fl.take (k + 1)) (fl.drop (k + 1)) = Z by
                    have h := HJ.out
                    rw [hqk] at h
                    rw [← HS.out, h]; rfl)
                  clear hqk
                  go_wp2
                  go_roundw
                  case rel => exact ⟨k + 1, by omega, by go_num, HE, hQ⟩
                  case measure => simp [intOf]; omega
          · have HE := Lib.hid (show Z = true by rw [← HI.out, List.drop_of_length_le (by rw [← HM.out]; omega)]; rfl)
            go_wp2
            go_ret
            exact ⟨by rw [HEZ.out, HE.out]; rfl, bstep hL hR⟩
end Go.Proofs.Ytokbipfkpojflaa.Sc
