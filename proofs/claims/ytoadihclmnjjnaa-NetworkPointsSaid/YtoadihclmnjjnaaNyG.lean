/-
  The walk of the law NetworkPoints (layer 46).
-/
import Derived.Test.YtoadihclmnjjnaaNyF
import Derived.Test.YtoadihclmnjjnaaNop
set_option linter.unusedSimpArgs false
set_option linter.unusedVariables false
set_option maxRecDepth 100000
namespace Go.Proofs.Ytoadihclmnjjnaa.Nw
open Go Go.RowKit Go.ChangeShapes Go.WideShapes Go.Proofs.Ytoadihclmnjjnaa.Sl Go.Proofs.Ytoadihclmnjjnaa.Al Go.Lib

theorem cellsC_at : ∀ (l : List Cc) (k : Nat) (c : Cc), l[k]? = some c → (cellsC l)[k * 3]? = some (.int .i64 c.1.1) ∧ (cellsC l)[k * 3 + 1]? = some (.int .i64 c.1.2) ∧ (cellsC l)[k * 3 + 2]? = some (.slice (some ⟨c.2, 0, none⟩) 2 2)
  | [], k, c, h => by simp at h
  | q :: l, 0, c, h => by
    simp at h; subst h
    exact ⟨rfl, rfl, rfl⟩
  | q :: l, k + 1, c, h => by
    have := cellsC_at l k c (by simpa using h)
    have e : cellsC (q :: l) = .int .i64 q.1.1 :: .int .i64 q.1.2 :: .slice (some ⟨q.2, 0, none⟩) 2 2 :: cellsC l := rfl
    rw [e, show (k + 1) * 3 = k * 3 + 3 by omega]
    exact this
/-- The slice v holds choices with these ends. -/
def Chs (w : World) (v : Value) (l : List (Int × Int)) : Prop := ∃ cs : List Cc, cs.map (·.1) = l ∧ Sl w v l.length 3 (cellsC cs) ∧ ∀ c ∈ cs, w.heap[c.2]? = some (.cells chL 48 (0, 0))
theorem Chs.below {w w' : World} {v : Value} {l : List (Int × Int)} (h : Chs w v l) (hb : Below w.heap.size w w') : Chs w' v l := by
  obtain ⟨cs, h1, h2, h3⟩ := h
  exact ⟨cs, h1, h2.below hb, fun c hc => (hb.block _ (Array.getElem?_eq_some_iff.1 (h3 c hc)).1).trans (h3 c hc)⟩
theorem Chs.form {w : World} {v : Value} {l : List (Int × Int)} (h : Chs w v l) : ∃ a c, v = .slice a l.length c := by
  obtain ⟨cs, h1, h2, h3⟩ := h
  exact h2.form
theorem Chs.get {w : World} {v : Value} {l : List (Int × Int)} (h : Chs w v l) (h0 : l.length ≠ 0) : ∃ g off cap, v = .slice (some ⟨g, off, none⟩) l.length cap ∧ ∀ (k : Nat) (p : Int × Int), l[k]? = some p → ∃ b,
    w.cell? ⟨g, off + k * 3, none⟩ = some (.int .i64 p.1) ∧ w.cell? ⟨g, off + k * 3 + 1, none⟩ = some (.int .i64 p.2) ∧ w.cell? ⟨g, off + k * 3 + 2, none⟩ = some (.slice (some ⟨b, 0, none⟩) 2 2) ∧ w.heap[b]? = some (.cells chL 48 (0, 0)) := by
  obtain ⟨cs, h1, h2, h3⟩ := h
  obtain ⟨g, off, cap, rfl, hc⟩ := h2.open h0
  refine ⟨g, off, cap, rfl, fun k p hp => ?_⟩
  rw [← h1, List.getElem?_map] at hp
  obtain ⟨c, hc1, rfl⟩ := Option.map_eq_some_iff.1 hp
  obtain ⟨e1, e2, e3⟩ := cellsC_at cs k c hc1
  exact ⟨c.2, hc _ _ e1, hc _ _ e2, hc _ _ e3, h3 c (List.mem_of_getElem? hc1)⟩
theorem enter_np1 (args : Array Value) (w : World) : (callFunc 42 args).run Try.prog w = .ok (.enter 42 args) w := by simp [go_sem, Try.func42]
set_option maxHeartbeats 8000000 in
theorem equal_chc (l : List (Int × Int)) (v1 v2 : Value) (w : World) (h1 : Chs w v1 l) (h2 : Chs w v2 l) (hl : l.length ≤ 1000000) : Calls Try.prog 41 #[v1, v2, .func (.func 42) #[] #[]] w fun e w' => e = .returned (.bool true) ∧ Below w.heap.size w w' := by
  obtain ⟨a1, c1, rfl⟩ := h1.form
  obtain ⟨a2, c2, rfl⟩ := h2.form
  obtain ⟨n, hn⟩ : ∃ n, n = l.length := ⟨_, rfl⟩
  have HA := Lib.hid h1
  have HB := Lib.hid h2
  have HN := Lib.hid hn
  have hl2 : (n : Int) ≤ 1000000 := by omega
  rw [← hn]
  rw [← hn] at HA HB
  clear h1 h2 hn hl
  go_enter Try.func41, Try.ntmps41
  go_wp2
  go_loopw [17] (fun i wr => ∃ k : Nat, k ≤ n ∧ i = .int .i64 (k : Int) ∧ Below w.heap.size w wr) (fun i _ => n - (RowKit.intOf i).toNat)
  case atStart => exact ⟨0, Nat.zero_le _, rfl, Below.refl _ _⟩
  case round =>
    obtain ⟨k, hk, rfl, hL⟩ := hrel
    by_cases hlt : k < n
    · obtain ⟨g, off, cap, e, hc⟩ := (HA.out.below hL).get (by rw [← HN.out]; omega)
      rw [← HN.out] at e
      cases e
      obtain ⟨g2, off2, cap2, e2, hc2⟩ := (HB.out.below hL).get (by rw [← HN.out]; omega)
      rw [← HN.out] at e2
      cases e2
      obtain ⟨⟨xp, xq⟩, hx⟩ : ∃ x, l[k]? = some x := ⟨_, List.getElem?_eq_getElem (by rw [← HN.out]; exact hlt)⟩
      obtain ⟨b1, p0, p1, p2, p3⟩ := hc k _ hx
      obtain ⟨b2, q0, q1, q2, q3⟩ := hc2 k _ hx
      dsimp only at p0 p1 q0 q1
      have HCL := fun W (h : Below wr.heap.size wr W) => clos_chc xp xq b1 b2 W ((h.block _ (Array.getElem?_eq_some_iff.1 p3).1).trans p3) ((h.block _ (Array.getElem?_eq_some_iff.1 q3).1).trans q3)
      have k0 : (0 : Int) ≤ (k : Int) := by omega
      have k1 : (k : Int) < (n : Int) := by omega
      have l1 := block_of_cell q0
      clear hc hc2 hx p3 q3
      go_wp2_with (go_at_call 42; (with_reducible refine (HCL _ (by go_grown)).mono ?_); rintro e w1 ⟨rfl, hb⟩; have hL2 : Below wr.heap.size wr w1 := bstep (by go_grown) hb; clear hb)
      go_roundw
      case rel => exact ⟨k + 1, by omega, by go_num, bstep hL hL2⟩
      case measure => simp [RowKit.intOf]; omega
    · go_wp2
      go_ret
      exact ⟨rfl, hL⟩
def ptX (l : List Rl) : Int := if l.any (fun r => r.s == 0) = true then 17 else if (l.any fun r => !expr r) = true then 18 else 0
def ptB (n : Nat) (l : List Rl) : List Rl := if ptX l = 0 then allB n l else []
def ptC (l : List Rl) : List (Int × Int) := if ptX l = 0 then allC l else []
theorem PtE.flat {n : Nat} {l : List Rl} {w w' : World} {e : Ending} (h : PtE n l w e w') : ∃ v7 v9, e = .returned (.tuple #[v7, v9, .int .i64 (ptX l)]) ∧ Below w.heap.size w w' ∧ Sl w' v7 (ptB n l).length 3 (cellsR (ptB n l)) ∧ Chs w' v9 (ptC l) := by
  obtain ⟨hb, ⟨h1, rfl⟩ | ⟨h1, h2, rfl⟩ | ⟨h1, h2, v7, v9, rfl, hB, hC⟩⟩ := h
  · have e0 : ptX l = 17 := by unfold ptX; rw [if_pos h1]
    refine ⟨_, _, by rw [e0], hb, ?_, ?_⟩
    · unfold ptB; rw [e0, if_neg (by decide)]; exact Sl.mk0 _ _ _ _
    · unfold ptC; rw [e0, if_neg (by decide)]; exact ⟨[], rfl, Sl.mk0 _ _ _ _, nofun⟩
  · have e0 : ptX l = 18 := by unfold ptX; rw [if_neg (by rw [h1]; simp), if_pos h2]
    refine ⟨_, _, by rw [e0], hb, ?_, ?_⟩
    · unfold ptB; rw [e0, if_neg (by decide)]; exact Sl.mk0 _ _ _ _
    · unfold ptC; rw [e0, if_neg (by decide)]; exact ⟨[], rfl, Sl.mk0 _ _ _ _, nofun⟩
  · have e0 : ptX l = 0 := by unfold ptX; rw [if_neg (by rw [h1]; simp), if_neg (by rw [h2]; simp)]
    refine ⟨v7, v9, by rw [e0], hb, ?_, ?_⟩
    · unfold ptB; rw [if_pos e0]; exact Sl.of_owns hB.1
    · unfold ptC
      rw [if_pos e0]
      obtain ⟨cs, g1, g2, g3, g4⟩ := hC
      exact ⟨cs, g1, by have := Sl.of_owns g2; rwa [show cs.length = (allC l).length by rw [← g1, List.length_map]] at this, g4⟩
theorem ptB_len (n : Nat) (l : List Rl) (hn : n ≤ 8) (hl : l.length ≤ 200) : (ptB n l).length ≤ 1000000 := by
  unfold ptB
  split
  · have := allB_len n l 0 ⟨0, 0, 0⟩
    simp [rlB] at this
    omega
  · simp
theorem ptC_len (l : List Rl) (hl : l.length ≤ 200) : (ptC l).length ≤ 1000000 := by
  unfold ptC
  split
  · have := allC_len l 0 ⟨0, 0, 0⟩
    simp [rlC] at this
    omega
  · simp
set_option maxHeartbeats 8000000 in
theorem networkPoints_walk (n : Int) (v : Value) (l : List Rl) (w : World) (hn : (Lit.int .i64 n).wf = true) (hs : Rs w v l) (hg : ∀ r ∈ l, FitR r) : Calls Try.prog 10 #[.int .i64 n, v] w fun e w' => e = .returned (.bool true) ∧ Below w.heap.size w w' := by
  obtain ⟨ad, c, rfl⟩ := hs.form
  obtain ⟨q, hq⟩ : ∃ q, q = l.length := ⟨_, rfl⟩
  rw [← hq] at hs ⊢
  have HG := fun W => great_any n ad q c W
  have HRV := fun W (h : Below w.heap.size w W) => rvalid_any n l _ W (hs.below h)
  have hL := Below.refl w.heap.size w
  clear hq hn
  cases hgl : grN n q
  · rw [hgl] at HG
    cases hv : vldN n l
    · rw [hv] at HRV
      have HP := fun W (h : Below w.heap.size w W) => points_bad n l _ W (hs.below h) hv
      clear hs hgl hg hv
      go_enter Try.func10, Try.ntmps10
      go_wp2_with (first | (go_at_call 12; (with_reducible refine (awake_any _).mono ?_); rintro e w1 ⟨rfl, hb⟩; replace hL := bstep hL hb; clear hb) | (go_at_call 13; (with_reducible refine (HG _).mono ?_); rintro e w2 ⟨rfl, rfl⟩) | (go_at_call 38; (with_reducible refine (HP _ hL).mono ?_); rintro e w3 ⟨rfl, hb⟩; replace hL := bstep hL hb; clear hb) | (go_at_call 15; (with_reducible refine (HRV _ hL).mono ?_); rintro e w6 ⟨rfl, rfl⟩))
      go_ret
      exact ⟨rfl, hL⟩
    · rw [hv] at HRV
      obtain ⟨k, rfl, k0, k8, l200, hok⟩ := vld_ok hv
      have HP := fun W (h : Below w.heap.size w W) => points_ok k l _ W (hs.below h) hv
      have HR := fun W (h : Below w.heap.size w W) => rpoints_any k l _ W (hs.below h) hv
      have HLB := Lib.hid (ptB_len k l k8 l200)
      have HLC := Lib.hid (ptC_len l l200)
      clear hs hgl hg hv hok
      go_enter Try.func10, Try.ntmps10
      go_wp2_with (first | (go_at_call 12; (with_reducible refine (awake_any _).mono ?_); rintro e w1 ⟨rfl, hb⟩; replace hL := bstep hL hb; clear hb) | (go_at_call 13; (with_reducible refine (HG _).mono ?_); rintro e w2 ⟨rfl, rfl⟩) | (go_at_call 38; (with_reducible refine (HP _ hL).mono ?_); intro e w3 hpt; obtain ⟨v7, v9, rfl, hb, hB, hC⟩ := hpt.flat; clear hpt; obtain ⟨b7, d7, rfl⟩ := hB.form; obtain ⟨b9, d9, rfl⟩ := hC.form; replace hL := bstep hL hb; clear hb) | (go_at_call 15; (with_reducible refine (HRV _ hL).mono ?_); rintro e w6 ⟨rfl, rfl⟩) | (go_at_call 39; (with_reducible refine (HR _ hL).mono ?_); intro e w4 hpt; obtain ⟨u7, u9, rfl, hb, hB2, hC2⟩ := hpt.flat; clear hpt; obtain ⟨f7, g7, rfl⟩ := hB2.form; obtain ⟨f9, g9, rfl⟩ := hC2.form; replace hB := hB.below hb; replace hC := hC.below hb; replace hL := bstep hL hb; clear hb) | (go_at_call 40; (with_reducible refine (equal_bnd _ _ _ _ hB hB2 HLB.out).mono ?_); rintro e w7 ⟨rfl, hb⟩; replace hC := hC.below hb; replace hC2 := hC2.below hb; replace hL := bstep hL hb; clear hb) | (go_at_call 41; (with_reducible refine (equal_chc _ _ _ _ hC hC2 HLC.out).mono ?_); rintro e w8 ⟨rfl, hb⟩; replace hL := bstep hL hb; clear hb))
      go_ret
      exact ⟨rfl, hL⟩
  · rw [hgl] at HG
    clear hs hgl hg HRV
    go_enter Try.func10, Try.ntmps10
    go_wp2_with (first | (go_at_call 12; (with_reducible refine (awake_any _).mono ?_); rintro e w1 ⟨rfl, hb⟩; replace hL := bstep hL hb; clear hb) | (go_at_call 13; (with_reducible refine (HG _).mono ?_); rintro e w2 ⟨rfl, rfl⟩))
    go_ret
    exact ⟨rfl, hL⟩
end Go.Proofs.Ytoadihclmnjjnaa.Nw
