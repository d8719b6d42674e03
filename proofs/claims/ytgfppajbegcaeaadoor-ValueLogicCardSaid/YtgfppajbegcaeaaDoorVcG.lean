/-
  The walk of formed (layer 33): the loop over the conditions below a node.
-/
import Derived.Test.YtgfppajbegcaeaaDoorVcN
set_option linter.unusedSimpArgs false
set_option linter.unusedVariables false
namespace Go.Proofs.YtgfppajbegcaeaaDoor.Va
open Go.RowKit Go.ChangeShapes Go.WideShapes Go.Proofs.YtgfppajbegcaeaaDoor.Sl Go.Lib

theorem fmd_le (c : CN) (d n : Nat) (hn : n ≤ 60) (h : (fmd c d n).1 = true) : (fmd c d n).2 ≤ 60 := by
  obtain ⟨h1, h2⟩ := fmd_spec c d n hn
  by_cases hg : good c d = true ∧ n + cnt c ≤ 60
  · rw [h1 hg]; exact hg.2
  · rw [h2 hg] at h; cases h
theorem fmdL_step (L : List CN) (j d m : Nat) (x : CN) (h : L[j]? = some x) : fmdL (L.drop j) d m = if (fmd x d m).1 then fmdL (L.drop (j + 1)) d (fmd x d m).2 else (false, (fmd x d m).2) := by
  have hk : j < L.length := (List.getElem?_eq_some_iff.1 h).1
  rw [List.drop_eq_getElem_cons hk, fmdL, (List.getElem?_eq_some_iff.1 h).2]
theorem FmP.out {w w' : World} {B : Nat} {b : Bool} {n : Nat} {e : Ending} (h : FmP w B (b, n) e w') : e = .returned (.bool b) ∧ Boxed w' B 3 (.int .i64 (n : Int)) ∧ w.grownBy w' (some B) := h
/-- What formed does for one condition. -/
def FmOk (W0 : World) (x : CN) : Prop := ∀ (cs : List Value) (d n B : Nat) (w : World), Below W0.heap.size W0 w → CnAt W0 cs x → W0.heap.size ≤ B → Boxed w B 3 (.int .i64 (n : Int)) → n ≤ 60 → d ≤ 13 →
  Calls Tryd.prog 51 #[.agg cs.toArray, .int .i64 (d : Int), .pointer (some ⟨B, 0, none⟩)] w (FmP w B (fmd x d n))
set_option maxRecDepth 20000 in
theorem fgo4 (L : List CN) (ad : Option Addr) (cap n d B : Nat) (W0 w : World) (hlen : L.length = 1) (ih : ∀ x ∈ L, FmOk W0 x) (hb : Below W0.heap.size W0 w) (hWB : W0.heap.size ≤ B)
    (had : L.length ≠ 0 → ∃ g off, ad = some ⟨g, off, none⟩ ∧ ∀ (i : Nat) (x : CN), L[i]? = some x → ∃ r : List Value, CnAt W0 r x ∧ ∀ (j : Nat) (u : Value), r[j]? = some u → W0.cell? ⟨g, off + (i * 7 + j), none⟩ = some u)
    (hn : (n : Int) + 1 ≤ 60) (hd0 : (0 : Int) ≤ (d : Int)) (hd : (d : Int) ≤ 12) (hB : Boxed w B 3 (.int .i64 n)) :
    Calls Tryd.prog 51 #[agC 4 ⟨#[]⟩ ⟨#[]⟩ 0 0 ⟨#[]⟩ (.slice ad 1 cap), .int .i64 d, .pointer (some ⟨B, 0, none⟩)] w (FmP w B (fmdL L (d + 1) (n + 1))) := by
  have hb0 := hB.cell
  have hb1 := hB.frozen
  have hb2 := hB.lt
  obtain ⟨g, off, rfl, hk0⟩ := had (by omega)
  have HK := Lib.hid hk0
  have HL := Lib.hid hlen
  have HI := Lib.hid ih
  have HW := Lib.hid (show Below W0.heap.size W0 w ∧ W0.heap.size ≤ B from ⟨hb, hWB⟩)
  clear hk0 had hlen ih hb hWB
  obtain ⟨Z, hZ⟩ : ∃ Z, fmdL L (d + 1) (n + 1) = Z := ⟨_, rfl⟩
  have HZ := Lib.hid hZ
  rw [hZ]
  clear hZ
  have hvn : ∀ W : World, (binOp .neq 32 (.agg #[.int .i64 0, .int .i64 0, .string ⟨#[]⟩]) (.agg #[.int .i64 0, .int .i64 0, .string ⟨#[]⟩])).run Tryd.prog W = .ok (.bool false) W := fun W => val_ne zeroV zeroV W
  go_enter Tryd.func51, Tryd.ntmps51
  go_upto_region 16 with fail
  obtain ⟨W, hW⟩ : ∃ W, ((w.setCell ⟨B, 0, none⟩ (.int .i64 ((n : Int) + 1))).alloc (.cells #[.int .i64 4, .string ⟨#[]⟩, .string ⟨#[]⟩, .int .i64 0, .int .i64 0, .string ⟨#[]⟩, .slice (some ⟨g, off, none⟩) 1 cap] 46)).alloc (.cells #[.int .i64 0, .int .i64 0, .string ⟨#[]⟩] 32) = W := ⟨_, rfl⟩
  obtain ⟨hL, hlt, f0, f1, f2, f3, f4, f5, f6, z0, z1, z2⟩ := fm_cells w B _ _ _ _ _ _ _ _ _ _ _ W hW
  rw [hW]
  clear hW
  have hmm := @run_makeMap Tryd.prog
  have i1 := ins1 W
  have i2 := ins2 W
  have i3 := ins3 W
  have i4 := look3 W 4
  rw [show arity 4 = 1 from rfl] at i4
  have a0 := cell_alloc f0 M3
  have a4 := cell_alloc f4 M3
  have a6 := cell_alloc f6 M3
  have hL3 : Below (w.setCell ⟨B, 0, none⟩ (.int .i64 ((n : Int) + 1))).heap.size (w.setCell ⟨B, 0, none⟩ (.int .i64 ((n : Int) + 1))) (W.alloc M3) := hL.alloc hL.size _
  have HB3 : Hid (Boxed (W.alloc M3) B 3 (.int .i64 ((n + 1 : Nat) : Int)) ∧ w.grownBy (W.alloc M3) (some B)) := Lib.hid ⟨boxed_below (hB.set _) hL3, (grownBy_setCell' w B _).trans (grown_below hL3)⟩
  clear hL hL3 hB hb0 hb1 hb2
  go_wp2
  go_loopw [85] (fun i wr => ∃ j m : Nat, j ≤ 1 ∧ i = .int .i64 j ∧ m ≤ 60 ∧ Hid (fmdL (L.drop j) (d + 1) m = Z) ∧ Boxed wr B 3 (.int .i64 (m : Int)) ∧ w.grownBy wr (some B)) (fun i _ => 1 - (intOf i).toNat)
  case atStart => exact ⟨0, n + 1, by omega, rfl, by omega, Lib.hid HZ.out, HB3.out.1, HB3.out.2⟩
  case round =>
    clear f0 f1 f2 f3 f4 f5 f6 z0 z1 z2 hmm i1 i2 i3 i4 hvn a0 a4 a6
    obtain ⟨j, m, hj, rfl, hm, HR, hbx, hg⟩ := hrel
    by_cases hlt : j < 1
    · obtain ⟨x, hx⟩ : ∃ t, L[j]? = some t := ⟨_, List.getElem?_eq_getElem (by rw [HL.out]; exact hlt)⟩
      obtain ⟨r, hr, hrc⟩ := HK.out j x hx
      obtain ⟨k', col, oth, v0, v1, v2, ad', n', cap', rfl⟩ := hr.shape
      have hbW := below_grown HW.out.1 hg HW.out.2
      obtain ⟨c0, c1, c2, c3, c4, c5, c6⟩ := kid_cells hbW hrc rfl
      have HC := fun (W : World) (h1 : Below W0.heap.size W0 W) (h2 : Boxed W B 3 (.int .i64 (m : Int))) => HI.out x (List.mem_of_getElem? hx) _ (d + 1) m B W h1 hr HW.out.2 h2 hm (by omega)
      rw [show ((d + 1 : Nat) : Int) = (d : Int) + 1 by omega] at HC
      have hst := fmdL_step L j (d + 1) m x hx
      rw [HR.out] at hst
      have hle := fmd_le x (d + 1) m hm
      generalize fmd x (d + 1) m = p at HC hst hle
      obtain ⟨b, m'⟩ := p
      have HS := Lib.hid hst
      have HE := Lib.hid hle
      have HBG := Lib.hid (show Boxed wr B 3 (.int .i64 (m : Int)) ∧ w.grownBy wr (some B) ∧ Below W0.heap.size W0 wr from ⟨hbx, hg, hbW⟩)
      have k0 : (0 : Int) ≤ (j : Int) := by omega
      have k1 : (j : Int) < 1 := by omega
      clear hst hle hbx hg hbW hrc hr hx HZ HB3
      cases b
      · have HS2 : Hid (Z = (false, m')) := Lib.hid HS.out
        go_wp2_with (go_at_call 51; with_reducible refine (HC _ (HBG.out.2.2.alloc HBG.out.2.2.size _) (HBG.out.1.alloc _)).mono ?_; intro e w1 hpp; obtain ⟨rfl, hbx, hg⟩ := FmP.out hpp; have HQ := Lib.hid (show Boxed w1 B 3 (.int .i64 (m' : Int)) ∧ w.grownBy w1 (some B) from ⟨hbx, (gp_alloc HBG.out.2.1 _).trans hg⟩); clear hbx hg)
        go_ret
        rw [HS2.out]
        exact ⟨rfl, HQ.out.1, HQ.out.2⟩
      · have HS2 : Hid (fmdL (L.drop (j + 1)) (d + 1) m' = Z) := Lib.hid HS.out.symm
        go_wp2_with (go_at_call 51; with_reducible refine (HC _ (HBG.out.2.2.alloc HBG.out.2.2.size _) (HBG.out.1.alloc _)).mono ?_; intro e w1 hpp; obtain ⟨rfl, hbx, hg⟩ := FmP.out hpp; have HQ := Lib.hid (show Boxed w1 B 3 (.int .i64 (m' : Int)) ∧ w.grownBy w1 (some B) from ⟨hbx, (gp_alloc HBG.out.2.1 _).trans hg⟩); clear hbx hg)
        go_roundw
        case rel => exact ⟨j + 1, m', by omega, by go_num, (by have := HE.out; simpa using this), HS2, HQ.out.1, HQ.out.2⟩
        case measure => simp [intOf]; omega
    · have HS2 : Hid (Z = (true, m)) := Lib.hid (by rw [← HR.out, List.drop_of_length_le (by rw [HL.out]; omega)]; rfl)
      have HQ := Lib.hid (show Boxed wr B 3 (.int .i64 (m : Int)) ∧ w.grownBy wr (some B) from ⟨hbx, hg⟩)
      clear hbx hg
      go_wp2
      go_ret
      rw [HS2.out]
      exact ⟨rfl, HQ.out.1, HQ.out.2⟩
set_option maxRecDepth 20000 in
theorem fgo5 (L : List CN) (ad : Option Addr) (cap n d B : Nat) (W0 w : World) (hlen : L.length = 2) (ih : ∀ x ∈ L, FmOk W0 x) (hb : Below W0.heap.size W0 w) (hWB : W0.heap.size ≤ B)
    (had : L.length ≠ 0 → ∃ g off, ad = some ⟨g, off, none⟩ ∧ ∀ (i : Nat) (x : CN), L[i]? = some x → ∃ r : List Value, CnAt W0 r x ∧ ∀ (j : Nat) (u : Value), r[j]? = some u → W0.cell? ⟨g, off + (i * 7 + j), none⟩ = some u)
    (hn : (n : Int) + 1 ≤ 60) (hd0 : (0 : Int) ≤ (d : Int)) (hd : (d : Int) ≤ 12) (hB : Boxed w B 3 (.int .i64 n)) :
    Calls Tryd.prog 51 #[agC 5 ⟨#[]⟩ ⟨#[]⟩ 0 0 ⟨#[]⟩ (.slice ad 2 cap), .int .i64 d, .pointer (some ⟨B, 0, none⟩)] w (FmP w B (fmdL L (d + 1) (n + 1))) := by
  have hb0 := hB.cell
  have hb1 := hB.frozen
  have hb2 := hB.lt
  obtain ⟨g, off, rfl, hk0⟩ := had (by omega)
  have HK := Lib.hid hk0
  have HL := Lib.hid hlen
  have HI := Lib.hid ih
  have HW := Lib.hid (show Below W0.heap.size W0 w ∧ W0.heap.size ≤ B from ⟨hb, hWB⟩)
  clear hk0 had hlen ih hb hWB
  obtain ⟨Z, hZ⟩ : ∃ Z, fmdL L (d + 1) (n + 1) = Z := ⟨_, rfl⟩
  have HZ := Lib.hid hZ
  rw [hZ]
  clear hZ
  have hvn : ∀ W : World, (binOp .neq 32 (.agg #[.int .i64 0, .int .i64 0, .string ⟨#[]⟩]) (.agg #[.int .i64 0, .int .i64 0, .string ⟨#[]⟩])).run Tryd.prog W = .ok (.bool false) W := fun W => val_ne zeroV zeroV W
  go_enter Tryd.func51, Tryd.ntmps51
  go_upto_region 16 with fail
  obtain ⟨W, hW⟩ : ∃ W, ((w.setCell ⟨B, 0, none⟩ (.int .i64 ((n : Int) + 1))).alloc (.cells #[.int .i64 5, .string ⟨#[]⟩, .string ⟨#[]⟩, .int .i64 0, .int .i64 0, .string ⟨#[]⟩, .slice (some ⟨g, off, none⟩) 2 cap] 46)).alloc (.cells #[.int .i64 0, .int .i64 0, .string ⟨#[]⟩] 32) = W := ⟨_, rfl⟩
  obtain ⟨hL, hlt, f0, f1, f2, f3, f4, f5, f6, z0, z1, z2⟩ := fm_cells w B _ _ _ _ _ _ _ _ _ _ _ W hW
  rw [hW]
  clear hW
  have hmm := @run_makeMap Tryd.prog
  have i1 := ins1 W
  have i2 := ins2 W
  have i3 := ins3 W
  have i4 := look3 W 5
  rw [show arity 5 = 2 from rfl] at i4
  have a0 := cell_alloc f0 M3
  have a4 := cell_alloc f4 M3
  have a6 := cell_alloc f6 M3
  have hL3 : Below (w.setCell ⟨B, 0, none⟩ (.int .i64 ((n : Int) + 1))).heap.size (w.setCell ⟨B, 0, none⟩ (.int .i64 ((n : Int) + 1))) (W.alloc M3) := hL.alloc hL.size _
  have HB3 : Hid (Boxed (W.alloc M3) B 3 (.int .i64 ((n + 1 : Nat) : Int)) ∧ w.grownBy (W.alloc M3) (some B)) := Lib.hid ⟨boxed_below (hB.set _) hL3, (grownBy_setCell' w B _).trans (grown_below hL3)⟩
  clear hL hL3 hB hb0 hb1 hb2
  go_wp2
  go_loopw [85] (fun i wr => ∃ j m : Nat, j ≤ 2 ∧ i = .int .i64 j ∧ m ≤ 60 ∧ Hid (fmdL (L.drop j) (d + 1) m = Z) ∧ Boxed wr B 3 (.int .i64 (m : Int)) ∧ w.grownBy wr (some B)) (fun i _ => 2 - (intOf i).toNat)
  case atStart => exact ⟨0, n + 1, by omega, rfl, by omega, Lib.hid HZ.out, HB3.out.1, HB3.out.2⟩
  case round =>
    clear f0 f1 f2 f3 f4 f5 f6 z0 z1 z2 hmm i1 i2 i3 i4 hvn a0 a4 a6
    obtain ⟨j, m, hj, rfl, hm, HR, hbx, hg⟩ := hrel
    by_cases hlt : j < 2
    · obtain ⟨x, hx⟩ : ∃ t, L[j]? = some t := ⟨_, List.getElem?_eq_getElem (by rw [HL.out]; exact hlt)⟩
      obtain ⟨r, hr, hrc⟩ := HK.out j x hx
      obtain ⟨k', col, oth, v0, v1, v2, ad', n', cap', rfl⟩ := hr.shape
      have hbW := below_grown HW.out.1 hg HW.out.2
      obtain ⟨c0, c1, c2, c3, c4, c5, c6⟩ := kid_cells hbW hrc rfl
      have HC := fun (W : World) (h1 : Below W0.heap.size W0 W) (h2 : Boxed W B 3 (.int .i64 (m : Int))) => HI.out x (List.mem_of_getElem? hx) _ (d + 1) m B W h1 hr HW.out.2 h2 hm (by omega)
      rw [show ((d + 1 : Nat) : Int) = (d : Int) + 1 by omega] at HC
      have hst := fmdL_step L j (d + 1) m x hx
      rw [HR.out] at hst
      have hle := fmd_le x (d + 1) m hm
      generalize fmd x (d + 1) m = p at HC hst hle
      obtain ⟨b, m'⟩ := p
      have HS := Lib.hid hst
      have HE := Lib.hid hle
      have HBG := Lib.hid (show Boxed wr B 3 (.int .i64 (m : Int)) ∧ w.grownBy wr (some B) ∧ Below W0.heap.size W0 wr from ⟨hbx, hg, hbW⟩)
      have k0 : (0 : Int) ≤ (j : Int) := by omega
      have k1 : (j : Int) < 2 := by omega
      clear hst hle hbx hg hbW hrc hr hx HZ HB3
      cases b
      · have HS2 : Hid (Z = (false, m')) := Lib.hid HS.out
        go_wp2_with (go_at_call 51; with_reducible refine (HC _ (HBG.out.2.2.alloc HBG.out.2.2.size _) (HBG.out.1.alloc _)).mono ?_; intro e w1 hpp; obtain ⟨rfl, hbx, hg⟩ := FmP.out hpp; have HQ := Lib.hid (show Boxed w1 B 3 (.int .i64 (m' : Int)) ∧ w.grownBy w1 (some B) from ⟨hbx, (gp_alloc HBG.out.2.1 _).trans hg⟩); clear hbx hg)
        go_ret
        rw [HS2.out]
        exact ⟨rfl, HQ.out.1, HQ.out.2⟩
      · have HS2 : Hid (fmdL (L.drop (j + 1)) (d + 1) m' = Z) := Lib.hid HS.out.symm
        go_wp2_with (go_at_call 51; with_reducible refine (HC _ (HBG.out.2.2.alloc HBG.out.2.2.size _) (HBG.out.1.alloc _)).mono ?_; intro e w1 hpp; obtain ⟨rfl, hbx, hg⟩ := FmP.out hpp; have HQ := Lib.hid (show Boxed w1 B 3 (.int .i64 (m' : Int)) ∧ w.grownBy w1 (some B) from ⟨hbx, (gp_alloc HBG.out.2.1 _).trans hg⟩); clear hbx hg)
        go_roundw
        case rel => exact ⟨j + 1, m', by omega, by go_num, (by have := HE.out; simpa using this), HS2, HQ.out.1, HQ.out.2⟩
        case measure => simp [intOf]; omega
    · have HS2 : Hid (Z = (true, m)) := Lib.hid (by rw [← HR.out, List.drop_of_length_le (by rw [HL.out]; omega)]; rfl)
      have HQ := Lib.hid (show Boxed wr B 3 (.int .i64 (m : Int)) ∧ w.grownBy wr (some B) from ⟨hbx, hg⟩)
      clear hbx hg
      go_wp2
      go_ret
      rw [HS2.out]
      exact ⟨rfl, HQ.out.1, HQ.out.2⟩
set_option maxRecDepth 20000 in
theorem fgo6 (L : List CN) (ad : Option Addr) (cap n d B : Nat) (W0 w : World) (hlen : L.length = 2) (ih : ∀ x ∈ L, FmOk W0 x) (hb : Below W0.heap.size W0 w) (hWB : W0.heap.size ≤ B)
    (had : L.length ≠ 0 → ∃ g off, ad = some ⟨g, off, none⟩ ∧ ∀ (i : Nat) (x : CN), L[i]? = some x → ∃ r : List Value, CnAt W0 r x ∧ ∀ (j : Nat) (u : Value), r[j]? = some u → W0.cell? ⟨g, off + (i * 7 + j), none⟩ = some u)
    (hn : (n : Int) + 1 ≤ 60) (hd0 : (0 : Int) ≤ (d : Int)) (hd : (d : Int) ≤ 12) (hB : Boxed w B 3 (.int .i64 n)) :
    Calls Tryd.prog 51 #[agC 6 ⟨#[]⟩ ⟨#[]⟩ 0 0 ⟨#[]⟩ (.slice ad 2 cap), .int .i64 d, .pointer (some ⟨B, 0, none⟩)] w (FmP w B (fmdL L (d + 1) (n + 1))) := by
  have hb0 := hB.cell
  have hb1 := hB.frozen
  have hb2 := hB.lt
  obtain ⟨g, off, rfl, hk0⟩ := had (by omega)
  have HK := Lib.hid hk0
  have HL := Lib.hid hlen
  have HI := Lib.hid ih
  have HW := Lib.hid (show Below W0.heap.size W0 w ∧ W0.heap.size ≤ B from ⟨hb, hWB⟩)
  clear hk0 had hlen ih hb hWB
  obtain ⟨Z, hZ⟩ : ∃ Z, fmdL L (d + 1) (n + 1) = Z := ⟨_, rfl⟩
  have HZ := Lib.hid hZ
  rw [hZ]
  clear hZ
  have hvn : ∀ W : World, (binOp .neq 32 (.agg #[.int .i64 0, .int .i64 0, .string ⟨#[]⟩]) (.agg #[.int .i64 0, .int .i64 0, .string ⟨#[]⟩])).run Tryd.prog W = .ok (.bool false) W := fun W => val_ne zeroV zeroV W
  go_enter Tryd.func51, Tryd.ntmps51
  go_upto_region 16 with fail
  obtain ⟨W, hW⟩ : ∃ W, ((w.setCell ⟨B, 0, none⟩ (.int .i64 ((n : Int) + 1))).alloc (.cells #[.int .i64 6, .string ⟨#[]⟩, .string ⟨#[]⟩, .int .i64 0, .int .i64 0, .string ⟨#[]⟩, .slice (some ⟨g, off, none⟩) 2 cap] 46)).alloc (.cells #[.int .i64 0, .int .i64 0, .string ⟨#[]⟩] 32) = W := ⟨_, rfl⟩
  obtain ⟨hL, hlt, f0, f1, f2, f3, f4, f5, f6, z0, z1, z2⟩ := fm_cells w B _ _ _ _ _ _ _ _ _ _ _ W hW
  rw [hW]
  clear hW
  have hmm := @run_makeMap Tryd.prog
  have i1 := ins1 W
  have i2 := ins2 W
  have i3 := ins3 W
  have i4 := look3 W 6
  rw [show arity 6 = 2 from rfl] at i4
  have a0 := cell_alloc f0 M3
  have a4 := cell_alloc f4 M3
  have a6 := cell_alloc f6 M3
  have hL3 : Below (w.setCell ⟨B, 0, none⟩ (.int .i64 ((n : Int) + 1))).heap.size (w.setCell ⟨B, 0, none⟩ (.int .i64 ((n : Int) + 1))) (W.alloc M3) := hL.alloc hL.size _
  have HB3 : Hid (Boxed (W.alloc M3) B 3 (.int .i64 ((n + 1 : Nat) : Int)) ∧ w.grownBy (W.alloc M3) (some B)) := Lib.hid ⟨boxed_below (hB.set _) hL3, (grownBy_setCell' w B _).trans (grown_below hL3)⟩
  clear hL hL3 hB hb0 hb1 hb2
  go_wp2
  go_loopw [85] (fun i wr => ∃ j m : Nat, j ≤ 2 ∧ i = .int .i64 j ∧ m ≤ 60 ∧ Hid (fmdL (L.drop j) (d + 1) m = Z) ∧ Boxed wr B 3 (.int .i64 (m : Int)) ∧ w.grownBy wr (some B)) (fun i _ => 2 - (intOf i).toNat)
  case atStart => exact ⟨0, n + 1, by omega, rfl, by omega, Lib.hid HZ.out, HB3.out.1, HB3.out.2⟩
  case round =>
    clear f0 f1 f2 f3 f4 f5 f6 z0 z1 z2 hmm i1 i2 i3 i4 hvn a0 a4 a6
    obtain ⟨j, m, hj, rfl, hm, HR, hbx, hg⟩ := hrel
    by_cases hlt : j < 2
    · obtain ⟨x, hx⟩ : ∃ t, L[j]? = some t := ⟨_, List.getElem?_eq_getElem (by rw [HL.out]; exact hlt)⟩
      obtain ⟨r, hr, hrc⟩ := HK.out j x hx
      obtain ⟨k', col, oth, v0, v1, v2, ad', n', cap', rfl⟩ := hr.shape
      have hbW := below_grown HW.out.1 hg HW.out.2
      obtain ⟨c0, c1, c2, c3, c4, c5, c6⟩ := kid_cells hbW hrc rfl
      have HC := fun (W : World) (h1 : Below W0.heap.size W0 W) (h2 : Boxed W B 3 (.int .i64 (m : Int))) => HI.out x (List.mem_of_getElem? hx) _ (d + 1) m B W h1 hr HW.out.2 h2 hm (by omega)
      rw [show ((d + 1 : Nat) : Int) = (d : Int) + 1 by omega] at HC
      have hst := fmdL_step L j (d + 1) m x hx
      rw [HR.out] at hst
      have hle := fmd_le x (d + 1) m hm
      generalize fmd x (d + 1) m = p at HC hst hle
      obtain ⟨b, m'⟩ := p
      have HS := Lib.hid hst
      have HE := Lib.hid hle
      have HBG := Lib.hid (show Boxed wr B 3 (.int .i64 (m : Int)) ∧ w.grownBy wr (some B) ∧ Below W0.heap.size W0 wr from ⟨hbx, hg, hbW⟩)
      have k0 : (0 : Int) ≤ (j : Int) := by omega
      have k1 : (j : Int) < 2 := by omega
      clear hst hle hbx hg hbW hrc hr hx HZ HB3
      cases b
      · have HS2 : Hid (Z = (false, m')) := Lib.hid HS.out
        go_wp2_with (go_at_call 51; with_reducible refine (HC _ (HBG.out.2.2.alloc HBG.out.2.2.size _) (HBG.out.1.alloc _)).mono ?_; intro e w1 hpp; obtain ⟨rfl, hbx, hg⟩ := FmP.out hpp; have HQ := Lib.hid (show Boxed w1 B 3 (.int .i64 (m' : Int)) ∧ w.grownBy w1 (some B) from ⟨hbx, (gp_alloc HBG.out.2.1 _).trans hg⟩); clear hbx hg)
        go_ret
        rw [HS2.out]
        exact ⟨rfl, HQ.out.1, HQ.out.2⟩
      · have HS2 : Hid (fmdL (L.drop (j + 1)) (d + 1) m' = Z) := Lib.hid HS.out.symm
        go_wp2_with (go_at_call 51; with_reducible refine (HC _ (HBG.out.2.2.alloc HBG.out.2.2.size _) (HBG.out.1.alloc _)).mono ?_; intro e w1 hpp; obtain ⟨rfl, hbx, hg⟩ := FmP.out hpp; have HQ := Lib.hid (show Boxed w1 B 3 (.int .i64 (m' : Int)) ∧ w.grownBy w1 (some B) from ⟨hbx, (gp_alloc HBG.out.2.1 _).trans hg⟩); clear hbx hg)
        go_roundw
        case rel => exact ⟨j + 1, m', by omega, by go_num, (by have := HE.out; simpa using this), HS2, HQ.out.1, HQ.out.2⟩
        case measure => simp [intOf]; omega
    · have HS2 : Hid (Z = (true, m)) := Lib.hid (by rw [← HR.out, List.drop_of_length_le (by rw [HL.out]; omega)]; rfl)
      have HQ := Lib.hid (show Boxed wr B 3 (.int .i64 (m : Int)) ∧ w.grownBy wr (some B) from ⟨hbx, hg⟩)
      clear hbx hg
      go_wp2
      go_ret
      rw [HS2.out]
      exact ⟨rfl, HQ.out.1, HQ.out.2⟩
end Go.Proofs.YtgfppajbegcaeaaDoor.Va
