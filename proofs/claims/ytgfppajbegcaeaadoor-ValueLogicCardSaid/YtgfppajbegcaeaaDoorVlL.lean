/-
  The walk of the laws' bound on conditions (long): it ends, and turns its counter alone (layer 33).
-/
import Derived.Test.YtgfppajbegcaeaaDoorVaZ
set_option linter.unusedSimpArgs false
set_option linter.unusedVariables false
namespace Go.Proofs.YtgfppajbegcaeaaDoor.Va
open Go.RowKit Go.ChangeShapes Go.WideShapes Go.Proofs.YtgfppajbegcaeaaDoor.Sl

/-- long's end: some answer; the counter in the box B has grown, and is at most 201. -/
def LgP (w : World) (B n : Nat) (e : Ending) (w' : World) : Prop := ∃ (b : Bool) (n' : Nat), e = .returned (.bool b) ∧ Boxed w' B 3 (.int .i64 (n' : Int)) ∧ n < n' ∧ n' ≤ 201 ∧ (b = false → n' ≤ 200) ∧ w.grownBy w' (some B)
def LgOk (W0 : World) (x : CN) : Prop := ∀ (cs : List Value) (d n B : Nat) (w : World), Below W0.heap.size W0 w → CnAt W0 cs x → W0.heap.size ≤ B → Boxed w B 3 (.int .i64 (n : Int)) → n ≤ 200 → d ≤ 41 →
  Calls Tryd.prog 24 #[.agg cs.toArray, .int .i64 (d : Int), .pointer (some ⟨B, 0, none⟩)] w (LgP w B n)
theorem LgP.out {w w' : World} {B n : Nat} {e : Ending} (h : LgP w B n e w') : ∃ (b : Bool) (n' : Nat), e = .returned (.bool b) ∧ Boxed w' B 3 (.int .i64 (n' : Int)) ∧ n < n' ∧ n' ≤ 201 ∧ (b = false → n' ≤ 200) ∧ w.grownBy w' (some B) := h
set_option maxRecDepth 20000 in
theorem long1_any (W0 : World) (x : CN) (hx : LgOk W0 x) (cs : List Value) (d n B D Q : Nat) (w : World) (hb : Below W0.heap.size W0 w) (hc : CnAt W0 cs x) (hWB : W0.heap.size ≤ B) (hB : Boxed w B 3 (.int .i64 (n : Int))) (hn : n ≤ 200) (hd : d ≤ 40)
    (h1 : w.cell? ⟨D, 0, none⟩ = some (.int .i64 (d : Int))) (h2 : w.cell? ⟨Q, 0, none⟩ = some (.pointer (some ⟨B, 0, none⟩))) :
    Calls Tryd.prog 48 #[.agg cs.toArray, .pointer (some ⟨D, 0, none⟩), .pointer (some ⟨Q, 0, none⟩)] w (LgP w B n) := by
  obtain ⟨k, col, oth, v0, v1, v2, ad, m, cap, rfl⟩ := hc.shape
  have HC := fun (W : World) (h1 : Below W0.heap.size W0 W) (h2 : Boxed W B 3 (.int .i64 (n : Int))) => hx _ (d + 1) n B W h1 hc hWB h2 hn (by omega)
  rw [show ((d + 1 : Nat) : Int) = (d : Int) + 1 by omega] at HC
  have HB := Lib.hid (show Below W0.heap.size W0 w ∧ Boxed w B 3 (.int .i64 (n : Int)) from ⟨hb, hB⟩)
  have hD := block_of_cell h1
  have hQ := block_of_cell h2
  clear hb hB hc hx
  go_enter Tryd.func48, Tryd.ntmps48
  go_wp2_with (go_at_call 24; (with_reducible refine (HC _ (HB.out.1.alloc HB.out.1.size _) (HB.out.2.alloc _)).mono ?_); intro e w1 hpp; obtain ⟨b, n', rfl, hq1, hq2, hq3, hq4, hq5⟩ := LgP.out hpp; have HQ := Lib.hid (show Boxed w1 B 3 (.int .i64 (n' : Int)) ∧ n < n' ∧ n' ≤ 201 ∧ (b = false → n' ≤ 200) ∧ w.grownBy w1 (some B) from ⟨hq1, hq2, hq3, hq4, (gp_alloc (gp_refl w _) _).trans hq5⟩); clear hq1 hq2 hq3 hq4 hq5 hpp)
  go_ret
  exact ⟨b, n', rfl, HQ.out⟩
set_option maxRecDepth 20000 in
set_option maxHeartbeats 1000000 in
theorem lidx_any (W0 : World) (L : List CN) (ih : ∀ x ∈ L, LgOk W0 x) (ad : Option Addr) (cap d n B D Q : Nat) (w : World) (hb : Below W0.heap.size W0 w) (hWB : W0.heap.size ≤ B)
    (had : L.length ≠ 0 → ∃ g off, ad = some ⟨g, off, none⟩ ∧ ∀ (i : Nat) (x : CN), L[i]? = some x → ∃ r : List Value, CnAt W0 r x ∧ ∀ (j : Nat) (u : Value), r[j]? = some u → W0.cell? ⟨g, off + (i * 7 + j), none⟩ = some u)
    (hB : Boxed w B 3 (.int .i64 (n : Int))) (hn : n ≤ 200) (hd : d ≤ 40) (h1 : w.cell? ⟨D, 0, none⟩ = some (.int .i64 (d : Int))) (h2 : w.cell? ⟨Q, 0, none⟩ = some (.pointer (some ⟨B, 0, none⟩))) (hDB : D ≠ B) (hQB : Q ≠ B) :
    Calls Tryd.prog 67 #[.slice ad L.length cap, .func (.func 48) #[] #[.pointer (some ⟨D, 0, none⟩), .pointer (some ⟨Q, 0, none⟩)]] w fun e w' =>
      ∃ (z : Int) (n' : Nat), e = .returned (.int .i64 z) ∧ Boxed w' B 3 (.int .i64 (n' : Int)) ∧ n ≤ n' ∧ n' ≤ 201 ∧ (z < 0 → n' ≤ 200) ∧ w.grownBy w' (some B) := by
  have HK := Lib.hid had
  have HI := Lib.hid ih
  have HW := Lib.hid (show Below W0.heap.size W0 w ∧ W0.heap.size ≤ B from ⟨hb, hWB⟩)
  have HC := Lib.hid (show w.cell? ⟨D, 0, none⟩ = some (.int .i64 (d : Int)) ∧ w.cell? ⟨Q, 0, none⟩ = some (.pointer (some ⟨B, 0, none⟩)) ∧ D ≠ B ∧ Q ≠ B from ⟨h1, h2, hDB, hQB⟩)
  have HBX := Lib.hid hB
  obtain ⟨N, hN⟩ : ∃ N, N = L.length := ⟨_, rfl⟩
  have HL := Lib.hid hN
  rw [← hN]
  clear had ih hb hWB h1 h2 hDB hQB hB hN
  go_enter Tryd.func67, Tryd.ntmps67
  go_wp2
  go_loopw [8] (fun i wr => ∃ k m : Nat, k ≤ N ∧ i = .int .i64 k ∧ k + n ≤ m ∧ m ≤ 200 ∧ Boxed wr B 3 (.int .i64 (m : Int)) ∧ w.grownBy wr (some B)) (fun i _ => N - (intOf i).toNat)
  case atStart => exact ⟨0, n, Nat.zero_le _, rfl, by omega, hn, HBX.out, gp_refl w _⟩
  case round =>
    obtain ⟨k, m, hk, rfl, hm1, hm2, hbx, hg⟩ := hrel
    by_cases hlt : k < N
    · obtain ⟨x, hx⟩ : ∃ t, L[k]? = some t := ⟨_, List.getElem?_eq_getElem (by rw [← HL.out]; exact hlt)⟩
      obtain ⟨g, off, rfl, hk0⟩ := HK.out (by rw [← HL.out]; omega)
      obtain ⟨r, hr, hrc⟩ := hk0 k x hx
      have hbW := below_grown HW.out.1 hg HW.out.2
      have HCc := long1_any W0 x (HI.out x (List.mem_of_getElem? hx)) r d m B D Q wr hbW hr HW.out.2 hbx hm2 hd (hg.cell HC.out.1 (fun e => HC.out.2.2.1 (by cases e; rfl))) (hg.cell HC.out.2.1 (fun e => HC.out.2.2.2 (by cases e; rfl)))
      obtain ⟨k', col', oth', u0, u1, u2, ad', n', cap', rfl⟩ := hr.shape
      obtain ⟨c0, c1, c2, c3, c4, c5, c6⟩ := kid_cells hbW hrc rfl
      have HG := Lib.hid hg
      have k0 : (0 : Int) ≤ (k : Int) := by omega
      have k1 : (k : Int) < (N : Int) := by omega
      have k2 : (k : Int) ≤ 200 := by omega
      clear hk0 hrc hr hx hbW hbx hg
      go_wp2_with (go_at_call 48; (with_reducible refine HCc.mono ?_); intro e w1 hpp; obtain ⟨b, m', rfl, hq1, hq2, hq3, hq4, hq5⟩ := LgP.out hpp; have HQ := Lib.hid (show Boxed w1 B 3 (.int .i64 (m' : Int)) ∧ m < m' ∧ m' ≤ 201 ∧ (b = false → m' ≤ 200) ∧ w.grownBy w1 (some B) from ⟨hq1, hq2, hq3, hq4, HG.out.trans hq5⟩); clear hq1 hq2 hq3 hq4 hq5 hpp; cases b)
      · go_roundw
        case rel => exact ⟨k + 1, m', by omega, by go_num, by have := HQ.out.2.1; omega, by have := HQ.out.2.2.2.1; simpa using this, HQ.out.1, HQ.out.2.2.2.2⟩
        case measure => simp [intOf]; omega
      · go_ret
        exact ⟨(k : Int), m', rfl, HQ.out.1, by have := HQ.out.2.1; omega, HQ.out.2.2.1, fun h => by omega, HQ.out.2.2.2.2⟩
    · have HG := Lib.hid (show Boxed wr B 3 (.int .i64 (m : Int)) ∧ w.grownBy wr (some B) from ⟨hbx, hg⟩)
      clear hbx hg
      go_wp2
      go_ret
      exact ⟨-1, m, rfl, HG.out.1, by omega, by omega, fun _ => hm2, HG.out.2⟩
set_option maxRecDepth 20000 in
theorem lhas_any (W0 : World) (L : List CN) (ih : ∀ x ∈ L, LgOk W0 x) (ad : Option Addr) (cap d n B D Q : Nat) (w : World) (hb : Below W0.heap.size W0 w) (hWB : W0.heap.size ≤ B)
    (had : L.length ≠ 0 → ∃ g off, ad = some ⟨g, off, none⟩ ∧ ∀ (i : Nat) (x : CN), L[i]? = some x → ∃ r : List Value, CnAt W0 r x ∧ ∀ (j : Nat) (u : Value), r[j]? = some u → W0.cell? ⟨g, off + (i * 7 + j), none⟩ = some u)
    (hB : Boxed w B 3 (.int .i64 (n : Int))) (hn : n ≤ 200) (hd : d ≤ 40) (h1 : w.cell? ⟨D, 0, none⟩ = some (.int .i64 (d : Int))) (h2 : w.cell? ⟨Q, 0, none⟩ = some (.pointer (some ⟨B, 0, none⟩))) (hDB : D ≠ B) (hQB : Q ≠ B) :
    Calls Tryd.prog 47 #[.slice ad L.length cap, .func (.func 48) #[] #[.pointer (some ⟨D, 0, none⟩), .pointer (some ⟨Q, 0, none⟩)]] w fun e w' =>
      ∃ (b : Bool) (n' : Nat), e = .returned (.bool b) ∧ Boxed w' B 3 (.int .i64 (n' : Int)) ∧ n ≤ n' ∧ n' ≤ 201 ∧ (b = false → n' ≤ 200) ∧ w.grownBy w' (some B) := by
  have HC := lidx_any W0 L ih ad cap d n B D Q w hb hWB had hB hn hd h1 h2 hDB hQB
  clear had ih hb hWB h1 h2 hDB hQB hB
  go_enter Tryd.func47, Tryd.ntmps47
  go_wp2_with (go_at_call 67; (with_reducible refine HC.mono ?_); intro e w1 hpp; obtain ⟨z, n', rfl, hq1, hq2, hq3, hq4, hq5⟩ := hpp; have HQ := Lib.hid (show Boxed w1 B 3 (.int .i64 (n' : Int)) ∧ n ≤ n' ∧ n' ≤ 201 ∧ (z < 0 → n' ≤ 200) ∧ w.grownBy w1 (some B) from ⟨hq1, hq2, hq3, hq4, hq5⟩); clear hq1 hq2 hq3 hq4 hq5)
  go_ret
  exact ⟨decide (0 ≤ z), n', rfl, HQ.out.1, HQ.out.2.1, HQ.out.2.2.1, fun h => HQ.out.2.2.2.1 (by simpa using h), HQ.out.2.2.2.2⟩
theorem lg_boxes (w : World) (B : Nat) (n : Int) (hB : Boxed w B 3 (.int .i64 n)) (c0 c1 c2 c3 c4 c5 c6 x y : Value) (W : World) (hW : ((w.alloc (.cells #[c0, c1, c2, c3, c4, c5, c6] 46)).alloc (.cells #[x] 3)).alloc (.cells #[y] 50) = W) :
    Boxed W B 3 (.int .i64 n) ∧ Below w.heap.size w W ∧ W.cell? ⟨w.heap.size, 0, none⟩ = some c0 ∧ W.cell? ⟨w.heap.size, 5, none⟩ = some c5 ∧ W.cell? ⟨w.heap.size, 6, none⟩ = some c6 ∧ W.cell? ⟨w.heap.size + 1, 0, none⟩ = some x ∧ W.cell? ⟨w.heap.size + 1 + 1, 0, none⟩ = some y := by
  have hb1 : Below w.heap.size w (w.alloc (.cells #[c0, c1, c2, c3, c4, c5, c6] 46)) := (Below.refl _ _).alloc (Nat.le_refl _) _
  have hb2 := hb1.alloc hb1.size (.cells #[x] 3)
  have hb3 := hb2.alloc hb2.size (.cells #[y] 50)
  have z1 : (w.alloc (.cells #[c0, c1, c2, c3, c4, c5, c6] 46)).heap.size = w.heap.size + 1 := by simp
  have z2 : ((w.alloc (.cells #[c0, c1, c2, c3, c4, c5, c6] 46)).alloc (.cells #[x] 3)).heap.size = w.heap.size + 1 + 1 := by simp
  have k : ∀ j u, #[c0, c1, c2, c3, c4, c5, c6][j]? = some u → W.cell? ⟨w.heap.size, j, none⟩ = some u := fun j u hu => by
    rw [← hW]; exact cell_alloc (cell_alloc (box_cell (box_new w _ _) j u hu) _) _
  have k2 : W.cell? ⟨w.heap.size + 1, 0, none⟩ = some x := by
    rw [← hW, ← z1]; exact cell_alloc (box_cell (box_new _ _ _) 0 _ rfl) _
  have k3 : W.cell? ⟨w.heap.size + 1 + 1, 0, none⟩ = some y := by
    rw [← hW, ← z2]; exact box_cell (box_new _ _ _) 0 _ rfl
  rw [hW] at hb3
  exact ⟨boxed_below hB hb3, hb3, k 0 _ rfl, k 5 _ rfl, k 6 _ rfl, k2, k3⟩
/-- Behind the counter's turn. -/
theorem lg_set {w W W2 : World} {B : Nat} {n y : Int} (hB : Boxed W B 3 (.int .i64 n)) (hb : Below w.heap.size w W) (h : W.setCell ⟨B, 0, none⟩ (.int .i64 y) = W2) :
    Boxed W2 B 3 (.int .i64 y) ∧ w.grownBy W2 (some B) ∧ ∀ b o u, b ≠ B → W.cell? ⟨b, o, none⟩ = some u → W2.cell? ⟨b, o, none⟩ = some u := by
  subst h
  refine ⟨hB.set _, (grown_below hb).trans (grownBy_setCell' W B _), fun b o u hne hu => ?_⟩
  rw [World.cell?_setCell_other _ _ _ _ (fun e => hne (by cases e; rfl))]
  exact hu
set_option maxRecDepth 20000 in
theorem long_any (W0 : World) : ∀ c, LgOk W0 c := by
  intro c
  induction c using CN.ind with
  | h k col oth v L ih =>
    intro cs d n B w hb hc hWB hB hn hd
    obtain ⟨s, ad, cap, rfl, rfl, had⟩ := hc.open
    obtain ⟨v0, v1, v2⟩ := v
    show Calls Tryd.prog 24 #[agC k col oth v0 v1 v2 (.slice ad L.length cap), .int .i64 (d : Int), .pointer (some ⟨B, 0, none⟩)] w _
    have hBlt := hB.lt
    have HCF := fun (W : World) (D Q : Nat) (h1 : Below W0.heap.size W0 W) (h2 : Boxed W B 3 (.int .i64 ((n + 1 : Nat) : Int))) (hn : n + 1 ≤ 200) (hd : d ≤ 40) (h3 : W.cell? ⟨D, 0, none⟩ = some (.int .i64 (d : Int))) (h4 : W.cell? ⟨Q, 0, none⟩ = some (.pointer (some ⟨B, 0, none⟩))) (h5 : D ≠ B) (h6 : Q ≠ B) =>
      lhas_any W0 L ih ad cap d (n + 1) B D Q W h1 hWB had h2 hn hd h3 h4 h5 h6
    have HX := Lib.hid (show Below W0.heap.size W0 w ∧ W0.heap.size ≤ B ∧ Boxed w B 3 (.int .i64 (n : Int)) from ⟨hb, hWB, hB⟩)
    obtain ⟨N, hN⟩ : ∃ N, N = L.length := ⟨_, rfl⟩
    rw [← hN] at HCF ⊢
    clear hb hc hWB hB ih had hN
    go_enter Tryd.func24, Tryd.ntmps24
    go_upto_region 1 with fail
    obtain ⟨W, hW⟩ : ∃ W, ((w.alloc (.cells #[.int .i64 k, .string col, .string oth, .int .i64 v0, .int .i64 v1, .string v2, .slice ad N cap] 46)).alloc (.cells #[.int .i64 (d : Int)] 3)).alloc (.cells #[.pointer (some ⟨B, 0, none⟩)] 50) = W := ⟨_, rfl⟩
    rw [hW]
    obtain ⟨hB1, hb1, p0, p5, p6, pd, pq⟩ := lg_boxes w B _ HX.out.2.2 _ _ _ _ _ _ _ _ _ W hW
    have q0 := hB1.cell
    have q1 := hB1.frozen
    clear hW
    go_upto_region 2 with fail
    obtain ⟨W2, hW2⟩ : ∃ W2, W.setCell ⟨B, 0, none⟩ (.int .i64 ((n : Int) + 1)) = W2 := ⟨_, rfl⟩
    rw [hW2]
    obtain ⟨hB2, hg2, hk2⟩ := lg_set hB1 hb1 hW2
    replace p0 := hk2 _ _ _ (by omega) p0
    replace p5 := hk2 _ _ _ (by omega) p5
    replace p6 := hk2 _ _ _ (by omega) p6
    replace pd := hk2 _ _ _ (by omega) pd
    replace pq := hk2 _ _ _ (by omega) pq
    have q2 := hB2.cell
    rw [show (n : Int) + 1 = ((n + 1 : Nat) : Int) by omega] at hB2
    have HY := Lib.hid (show Boxed W2 B 3 (.int .i64 ((n + 1 : Nat) : Int)) ∧ w.grownBy W2 (some B) from ⟨hB2, hg2⟩)
    clear hW2 hk2 hB1 hB2 hb1 hg2 q0 q1
    by_cases g1 : (200 : Int) < (n : Int) + 1
    · go_wp2
      go_ret
      exact ⟨true, n + 1, rfl, HY.out.1, by omega, by omega, (fun h => by cases h), HY.out.2⟩
    by_cases g2 : (40 : Int) < (d : Int)
    · go_wp2
      go_ret
      exact ⟨true, n + 1, rfl, HY.out.1, by omega, by omega, (fun h => by cases h), HY.out.2⟩
    by_cases g3 : (300 : Int) < (v2.size : Int)
    · go_wp2
      go_ret
      exact ⟨true, n + 1, rfl, HY.out.1, by omega, by omega, (fun h => by cases h), HY.out.2⟩
    · go_wp2_with (go_at_call 47; (with_reducible refine (HCF _ _ _ (below_grown HX.out.1 HY.out.2 HX.out.2.1) HY.out.1 (by omega) (by omega) pd pq (by omega) (by omega)).mono ?_); intro e w1 hpp; obtain ⟨z, n', rfl, hq1, hq2, hq3, hq4, hq5⟩ := hpp; have HQ := Lib.hid (show Boxed w1 B 3 (.int .i64 (n' : Int)) ∧ n + 1 ≤ n' ∧ n' ≤ 201 ∧ (z = false → n' ≤ 200) ∧ w.grownBy w1 (some B) from ⟨hq1, hq2, hq3, hq4, HY.out.2.trans hq5⟩); clear hq1 hq2 hq3 hq4 hq5)
      go_ret
      exact ⟨z, n', rfl, HQ.out.1, by have := HQ.out.2.1; omega, HQ.out.2.2.1, HQ.out.2.2.2.1, HQ.out.2.2.2.2⟩
end Go.Proofs.YtgfppajbegcaeaaDoor.Va
