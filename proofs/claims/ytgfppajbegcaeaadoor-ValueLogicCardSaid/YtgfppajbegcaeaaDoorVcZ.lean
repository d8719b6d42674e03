/-
  The walks of the reference's nodes, Formed and Check (layer 33).
-/
import Derived.Test.YtgfppajbegcaeaaDoorVcV
set_option linter.unusedSimpArgs false
set_option linter.unusedVariables false
namespace Go.Proofs.YtgfppajbegcaeaaDoor.Va
open Go.RowKit Go.ChangeShapes Go.WideShapes Go.Proofs.YtgfppajbegcaeaaDoor.Sl Go.Lib

theorem ndsL_big (M : List CN) (d : Nat) (q : Int) (h : 60 < q) : ndsL M d q = q := by
  cases M with
  | nil => rw [ndsL]
  | cons x M => rw [ndsL, if_neg (by omega)]
theorem ndsL_step (L : List CN) (j d : Nat) (q : Int) (x : CN) (h : L[j]? = some x) (hq : q ≤ 60) : ndsL (L.drop j) d q = ndsL (L.drop (j + 1)) d (q + nds x d) := by
  have hk : j < L.length := (List.getElem?_eq_some_iff.1 h).1
  rw [List.drop_eq_getElem_cons hk, ndsL, if_pos hq, (List.getElem?_eq_some_iff.1 h).2]
theorem nds_le : ∀ c d, nds c d ≤ 61 + 60 * ((13 - d : Nat) : Int) := by
  intro c
  induction c using CN.ind with
  | h k col oth v L ih =>
    intro d
    rw [nds]
    by_cases hb : 12 < d ∨ okN k col oth v L.length = false
    · rw [if_pos hb]; omega
    · rw [if_neg hb]
      have hd : d ≤ 12 := by omega
      have key : ∀ (M : List CN), (∀ x ∈ M, x ∈ L) → ∀ q : Int, q ≤ 60 → ndsL M (d + 1) q ≤ 61 + 60 * ((13 - d : Nat) : Int) := by
        intro M
        induction M with
        | nil => intro _ q hq; rw [ndsL]; omega
        | cons x M ihM =>
          intro hM q hq
          rw [ndsL, if_pos hq]
          have h1 := ih x (hM x (by simp)) (d + 1)
          by_cases h2 : q + nds x (d + 1) ≤ 60
          · exact ihM (fun y hy => hM y (by simp [hy])) _ h2
          · rw [ndsL_big M _ _ (by omega)]; omega
      exact key L (fun _ h => h) 1 (by omega)
/-- What nodes does for one condition. -/
def NdOk (x : CN) : Prop := ∀ (cs : List Value) (d : Nat) (w : World), CnAt w cs x → szC x → 1 ≤ d → d ≤ 13 →
  Calls Tryd.prog 70 #[.agg cs.toArray, .int .i64 (d : Int)] w fun e w' => e = .returned (.int .i64 (nds x d)) ∧ Below w.heap.size w w'
set_option maxRecDepth 20000 in
theorem nds_bad (k : Int) (col oth : ByteArray) (v0 v1 : Int) (v2 : ByteArray) (s : Value) (d : Nat) (w : World) (hd0 : (0 : Int) ≤ (d : Int)) (hd : (d : Int) ≤ 12) (HP : ∀ W, Calls Tryd.prog 84 #[agC k col oth v0 v1 v2 s] W fun e w' => e = .returned (.bool false) ∧ Below W.heap.size W w') :
    Calls Tryd.prog 70 #[agC k col oth v0 v1 v2 s, .int .i64 (d : Int)] w fun e w' => e = .returned (.int .i64 61) ∧ Below w.heap.size w w' := by
  go_enter Tryd.func70, Tryd.ntmps70
  go_wp2_with (go_at_call 84; (with_reducible refine (HP _).mono ?_); rintro e w1 ⟨rfl, hb⟩; have hL : Below w.heap.size w w1 := bstep (by go_grown) hb; clear hb)
  go_ret
  exact ⟨rfl, hL⟩
set_option maxRecDepth 20000 in
theorem nds_deep (k : Int) (col oth : ByteArray) (v0 v1 : Int) (v2 : ByteArray) (s : Value) (d : Nat) (w : World) (hd : (12 : Int) < (d : Int)) :
    Calls Tryd.prog 70 #[agC k col oth v0 v1 v2 s, .int .i64 (d : Int)] w fun e w' => e = .returned (.int .i64 61) ∧ Below w.heap.size w w' := by
  go_enter Tryd.func70, Tryd.ntmps70
  go_wp2
  go_ret
  exact ⟨rfl, by go_grown⟩
set_option maxRecDepth 20000 in
theorem nds_loop (k : Int) (col oth : ByteArray) (v0 v1 : Int) (v2 : ByteArray) (L : List CN) (d : Nat) (ad : Option Addr) (cap : Nat) (w : World) (hlen : L.length ≤ 2) (ih : ∀ x ∈ L, NdOk x) (hsz : szCL L) (hd0 : (1 : Int) ≤ (d : Int)) (hd : (d : Int) ≤ 12)
    (had : L.length ≠ 0 → ∃ g off, ad = some ⟨g, off, none⟩ ∧ ∀ (i : Nat) (x : CN), L[i]? = some x → ∃ r : List Value, CnAt w r x ∧ ∀ (j : Nat) (u : Value), r[j]? = some u → w.cell? ⟨g, off + (i * 7 + j), none⟩ = some u)
    (HP : ∀ W, Calls Tryd.prog 84 #[agC k col oth v0 v1 v2 (.slice ad L.length cap)] W fun e w' => e = .returned (.bool true) ∧ Below W.heap.size W w') :
    Calls Tryd.prog 70 #[agC k col oth v0 v1 v2 (.slice ad L.length cap), .int .i64 (d : Int)] w fun e w' => e = .returned (.int .i64 (ndsL L (d + 1) 1)) ∧ Below w.heap.size w w' := by
  have HK := Lib.hid had
  have HI := Lib.hid ih
  have HZ2 := Lib.hid hsz
  obtain ⟨n, hn⟩ : ∃ n, n = L.length := ⟨_, rfl⟩
  have HL := Lib.hid hn
  rw [← hn] at hlen HP ⊢
  obtain ⟨Z, hZ⟩ : ∃ Z, ndsL L (d + 1) 1 = Z := ⟨_, rfl⟩
  have HZ := Lib.hid hZ
  rw [hZ]
  clear had ih hsz hn hZ
  go_enter Tryd.func70, Tryd.ntmps70
  go_wp2_with (go_at_call 84; (with_reducible refine (HP _).mono ?_); rintro e w1 ⟨rfl, hb⟩; have hL : Below w.heap.size w w1 := bstep (by go_grown) hb; have hx6 := Go.Proofs.YtgfppajbegcaeaaDoor.Sl.cell_kept (box_cell (box_new w #[.int .i64 k, .string col, .string oth, .int .i64 v0, .int .i64 v1, .string v2, .slice ad n cap] 46) 6 _ rfl) hb; clear hb)
  go_loopw [5, 6] (fun nv i wr => ∃ (j : Nat) (q : Int), j ≤ n ∧ i = .int .i64 j ∧ nv = .int .i64 q ∧ 1 ≤ q ∧ q ≤ 1000 ∧ Hid (ndsL (L.drop j) (d + 1) q = Z) ∧ Below w.heap.size w wr ∧ wr.cell? ⟨w.heap.size, 6, none⟩ = some (.slice ad n cap)) (fun _ i _ => n - (intOf i).toNat)
  case atStart => exact ⟨0, 1, Nat.zero_le _, rfl, rfl, by omega, by omega, Lib.hid HZ.out, hL, hx6⟩
  case round =>
    clear hL hx6
    obtain ⟨j, q, hj, rfl, rfl, hq1, hq2, HR, hL, hbx⟩ := hrel
    by_cases hlt : j < n
    · by_cases hq : q ≤ 60
      · obtain ⟨x, hx⟩ : ∃ t, L[j]? = some t := ⟨_, List.getElem?_eq_getElem (by rw [← HL.out]; exact hlt)⟩
        obtain ⟨g, off, rfl, hk0⟩ := HK.out (by rw [← HL.out]; omega)
        obtain ⟨r, hr, hrc⟩ := hk0 j x hx
        obtain ⟨k', col', oth', u0, u1, u2, ad', n', cap', rfl⟩ := hr.shape
        obtain ⟨c0, c1, c2, c3, c4, c5, c6⟩ := kid_cells hL hrc rfl
        have HC := fun (W : World) (h : Below w.heap.size w W) => HI.out x (List.mem_of_getElem? hx) _ (d + 1) W (CnAt.below h _ _ hr) (szCL_get _ HZ2.out _ (List.mem_of_getElem? hx)) (by omega) (by omega)
        rw [show ((d + 1 : Nat) : Int) = (d : Int) + 1 by omega] at HC
        have hst := ndsL_step L j (d + 1) q x hx hq
        rw [HR.out] at hst
        have hle := nds_le x (d + 1)
        have hge := (nds_spec x (d + 1)).2.2
        generalize nds x (d + 1) = t at HC hst hle hge
        have HS2 : Hid (ndsL (L.drop (j + 1)) (d + 1) (q + t) = Z) := Lib.hid hst.symm
        have j0 : (0 : Int) ≤ (j : Int) := by omega
        have j1 : (j : Int) < (n : Int) := by omega
        have hq0 : 1 ≤ q + t ∧ q + t ≤ 1000 := by omega
        clear hst hk0 hrc hr hx HZ hle
        go_wp2_with (go_at_call 70; with_reducible refine (HC _ hL).mono ?_; rintro e w1 ⟨rfl, hb⟩; have hbx2 := Go.Proofs.YtgfppajbegcaeaaDoor.Sl.cell_kept hbx hb; have hL2 := bstep hL hb; clear hb)
        go_roundw
        case rel => exact ⟨j + 1, q + t, by omega, by go_num, by go_num, hq0.1, hq0.2, HS2, hL2, hbx2⟩
        case measure => simp [intOf]; omega
      · have HS2 : Hid (Z = q) := Lib.hid (by rw [← HR.out, ndsL_big _ _ _ (by omega)])
        go_wp2
        go_ret
        exact ⟨by rw [HS2.out]; rfl, hL⟩
    · have HS2 : Hid (Z = q) := Lib.hid (by rw [← HR.out, List.drop_of_length_le (by rw [← HL.out]; omega), ndsL])
      go_wp2
      go_ret
      exact ⟨by rw [HS2.out]; rfl, hL⟩
theorem nodes_any : ∀ c, NdOk c := by
  intro c
  induction c using CN.ind with
  | h k col oth v L ih =>
    intro cs d w hc hsz hd1 hd
    obtain ⟨s, ad, cap, rfl, rfl, had⟩ := hc.open
    obtain ⟨v0, v1, v2⟩ := v
    rw [szC] at hsz
    show Calls Tryd.prog 70 #[agC k col oth v0 v1 v2 (.slice ad L.length cap), .int .i64 (d : Int)] w _
    rw [nds]
    by_cases hd2 : 12 < d
    · rw [if_pos (.inl hd2)]
      exact nds_deep k col oth v0 v1 v2 _ d w (by omega)
    have HP := fun W => rplain_any k col oth v0 v1 v2 ad L.length cap W hsz.1
    cases ho : okN k col oth (v0, v1, v2) L.length
    · rw [ho] at HP
      rw [if_pos (.inr rfl)]
      exact nds_bad k col oth v0 v1 v2 _ d w (by omega) (by omega) HP
    · rw [ho] at HP
      rw [if_neg (by simp [hd2])]
      exact nds_loop k col oth v0 v1 v2 L d ad cap w (okN_len ho).1 ih hsz.2 (by omega) (by omega) had HP
set_option maxRecDepth 20000 in
theorem rformed_any (c : CN) (cs : List Value) (w : World) (hc : CnAt w cs c) (hsz : szC c) : Calls Tryd.prog 53 #[.agg cs.toArray] w fun e w' => e = .returned (.bool (wellF c)) ∧ Below w.heap.size w w' := by
  obtain ⟨k, col, oth, v0, v1, v2, ad, n, cap, rfl⟩ := hc.shape
  have HN := fun (W : World) (h : Below w.heap.size w W) => nodes_any c _ 1 W (CnAt.below h _ _ hc) hsz (by omega) (by omega)
  rw [show ((1 : Nat) : Int) = 1 from rfl] at HN
  have hw := nds_well c
  generalize nds c 1 = z at HN hw
  rw [← hw]
  clear hw
  go_enter Tryd.func53, Tryd.ntmps53
  go_wp2_with (go_at_call 70; with_reducible refine (HN _ (by go_grown)).mono ?_; rintro e w1 ⟨rfl, hb⟩; have hL : Below w.heap.size w w1 := bstep (by go_grown) hb; clear hb)
  go_ret
  exact ⟨rfl, hL⟩
set_option maxRecDepth 20000 in
theorem rcheck_any (c : CN) (cs : List Value) (l : List Cl) (hl : l.length ≤ 2000000) (sl : Value) (w : World) (hc : CnAt w cs c) (hs : Cs w sl l) (hsz : szC c) :
    Calls Tryd.prog 28 #[.agg cs.toArray, sl] w fun e w' => e = .returned (.int .i64 (chk c l)) ∧ Below w.heap.size w w' := by
  obtain ⟨k, col, oth, v0, v1, v2, ad, n, cap, rfl⟩ := hc.shape
  have HF := fun (W : World) (h : Below w.heap.size w W) => rformed_any c _ W (CnAt.below h _ _ hc) hsz
  have hbx : ∀ (w1 : World), Below (w.alloc (.cells #[.int .i64 k, .string col, .string oth, .int .i64 v0, .int .i64 v1, .string v2, .slice ad n cap] 46)).heap.size (w.alloc (.cells #[.int .i64 k, .string col, .string oth, .int .i64 v0, .int .i64 v1, .string v2, .slice ad n cap] 46)) w1 →
      ∀ j u, #[.int .i64 k, .string col, .string oth, .int .i64 v0, .int .i64 v1, .string v2, .slice ad n cap][j]? = some u → w1.cell? ⟨w.heap.size, j, none⟩ = some u := fun w1 hb j u hu => Go.Proofs.YtgfppajbegcaeaaDoor.Sl.cell_kept (box_cell (box_new w _ _) j u hu) hb
  unfold chk
  cases hw : wellF c
  · rw [hw] at HF
    go_enter Tryd.func28, Tryd.ntmps28
    go_wp2_with (go_at_call 53; with_reducible refine (HF _ (by go_grown)).mono ?_; rintro e w1 ⟨rfl, hb⟩; have hL : Below w.heap.size w w1 := bstep (by go_grown) hb; clear hb)
    go_ret
    exact ⟨rfl, hL⟩
  · rw [hw] at HF
    have HT := fun (W : World) (h : Below w.heap.size w W) => rtp_any l hl c _ 1 sl W (CnAt.below h _ _ hc) (wellF_good hw) (hs.below h)
    go_enter Tryd.func28, Tryd.ntmps28
    go_wp2_with (first | (go_at_call 53; with_reducible refine (HF _ (by go_grown)).mono ?_; rintro e w1 ⟨rfl, hb⟩; have c0 := hbx _ hb 0 _ rfl; have c1 := hbx _ hb 1 _ rfl; have c2 := hbx _ hb 2 _ rfl; have c3 := hbx _ hb 3 _ rfl; have c4 := hbx _ hb 4 _ rfl; have c5 := hbx _ hb 5 _ rfl; have c6 := hbx _ hb 6 _ rfl; have hL : Below w.heap.size w w1 := bstep (by go_grown) hb; clear hb) | (go_at_call 54; with_reducible refine (HT _ hL).mono ?_; rintro e w2 ⟨rfl, hb⟩; have hL2 := bstep hL hb; clear hb))
    go_ret
    exact ⟨rfl, hL2⟩
end Go.Proofs.YtgfppajbegcaeaaDoor.Va
