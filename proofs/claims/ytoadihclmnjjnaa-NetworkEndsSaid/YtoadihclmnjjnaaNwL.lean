/-
  Networks: Close, Consistent, Scenario (layer 46).
-/
import Derived.Test.YtoadihclmnjjnaaNwS
import Derived.Test.YtoadihclmnjjnaaNwT
set_option linter.unusedSimpArgs false
set_option linter.unusedVariables false
set_option maxRecDepth 100000
namespace Go.Proofs.Ytoadihclmnjjnaa.Nw
open Go Go.RowKit Go.ChangeShapes Go.WideShapes Go.Proofs.Ytoadihclmnjjnaa.Sl Go.Proofs.Ytoadihclmnjjnaa.Al Go.Lib

/-! ### the matrix of a network is symmetric -/
theorem invN_64 : invN 64 = 64 := inv_pow 6 (by omega)
theorem invN_full : invN 8191 = 8191 := by
  apply Nat.eq_of_testBit_eq
  intro c
  rcases Nat.lt_or_ge 12 c with hc | hc
  · rw [invN_big _ _ hc]
    have : (8191 : Nat).testBit c = false := by
      cases h : (8191 : Nat).testBit c
      · rfl
      · have := bit13 (show (8191 : Nat) < 8192 by decide) h; omega
    rw [this]
  · rw [invN_bit _ _ hc]
    have hall : ∀ c ≤ 12, (8191 : Nat).testBit c = true := of_decide_eq_true (by kernel_rfl)
    rw [hall c hc, hall (12 - c) (by omega)]
theorem sym_mat0 (n : Nat) : SyM n mat0 := fun i j _ _ => by
  unfold mat0
  by_cases e : i = j
  · rw [if_pos e, if_pos e.symm, invN_64]
  · rw [if_neg e, if_neg (Ne.symm e), invN_full]
theorem sym_stepB {n : Nat} {M : Mt} (h : SyM n M) {i j s : Nat} (hi : i < n) (hj : j < n) (hs : s < 8192) : SyM n (stepB M i j s) := by
  intro a b ha hb
  by_cases e : i = j
  · subst e
    unfold stepB stepA
    by_cases e2 : a = i ∧ b = i
    · obtain ⟨rfl, rfl⟩ := e2
      simp only [setM_same]
      rw [inv_and, inv_and, inv_inv s hs, ← h _ _ hb hb, Nat.and_assoc, Nat.and_assoc, Nat.and_comm s]
    · rw [setM_other _ _ _ _ a b e2, setM_other _ _ _ _ a b e2, setM_other _ _ _ _ b a (by omega), setM_other _ _ _ _ b a (by omega)]
      exact h a b ha hb
  · have e3 : ∀ x y, stepB M i j s x y = if x = j ∧ y = i then M j i &&& invN s else if x = i ∧ y = j then M i j &&& s else M x y := fun x y => by
      unfold stepB stepA setM
      by_cases q1 : x = j ∧ y = i
      · rw [if_pos q1, if_pos q1, if_neg (by omega)]
      · rw [if_neg q1, if_neg q1]
    rw [e3, e3]
    by_cases q1 : a = j ∧ b = i
    · obtain ⟨rfl, rfl⟩ := q1
      rw [if_neg (by omega), if_pos ⟨rfl, rfl⟩, if_pos ⟨rfl, rfl⟩, inv_and, inv_inv s hs, ← h _ _ ha hb]
    · by_cases q2 : a = i ∧ b = j
      · obtain ⟨rfl, rfl⟩ := q2
        rw [if_pos ⟨rfl, rfl⟩, if_neg q1, if_pos ⟨rfl, rfl⟩, inv_and, ← h _ _ ha hb]
      · rw [if_neg (by omega), if_neg (by omega), if_neg q1, if_neg q2]
        exact h a b ha hb
theorem stepB_sub (M : Mt) (i j s a b : Nat) : Sub (stepB M i j s a b) (M a b) := by
  have hA : ∀ a b, Sub (stepA M i j s a b) (M a b) := fun a b => by
    unfold stepA
    by_cases e : a = i ∧ b = j
    · obtain ⟨rfl, rfl⟩ := e; rw [setM_same]; exact and_sub_left _ _
    · rw [setM_other _ _ _ _ _ _ e]; exact Sub.refl _
  unfold stepB
  by_cases e : a = j ∧ b = i
  · obtain ⟨rfl, rfl⟩ := e; rw [setM_same]; exact (and_sub_left _ _).trans (hA _ _)
  · rw [setM_other _ _ _ _ _ _ e]; exact hA a b
theorem zero_sub (x : Nat) : Sub 0 x := fun c hc => by rw [Nat.zero_testBit] at hc; cases hc
theorem stepM_sub (M : Mt) (r : Rl) (a b : Nat) : Sub (stepM M r a b) (M a b) := by
  unfold stepM
  split
  · exact zero_sub _
  · exact stepB_sub _ _ _ _ _ _
theorem sym_mat {n : Nat} : ∀ (l : List Rl) (M : Mt), (∀ r ∈ l, OkR n r) → SyM n M → SyM n (l.foldl stepM M)
  | [], M, _, h => h
  | r :: l, M, hok, h => by
    refine sym_mat l _ (fun r hr => hok r (by simp [hr])) ?_
    obtain ⟨i, j, s, rfl, hi, hj, hs⟩ := hok r (by simp)
    rw [stepM_ok]
    split
    · intro a b _ _; exact inv_zero.symm
    · exact sym_stepB h hi hj hs
theorem sym_matN {n : Nat} (l : List Rl) (hok : ∀ r ∈ l, OkR n r) : SyM n (matN l) := sym_mat l mat0 hok (sym_mat0 n)
theorem sub_mat : ∀ (l : List Rl) (M : Mt) (a b : Nat), Sub (l.foldl stepM M a b) (M a b)
  | [], M, a, b => Sub.refl _
  | r :: l, M, a, b => (sub_mat l _ a b).trans (stepM_sub M r a b)
theorem dg_matN (n : Nat) (l : List Rl) : DgM n (matN l) := fun i _ => by
  have := sub_mat l mat0 i i
  unfold mat0 at this
  rw [if_pos rfl] at this
  exact this
theorem vld_ok {n : Int} {l : List Rl} (h : vldN n l = true) : ∃ k : Nat, n = (k : Int) ∧ 0 < k ∧ k ≤ 8 ∧ l.length ≤ 200 ∧ ∀ r ∈ l, OkR k r := by
  unfold vldN at h
  simp only [Bool.and_eq_true, decide_eq_true_eq, Bool.not_eq_true'] at h
  obtain ⟨⟨⟨h1, h2⟩, h3⟩, h4⟩ := h
  refine ⟨n.toNat, by omega, by omega, by omega, h3, fun r hr => ok_of_bad ?_⟩
  rw [show ((n.toNat : Nat) : Int) = n by omega]
  exact List.any_eq_false.1 h4 r hr |> fun h => by simpa using h
/-! ### the walks -/
theorem matrix_any (n : Nat) (l : List Rl) (s : Value) (w : World) (hn : 0 < n) (hn8 : n ≤ 8) (hs : Rs w s l) (hl : l.length ≤ 1000000) (hok : ∀ r ∈ l, OkR n r) :
    Calls Try.prog 52 #[.int .i64 (n : Int), s] w fun e w' => ∃ B R, e = .returned (.slice (some ⟨B, 0, none⟩) n n) ∧ Mx w' B R n (matN l) ∧ w.heap.size ≤ B ∧ (∀ i, i < n → w.heap.size ≤ R i) ∧ Below w.heap.size w w' := by
  obtain ⟨ad, cap, rfl⟩ := hs.form
  exact matrix_start n l ad l.length cap w hn hn8 rfl hs hl hok
/-- What a search over a network leaves behind. -/
def ScE (n : Nat) (l : List Rl) (w : World) (v : Value) (ok : Bool) (w' : World) : Prop := Below w.heap.size w w' ∧ (ok = true → ∃ B R X c, v = .slice (some ⟨B, 0, none⟩) n c ∧ Mx w' B R n X ∧ Sc n X ∧ LeM n X (matN l)) ∧ (ok = false → v = .slice none 0 0 ∧ ¬ Sat n (matN l))
theorem ScE.sat {n : Nat} {l : List Rl} {w w' : World} {v : Value} {ok : Bool} (h : ScE n l w v ok w') : ok = true ↔ Sat n (matN l) := by
  obtain ⟨_, h1, h2⟩ := h
  cases ok
  · exact ⟨fun h => (by cases h), fun h => ((h2 rfl).2 h).elim⟩
  · obtain ⟨B, R, X, c, _, _, h3, h4⟩ := h1 rfl
    exact ⟨fun _ => ⟨X, h3, h4⟩, fun _ => rfl⟩
theorem ScE.below {n : Nat} {l : List Rl} {w w' : World} {v : Value} {ok : Bool} (h : ScE n l w v ok w') : Below w.heap.size w w' := h.1
set_option maxHeartbeats 4000000 in
theorem scenario_any (n : Nat) (l : List Rl) (s : Value) (w : World) (hn : 0 < n) (hn8 : n ≤ 8) (hs : Rs w s l) (hl : l.length ≤ 1000000) (hok : ∀ r ∈ l, OkR n r) :
    Calls Try.prog 69 #[.int .i64 (n : Int), s] w fun e w' => ∃ v ok, e = .returned (.tuple #[v, .bool ok]) ∧ ScE n l w v ok w' := by
  have hmm := @run_makeMap Try.prog
  have HMA := fun W (h : Below w.heap.size w W) => matrix_any n l s W hn hn8 (hs.below h) hl hok
  have HSY := Lib.hid (sym_matN l hok)
  have hSV := fun C B c R W hM hC => solved_any (mu n (matN l) + 1) C B c n R (matN l) W (by omega) hn (by omega) hM (bd_matN n l) (sym_matN l hok) (dg_matN n l) hC
  clear hs hok
  have key : ∀ (e : Ending) (w2 w3 : World) (B : Nat) (R : Nat → Nat), w.heap.size ≤ B → (∀ i, i < n → w.heap.size ≤ R i) → Below w.heap.size w w2 → SvE w.heap.size n R (matN l) w2 e w3 → ∃ v ok, e = .returned (.tuple #[v, .bool ok]) ∧ ScE n l w v ok w3 := by
    rintro e w2 w3 B R hB hR hb ⟨ok, v, rfl, _, hd, h1, h2⟩
    refine ⟨v, ok, rfl, hd.below' hb (by
      rintro k (rfl | ⟨a, ha, rfl⟩)
      · exact Nat.le_refl _
      · exact hR a ha) hb.size, h1, fun h => ?_⟩
    obtain ⟨h3, h4⟩ := h2 h
    exact ⟨h3, fun ⟨N, hN, hle⟩ => h4 N hN hle⟩
  have HK := Lib.hid key
  clear key
  go_enter Try.func69, Try.ntmps69
  go_wp2_with (first | (go_at_call 52; (with_reducible refine (HMA _ (by go_grown)).mono ?_); rintro e w2 ⟨B, R, rfl, hM, hB, hR, hb⟩; have hmo := (Memo.made w).keep (S := fun _ => False) (Md.of_below hb) (fun h => h)) | (go_at_call 51; (with_reducible refine (hSV _ B _ R _ hM hmo).mono ?_); rintro e w3 hsv; have hz : w.heap.size ≤ (w.alloc (.map #[] 0)).heap.size := (by simp); obtain ⟨v, ok, rfl, hsc⟩ := HK.out e _ w3 B R (Nat.le_trans hz hB) (fun i hi => Nat.le_trans hz (hR i hi)) (bstep ((Below.refl _ _).alloc (Nat.le_refl _) _) hb) hsv))
  go_ret2
  exact ⟨v, ok, rfl, hsc⟩
theorem big_len {n : Int} {l : List Rl} (h : ¬ l.length ≤ 200) : vldN n l = false := by unfold vldN; simp; omega
/-- What Consistent returns. -/
def CnE (P : Prop) (w : World) (e : Ending) (w' : World) : Prop := ∃ b, e = .returned (.tuple #[.bool b, .int .i64 0]) ∧ (b = true ↔ P) ∧ Below w.heap.size w w'
set_option maxHeartbeats 4000000 in
theorem consistent_ok (n : Nat) (l : List Rl) (s : Value) (w : World) (hs : Rs w s l) (hv : vldN (n : Int) l = true) :
    Calls Try.prog 32 #[.int .i64 (n : Int), s] w (CnE (Sat n (matN l)) w) := by
  obtain ⟨k, hk, h1, h2, h3, h4⟩ := vld_ok hv
  obtain rfl : n = k := by omega
  have HV := fun W => nvalid_any (n : Int) l s W
  rw [hv] at HV
  have HSC := fun W h => scenario_any n l s W h1 h2 h (by omega) h4
  have HS := Lib.hid hs
  clear hs hv h4 hk
  go_enter Try.func32, Try.ntmps32
  go_wp2_with (first | (go_at_call 19; (with_reducible refine (HV _ HS.out).mono ?_); rintro e w1 ⟨rfl, hb1⟩) | (go_at_call 69; (with_reducible refine (HSC _ (HS.out.below hb1)).mono ?_); rintro e w2 ⟨v, ok, rfl, hsc⟩))
  go_ret2
  exact ⟨ok, rfl, hsc.sat, bstep hb1 hsc.below⟩
theorem consistent_bad (n : Int) (l : List Rl) (s : Value) (w : World) (hs : Rs w s l) (hv : vldN n l = false) :
    Calls Try.prog 32 #[.int .i64 n, s] w fun e w' => e = .returned (.tuple #[.bool false, .int .i64 1]) ∧ Below w.heap.size w w' := by
  have HV := nvalid_any n l s w hs
  rw [hv] at HV
  clear hs hv
  go_enter Try.func32, Try.ntmps32
  go_wp2_with (go_at_call 19; (with_reducible refine HV.mono ?_); rintro e w1 ⟨rfl, hb1⟩)
  go_ret2
  exact ⟨rfl, hb1⟩
set_option maxHeartbeats 4000000 in
theorem scen_ok (n : Nat) (l : List Rl) (s : Value) (w : World) (hs : Rs w s l) (hv : vldN (n : Int) l = true) :
    Calls Try.prog 35 #[.int .i64 (n : Int), s] w fun e w' => ∃ v ok, e = .returned (.tuple #[v, .int .i64 (if ok = true then 0 else 17)]) ∧ ScE n l w v ok w' := by
  obtain ⟨k, hk, h1, h2, h3, h4⟩ := vld_ok hv
  obtain rfl : n = k := by omega
  have HV := fun W => nvalid_any (n : Int) l s W
  rw [hv] at HV
  have HSC := fun W h => scenario_any n l s W h1 h2 h (by omega) h4
  have HS := Lib.hid hs
  have key : ∀ (w1 w2 : World) (v : Value) (ok : Bool), Below w.heap.size w w1 → ScE n l w1 v ok w2 → ScE n l w v ok w2 := fun w1 w2 v ok hb h => ⟨bstep hb h.1, h.2.1, h.2.2⟩
  have HK := Lib.hid key
  clear hs hv h4 hk key
  go_enter Try.func35, Try.ntmps35
  go_wp2_with (first | (go_at_call 19; (with_reducible refine (HV _ HS.out).mono ?_); rintro e w1 ⟨rfl, hb1⟩) | (go_at_call 69; (with_reducible refine (HSC _ (HS.out.below hb1)).mono ?_); rintro e w2 ⟨v, ok, rfl, hsc⟩; cases ok))
  · go_ret2
    have h5 := HK.out _ _ _ _ hb1 hsc
    obtain ⟨rfl, _⟩ := h5.2.2 rfl
    exact ⟨_, false, rfl, h5⟩
  · go_ret2
    exact ⟨v, true, rfl, HK.out _ _ _ _ hb1 hsc⟩
theorem scen_bad (n : Int) (l : List Rl) (s : Value) (w : World) (hs : Rs w s l) (hv : vldN n l = false) :
    Calls Try.prog 35 #[.int .i64 n, s] w fun e w' => e = .returned (.tuple #[.slice none 0 0, .int .i64 1]) ∧ Below w.heap.size w w' := by
  have HV := nvalid_any n l s w hs
  rw [hv] at HV
  clear hs hv
  go_enter Try.func35, Try.ntmps35
  go_wp2_with (go_at_call 19; (with_reducible refine HV.mono ?_); rintro e w1 ⟨rfl, hb1⟩)
  go_ret2
  exact ⟨rfl, hb1⟩
/-- What Close leaves behind. -/
def CoE (n : Nat) (l : List Rl) (w : World) (e : Ending) (w' : World) : Prop := Below w.heap.size w w' ∧ ∃ X ok, ClR n (matN l) X ok ∧ (ok = true → ∃ B R, e = .returned (.tuple #[.slice (some ⟨B, 0, none⟩) n n, .int .i64 0]) ∧ Mx w' B R n X ∧ w.heap.size ≤ B ∧ ∀ i, i < n → w.heap.size ≤ R i) ∧ (ok = false → e = .returned (.tuple #[.slice none 0 0, .int .i64 17]))
set_option maxHeartbeats 4000000 in
theorem close_ok (n : Nat) (l : List Rl) (s : Value) (w : World) (hs : Rs w s l) (hv : vldN (n : Int) l = true) :
    Calls Try.prog 18 #[.int .i64 (n : Int), s] w (CoE n l w) := by
  obtain ⟨k, hk, h1, h2, h3, h4⟩ := vld_ok hv
  obtain rfl : n = k := by omega
  have hmm := @run_makeMap Try.prog
  have HV := fun W => nvalid_any (n : Int) l s W
  rw [hv] at HV
  have HMA := fun W (h : Rs W s l) => matrix_any n l s W h1 h2 h (by omega) h4
  have hCL := fun C B c R W hM hC => closed_any C B c n R (matN l) W (by omega) hM (bd_matN n l) hC
  have HS := Lib.hid hs
  have key : ∀ (w1 w2 w3 : World) (B : Nat) (R : Nat → Nat) (X : Mt), Below w.heap.size w w1 → Below w1.heap.size w1 w2 → (∀ i, i < n → w1.heap.size ≤ R i) → Md (fun k => k = w2.heap.size ∨ Rows R n k) (w2.alloc (.map #[] 0)) w3 → Below w.heap.size w w3 := by
    intro w1 w2 w3 B R X hb1 hb2 hR hd
    have hb12 := bstep hb1 hb2
    refine hd.below' (hb12.alloc hb12.size _) (by
      rintro k (rfl | ⟨a, ha, rfl⟩)
      · exact hb12.size
      · exact Nat.le_trans hb1.size (hR a ha)) (by have := hb12.size; simp; omega)
  have HK := Lib.hid key
  clear hs hv h4 hk key
  go_enter Try.func18, Try.ntmps18
  go_wp2_with (first | (go_at_call 19; (with_reducible refine (HV _ HS.out).mono ?_); rintro e w1 ⟨rfl, hb1⟩) | (go_at_call 52; (with_reducible refine (HMA _ (HS.out.below hb1)).mono ?_); rintro e w2 ⟨B, R, rfl, hM, hB, hR, hb2⟩; have hmo := Memo.made w2; have hM2 := hM.below ((Below.refl _ _).alloc (Nat.le_refl _) (.map #[] 0))) | (go_at_call 58; (with_reducible refine (hCL _ B _ R _ hM2 hmo).mono ?_); rintro e w3 ⟨ok, X, rfl, hX, hcl, _, hd⟩; have HX := Lib.hid hX; clear hX hM2 hM hmo; cases ok))
  · go_ret2
    exact ⟨HK.out _ _ _ B R X hb1 hb2 hR hd, X, false, hcl, (fun h => by cases h), fun _ => rfl⟩
  · go_ret2
    exact ⟨HK.out _ _ _ B R X hb1 hb2 hR hd, X, true, hcl, (fun _ => ⟨B, R, rfl, HX.out, Nat.le_trans hb1.size hB, fun i hi => Nat.le_trans hb1.size (hR i hi)⟩), (fun h => by cases h)⟩
theorem close_bad (n : Int) (l : List Rl) (s : Value) (w : World) (hs : Rs w s l) (hv : vldN n l = false) :
    Calls Try.prog 18 #[.int .i64 n, s] w fun e w' => e = .returned (.tuple #[.slice none 0 0, .int .i64 1]) ∧ Below w.heap.size w w' := by
  have HV := nvalid_any n l s w hs
  rw [hv] at HV
  clear hs hv
  go_enter Try.func18, Try.ntmps18
  go_wp2_with (go_at_call 19; (with_reducible refine HV.mono ?_); rintro e w1 ⟨rfl, hb1⟩)
  go_ret2
  exact ⟨rfl, hb1⟩
end Go.Proofs.Ytoadihclmnjjnaa.Nw
