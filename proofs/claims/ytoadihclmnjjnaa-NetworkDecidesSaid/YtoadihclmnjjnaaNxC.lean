/-
  Networks, the reference: Close (layer 46).
-/
import Derived.Test.YtoadihclmnjjnaaNxB
import Derived.Test.YtoadihclmnjjnaaNwC
import Derived.Deep.RegionHeldLaw
set_option linter.unusedSimpArgs false
set_option linter.unusedVariables false
set_option maxRecDepth 100000
namespace Go.Proofs.Ytoadihclmnjjnaa.Nw
open Go Go.RowKit Go.ChangeShapes Go.WideShapes Go.Proofs.Ytoadihclmnjjnaa.Sl Go.Proofs.Ytoadihclmnjjnaa.Al Go.Lib

/-- Where a round of the reference's closing stands: at i, j, k. -/
structure Rq (n i j k : Nat) (b : Bool) (X0 X : Mt) : Prop where
  same : b = false → X = X0
  d1 : b = false → ∀ i', i' < i → ∀ j' k', j' < n → k' < n → Pt X i' j' k'
  d2 : b = false → ∀ j' k', j' < j → k' < n → Pt X i j' k'
  d3 : b = false → ∀ k', k' < k → Pt X i j k'
  less : b = true → mu n X < mu n X0
theorem Rq.start (n : Nat) (X : Mt) : Rq n 0 0 0 false X X := ⟨fun _ => rfl, fun _ k' h => by omega, fun _ i' j' h => by omega, fun _ j' h => by omega, nofun⟩
theorem Rq.nextI {n i k : Nat} {b : Bool} {X0 X : Mt} (h : Rq n i n k b X0 X) : Rq n (i + 1) 0 0 b X0 X :=
  ⟨h.same, fun hb k' hk i' j' hi hj => by
    by_cases e : k' = i
    · subst e; exact h.d2 hb i' j' hi hj
    · exact h.d1 hb k' (by omega) i' j' hi hj, fun _ i' j' h => by omega, fun _ j' h => by omega, h.less⟩
theorem Rq.nextJ {n i j : Nat} {b : Bool} {X0 X : Mt} (h : Rq n i j n b X0 X) : Rq n i (j + 1) 0 b X0 X :=
  ⟨h.same, h.d1, fun hb i' j' hi hj => by
    by_cases e : i' = j
    · subst e; exact h.d3 hb j' hj
    · exact h.d2 hb i' j' (by omega) hj, fun _ j' h => by omega, h.less⟩
theorem Rq.nextK {n i j k : Nat} {b : Bool} {X0 X : Mt} (h : Rq n i j k b X0 X) (hp : Pt X i j k) : Rq n i j (k + 1) b X0 X :=
  ⟨h.same, h.d1, h.d2, fun hb j' hj => by
    by_cases e : j' = k
    · subst e; exact hp
    · exact h.d3 hb j' (by omega), h.less⟩
theorem Rq.store {n i j k : Nat} {b : Bool} {X0 X : Mt} (h : Rq n i j k b X0 X) (hi : i < n) (hj : j < n) (hx : stepX X i j k ≠ X i j) : Rq n i j (k + 1) true X0 (setM X i j (stepX X i j k)) := by
  have h1 := mu_step X hi hj hx
  refine ⟨nofun, nofun, nofun, nofun, fun _ => ?_⟩
  cases b
  · rw [← h.same rfl]; exact h1
  · exact Nat.lt_trans h1 (h.less rfl)
theorem Rq.endI {n j k : Nat} {X0 X : Mt} (h : Rq n n j k false X0 X) : ClM n X ∧ NzM n X := by
  refine ⟨fun i j k hi hj hk => ?_, fun i j hi hj => (h.d1 rfl i hi j i hj hi).2⟩
  have := (h.d1 rfl i hi j k hj hk).1
  unfold stepX at this
  exact (sub_and.1 (show Sub (X i j) (X i j &&& cmp (X i k) (X k j)) from by rw [this]; exact Sub.refl _)).2
theorem Tb.drew {w : World} {v : Value} (h : Tb w v) : Tb w.drew v := h
theorem wp_copyrow {ops : Array Oper} {rest : List Oper} {o : Oper} {a : Act} {Q : Exit → Act → World → Prop} {w : World} {g n c : Nat} {f : Nat → Nat} (hr : Rw w g n f) (hn : 0 < n) (hn2 : n ≤ 1000000) (hgd : o.guard = none) (s x : Operand)
    (ho : o.op = .call { callee := .builtin .append, args := #[s, x], argTypes := #[25, 25] }) (hs : a.eval s = .slice (some ⟨w.heap.size, 0, none⟩) 0 0) (hx : a.eval x = .slice (some ⟨g, 0, none⟩) n c)
    (h : ∀ q cap w', w.heap.size ≤ q → n ≤ cap → Rw w' q n f → Below w.heap.size w w' → wpList Try.prog ops Q rest (a.put o.dst (.slice (some ⟨q, 0, none⟩) n cap)) w') : wpList Try.prog ops Q (o :: rest) a (w.alloc (.cells #[] 3)) := by
  obtain ⟨i0, hi, hz0, hz1, hz2⟩ := info_parts infoI
  have hown : (w.alloc (.cells #[] 3)).ownsRow w.heap.size 3 1 (.slice (some ⟨w.heap.size, 0, none⟩) 0 0) 0 [] := ⟨rfl, .inr ⟨w.heap.size, 0, #[], rfl, Nat.le_refl _, heap_alloc_new w _, Nat.le_refl _, Nat.zero_le _, rfl, rfl⟩⟩
  have hr2 : Rw (w.alloc (.cells #[] 3)) g n f := hr.congr (Below.heap_alloc _ _ _ hr.lt) fun _ _ => rfl
  refine wpList_append_lies _ hgd s x _ ho w.heap.size _ i0 _ 1 8 Try.underlying25 hi hz0 hz1 hz2 rfl (by decide) _ 0 [] hs hown ⟨g, 0, none⟩ n c ((List.range n).map fun j => .int .i64 ((f j : Nat) : Int)) hx (by simp) (fun j u hu => ?_) (by intro u hu; obtain ⟨j, _, rfl⟩ := List.mem_map.1 hu; rfl) hn (by unfold maxLen; omega) (by omega) (by simp) (w.heap.size + 1) (by simp) ?_
  · have hj : j < n := by have := (List.getElem?_eq_some_iff.1 hu).1; simpa using this
    rw [List.getElem?_map, List.getElem?_range hj] at hu
    cases hu
    have hadd : (⟨g, 0, none⟩ : Addr).add j = ⟨g, j, none⟩ := by unfold Addr.add; split <;> simp_all
    rw [hadd]
    exact hr2.cell hj
  · intro q cap w' h2 h3 _ _
    rw [Nat.zero_add, List.nil_append] at h2
    obtain ⟨q', cap', e, h4, h5, h6⟩ := Rw.of_owns (f := f) h2 hn (fun j hj => by simp [hj])
    rw [Nat.zero_add]
    cases e
    exact h q cap w' h4 h5 h6 (((Below.refl _ _).alloc (Nat.le_refl _) _).grown h3 (by simp) (fun k hk => by cases hk; exact Nat.le_refl _))
/-- What the reference's Close leaves behind. -/
def RcE (n : Nat) (M : Mt) (w : World) (e : Ending) (w' : World) : Prop := Below w.heap.size w w' ∧ ∃ ok X, ClR n M X ok ∧ (ok = true → ∃ B R, e = .returned (.tuple #[.slice (some ⟨B, 0, none⟩) n n, .bool true]) ∧ Mx w' B R n X ∧ w.heap.size ≤ B ∧ ∀ i, i < n → w.heap.size ≤ R i) ∧ (ok = false → e = .returned (.tuple #[.slice none 0 0, .bool false]))
set_option maxHeartbeats 8000000 in
theorem rclose_any (v : Value) (B c n : Nat) (R : Nat → Nat) (M : Mt) (w : World) (hn : 0 < n) (hn2 : n ≤ 1000000) (hv : Tb w v) (hM : Mx w B R n M) (hb : BdM n M) : Calls Try.prog 20 #[v, .slice (some ⟨B, 0, none⟩) n c] w (RcE n M w) := by
  have HM0 := Lib.hid hM
  have HV0 := Lib.hid hv
  have HBD := Lib.hid hb
  have HMK := fun W => mk_rows n hn2 W
  clear hM hv hb
  go_enter Try.func20, Try.ntmps20
  go_wp2
  go_loopw [8] (fun kv wr => ∃ k R', k ≤ n ∧ kv = .int .i64 (k : Int) ∧ Px wr w.heap.size R' n k M ∧ (∀ i, i < k → w.heap.size < R' i) ∧ Below w.heap.size w wr ∧ w.heap.size < wr.heap.size) (fun kv _ => n - (RowKit.intOf kv).toNat)
  case atStart => exact ⟨0, fun _ => 0, Nat.zero_le _, rfl, Px.start w n _ _ M _, fun i hi => by omega, by go_grown, by simp⟩
  case round =>
    obtain ⟨k, R', hk, rfl, hP, hR, hL, hs⟩ := hrel
    by_cases hkn : k < n
    · have hk0 : (0 : Int) ≤ (k : Int) := by omega
      have hk1 : (k : Int) < (n : Int) := by omega
      have hM := HM0.out.below hL
      obtain ⟨ck, hck, c1⟩ := hM.cap hkn
      have HR := Lib.hid (hM.row k hkn)
      have hBl := block_of_cell c1
      have HP := Lib.hid hP
      clear hM hP
      go_wp2_with (at_builtin; go_must (refine wp_copyrow HR.out hn hn2 rfl (.tmp 25) (.tmp 29) rfl rfl rfl ?_); intro q cap w1 hq hcap hrw hb1; have hP1 := HP.out.below hb1; obtain ⟨u0, x0⟩ := hP1.any hkn; have f0 := hP1.frozen k; have HP1 := Lib.hid hP1; have HRW := Lib.hid hrw; have hlt := hP1.ltB; clear hP1 hrw)
      go_roundw
      case rel =>
        refine ⟨k + 1, (fun j => if j = k then q else R' j), by omega, by go_num, HP1.out.put hkn HRW.out (by omega) (fun j hj e => ?_) hcap, fun j hj => ?_, (bstep hL hb1).setCell (Nat.le_refl _) _, by simpa [World.setCell] using hlt⟩
        · have := HP.out.ltR hj; omega
        · by_cases e : j = k
          · simp only [e, if_true]; omega
          · simp only [e, if_false]; exact hR j (by omega)
      case measure => simp [RowKit.intOf]; omega
    · have hkn2 : k = n := by omega
      subst hkn2
      have hMX := Lib.hid hP.mx
      have HRR := Lib.hid hR
      have HV := Lib.hid (HV0.out.below hL)
      clear hP hR
      go_wp2
      go_loopw [9] (fun a wr => ∃ b X, a = .bool b ∧ Mx wr w.heap.size R' k X ∧ GI k M X ∧ (b = false → ClM k X ∧ NzM k X) ∧ Below w.heap.size w wr) (fun a wr => muW wr R' k + tick a)
      case atStart => exact ⟨true, M, rfl, hMX.out, GI.refl k M, (fun h => by cases h), hL⟩
      case round =>
        obtain ⟨b, X0, rfl, hX0, hG0, hF0, hL0⟩ := hrel
        cases b
        · have HF := Lib.hid (hF0 rfl)
          clear hF0
          go_wp2
          go_ret2
          exact ⟨hL0, true, X0, ⟨hG0, HF.out⟩, (fun _ => ⟨w.heap.size, R', rfl, hX0, Nat.le_refl _, fun i hi => Nat.le_of_lt (HRR.out i hi)⟩), (fun h => by cases h)⟩
        · have HX0 := Lib.hid hX0
          have HMU := Lib.hid (show muW wr R' k = mu k X0 from hX0.mu)
          clear hX0 hF0
          go_wp2
          go_loopw [9, 10] (fun a iv wi => ∃ b i X, a = .bool b ∧ i ≤ k ∧ iv = .int .i64 (i : Int) ∧ Mx wi w.heap.size R' k X ∧ GI k M X ∧ Rq k i 0 0 b X0 X ∧ Below w.heap.size w wi) (fun _ iv _ => k - (RowKit.intOf iv).toNat)
          case atStart => exact ⟨false, 0, X0, rfl, Nat.zero_le _, rfl, HX0.out, hG0, Rq.start k X0, hL0⟩
          case round =>
            obtain ⟨b, i, X1, rfl, hi, rfl, hX1, hG1, hR1, hL1⟩ := hrel
            by_cases hin : i < k
            · have hi0 : (0 : Int) ≤ (i : Int) := by omega
              have hi1 : (i : Int) < (k : Int) := by omega
              have HX1 := Lib.hid hX1
              clear hX1
              go_wp2
              go_loopw [9, 11] (fun a jv wj => ∃ b j X, a = .bool b ∧ j ≤ k ∧ jv = .int .i64 (j : Int) ∧ Mx wj w.heap.size R' k X ∧ GI k M X ∧ Rq k i j 0 b X0 X ∧ Below w.heap.size w wj) (fun _ jv _ => k - (RowKit.intOf jv).toNat)
              case atStart => exact ⟨b, 0, X1, rfl, Nat.zero_le _, rfl, HX1.out, hG1, hR1, hL1⟩
              case round =>
                obtain ⟨b2, j, X2, rfl, hj, rfl, hX2, hG2, hR2, hL2⟩ := hrel
                by_cases hjn : j < k
                · have hj0 : (0 : Int) ≤ (j : Int) := by omega
                  have hj1 : (j : Int) < (k : Int) := by omega
                  have HX2 := Lib.hid hX2
                  clear hX2
                  go_wp2
                  go_loopw [9, 12] (fun a qv wq => ∃ b q X, a = .bool b ∧ q ≤ k ∧ qv = .int .i64 (q : Int) ∧ Mx wq w.heap.size R' k X ∧ GI k M X ∧ Rq k i j q b X0 X ∧ Below w.heap.size w wq) (fun _ qv _ => k - (RowKit.intOf qv).toNat)
                  case atStart => exact ⟨b2, 0, X2, rfl, Nat.zero_le _, rfl, HX2.out, hG2, hR2, hL2⟩
                  case round =>
                    obtain ⟨b3, q, X, rfl, hq, rfl, hX, hG, hR, hL3⟩ := hrel
                    by_cases hqn : q < k
                    · have hq0 : (0 : Int) ≤ (q : Int) := by omega
                      have hq1 : (q : Int) < (k : Int) := by omega
                      obtain ⟨ci, hci, c1⟩ := hX.cap hin
                      obtain ⟨ck, hck, c4⟩ := hX.cap hqn
                      have c2 := hX.cell hin hjn
                      have c3 := hX.cell hin hqn
                      have c5 := hX.cell hqn hjn
                      have f2 := (hX.row i hin).frozen j
                      have HX := Lib.hid hX
                      have HCM := fun W (h : Tb W v) => compose_tab (X i q) (X q j) ((hG.bd HBD.out) i q hin hqn) ((hG.bd HBD.out) q j hqn hjn) v W h
                      have hTB := (HV0.out.below hL3).drew
                      obtain ⟨x, hx⟩ : ∃ x, stepX X i j q = x := ⟨_, rfl⟩
                      have hbit : bits .and .i64 ((X i j : Nat) : Int) ((cmp (X i q) (X q j) : Nat) : Int) = ((x : Nat) : Int) := by
                        have b1 := (hG.bd HBD.out) i j hin hjn
                        have b2 := cmp_lt (X i q) (X q j)
                        rw [← hx]
                        exact Bt.bits_and _ _ (by omega) (by omega)
                      have HXX := Lib.hid hx
                      clear hx hX
                      go_wp2
                      refine wp_region_held_drew (S := fun V => V.cell? ⟨w.heap.size, i, none⟩ = some (.slice (some ⟨R' i, 0, none⟩) k ci) ∧ V.cell? ⟨R' i, j, none⟩ = some (.int .i64 ((X i j : Nat) : Int)) ∧ V.cell? ⟨R' i, q, none⟩ = some (.int .i64 ((X i q : Nat) : Int)) ∧ V.cell? ⟨w.heap.size, q, none⟩ = some (.slice (some ⟨R' q, 0, none⟩) k ck) ∧ V.cell? ⟨R' q, j, none⟩ = some (.int .i64 ((X q j : Nat) : Int))) (by kernel_rfl) ⟨c1, c2, c3, c4, c5⟩ (fun hHeld => ?_)
                      (refine wpAnyH_take (i := 0) (v := ?tkv0_1) rfl (by kernel_rfl) (by kernel_rfl) (by kernel_rfl) (fun _ _ _ h => h) (Or.inl ⟨by rfl, ?tky0_1⟩) (by assumption) ?tkr0_1; case tky0_1 => (intro V hV; (try dsimp only at hV); go_simp; (try with_reducible rfl)); try simp only [Act.put, List.setIfInBounds_toArray, List.set_cons_zero, List.set_cons_succ])
                      (refine wpAnyH_take (i := 1) (v := ?tkv1_2) rfl (by kernel_rfl) (by kernel_rfl) (by kernel_rfl) (fun _ _ _ h => h) (Or.inl ⟨by rfl, ?tky1_2⟩) (by assumption) ?tkr1_2; case tky1_2 => (intro V hV; (try dsimp only at hV); go_simp; (try with_reducible rfl)); try simp only [Act.put, List.setIfInBounds_toArray, List.set_cons_zero, List.set_cons_succ])
                      (refine wpAnyH_take (i := 2) (v := ?tkv2_3) rfl (by kernel_rfl) (by kernel_rfl) (by kernel_rfl) (fun _ _ _ h => h) (Or.inl ⟨by rfl, ?tky2_3⟩) (by assumption) ?tkr2_3; case tky2_3 => (intro V hV; (try dsimp only at hV); go_simp; (try with_reducible rfl)); try simp only [Act.put, List.setIfInBounds_toArray, List.set_cons_zero, List.set_cons_succ])
                      (refine wpAnyH_take (i := 3) (v := ?tkv3_4) rfl (by kernel_rfl) (by kernel_rfl) (by kernel_rfl) (fun _ _ _ h => h) (Or.inl ⟨by rfl, ?tky3_4⟩) (by assumption) ?tkr3_4; case tky3_4 => (intro V hV; (try dsimp only at hV); go_simp; (try with_reducible rfl)); try simp only [Act.put, List.setIfInBounds_toArray, List.set_cons_zero, List.set_cons_succ])
                      (refine wpAnyH_take (i := 4) (v := ?tkv4_5) rfl (by kernel_rfl) (by kernel_rfl) (by kernel_rfl) (fun _ _ _ h => h) (Or.inl ⟨by rfl, ?tky4_5⟩) (by assumption) ?tkr4_5; case tky4_5 => (intro V hV; (try dsimp only at hV); go_simp; (try with_reducible rfl)); try simp only [Act.put, List.setIfInBounds_toArray, List.set_cons_zero, List.set_cons_succ])
                      (refine wpAnyH_take (i := 5) (v := ?tkv5_6) rfl (by kernel_rfl) (by kernel_rfl) (by kernel_rfl) (fun _ _ _ h => h) (Or.inl ⟨by rfl, ?tky5_6⟩) (by assumption) ?tkr5_6; case tky5_6 => (intro V hV; (try dsimp only at hV); go_simp; (try with_reducible rfl)); try simp only [Act.put, List.setIfInBounds_toArray, List.set_cons_zero, List.set_cons_succ])
                      (refine wpAnyH_take (i := 6) (v := ?tkv6_7) rfl (by kernel_rfl) (by kernel_rfl) (by kernel_rfl) (fun _ _ _ h => h) (Or.inl ⟨by rfl, ?tky6_7⟩) (by assumption) ?tkr6_7; case tky6_7 => (intro V hV; (try dsimp only at hV); go_simp; (try with_reducible rfl)); try simp only [Act.put, List.setIfInBounds_toArray, List.set_cons_zero, List.set_cons_succ])
                      (refine wpAnyH_take (i := 7) (v := ?tkv7_8) rfl (by kernel_rfl) (by kernel_rfl) (by kernel_rfl) (fun _ _ _ h => h) (Or.inl ⟨by rfl, ?tky7_8⟩) (by assumption) ?tkr7_8; case tky7_8 => (intro V hV; (try dsimp only at hV); go_simp; (try with_reducible rfl)); try simp only [Act.put, List.setIfInBounds_toArray, List.set_cons_zero, List.set_cons_succ])
                      (refine wpAnyH_take (i := 8) (v := ?tkv8_9) rfl (by kernel_rfl) (by kernel_rfl) (by kernel_rfl) (fun _ _ _ h => h) (Or.inl ⟨by rfl, ?tky8_9⟩) (by assumption) ?tkr8_9; case tky8_9 => (intro V hV; (try dsimp only at hV); go_simp; (try with_reducible rfl)); try simp only [Act.put, List.setIfInBounds_toArray, List.set_cons_zero, List.set_cons_succ])
                      (refine wpAnyH_take (i := 9) (v := ?tkv9_10) rfl (by kernel_rfl) (by kernel_rfl) (by kernel_rfl) (fun _ _ _ h => h) (Or.inl ⟨by rfl, ?tky9_10⟩) (by assumption) ?tkr9_10; case tky9_10 => (intro V hV; (try dsimp only at hV); go_simp; (try with_reducible rfl)); try simp only [Act.put, List.setIfInBounds_toArray, List.set_cons_zero, List.set_cons_succ])
                      (refine wpAnyH_take (i := 10) (v := ?tkv10_11) rfl (by kernel_rfl) (by kernel_rfl) (by kernel_rfl) (fun _ _ _ h => h) (Or.inl ⟨by rfl, ?tky10_11⟩) (by assumption) ?tkr10_11; case tky10_11 => (intro V hV; (try dsimp only at hV); go_simp; (try with_reducible rfl)); try simp only [Act.put, List.setIfInBounds_toArray, List.set_cons_zero, List.set_cons_succ])
                      (refine wpAnyH_take (i := 11) (v := ?tkv11_12) rfl (by kernel_rfl) (by kernel_rfl) (by kernel_rfl) (fun _ _ _ h => h) (Or.inl ⟨by rfl, ?tky11_12⟩) (by assumption) ?tkr11_12; case tky11_12 => (intro V hV; (try dsimp only at hV); go_simp; (try with_reducible rfl)); try simp only [Act.put, List.setIfInBounds_toArray, List.set_cons_zero, List.set_cons_succ])
                      (refine wpAnyH_take (i := 12) (v := ?tkv12_13) rfl (by kernel_rfl) (by kernel_rfl) (by kernel_rfl) (fun _ _ _ h => h) (Or.inl ⟨by rfl, ?tky12_13⟩) (by assumption) ?tkr12_13; case tky12_13 => (intro V hV; (try dsimp only at hV); go_simp; (try with_reducible rfl)); try simp only [Act.put, List.setIfInBounds_toArray, List.set_cons_zero, List.set_cons_succ])
                      (refine wpAnyH_take (i := 13) (v := ?tkv13_14) rfl (by kernel_rfl) (by kernel_rfl) (by kernel_rfl) (fun _ _ _ h => h) (Or.inl ⟨by rfl, ?tky13_14⟩) (by assumption) ?tkr13_14; case tky13_14 => (intro V hV; (try dsimp only at hV); go_simp; (try with_reducible rfl)); try simp only [Act.put, List.setIfInBounds_toArray, List.set_cons_zero, List.set_cons_succ])
                      (refine wpAnyH_take (i := 14) (v := ?tkv14_15) rfl (by kernel_rfl) (by kernel_rfl) (by kernel_rfl) (fun _ _ _ h => h) (Or.inl ⟨by rfl, ?tky14_15⟩) (by assumption) ?tkr14_15; case tky14_15 => (intro V hV; (try dsimp only at hV); go_simp; (try with_reducible rfl)); try simp only [Act.put, List.setIfInBounds_toArray, List.set_cons_zero, List.set_cons_succ])
                      (refine wpAnyH_take (i := 15) (v := ?tkv15_16) rfl (by kernel_rfl) (by kernel_rfl) (by kernel_rfl) (fun _ _ _ h => h) (Or.inl ⟨by rfl, ?tky15_16⟩) (by assumption) ?tkr15_16; case tky15_16 => (intro V hV; (try dsimp only at hV); go_simp; (try with_reducible rfl)); try simp only [Act.put, List.setIfInBounds_toArray, List.set_cons_zero, List.set_cons_succ])
                      (refine wpAnyH_take (i := 16) (v := ?tkv16_17) rfl (by kernel_rfl) (by kernel_rfl) (by kernel_rfl) (fun _ _ _ h => h) (Or.inl ⟨by rfl, ?tky16_17⟩) (by assumption) ?tkr16_17; case tky16_17 => (intro V hV; (try dsimp only at hV); go_simp; (try with_reducible rfl)); try simp only [Act.put, List.setIfInBounds_toArray, List.set_cons_zero, List.set_cons_succ])
                      (refine wpAnyH_take (i := 17) (v := ?tkv17_18) rfl (by kernel_rfl) (by kernel_rfl) (by kernel_rfl) (fun _ _ _ h => h) (Or.inl ⟨by rfl, ?tky17_18⟩) (by assumption) ?tkr17_18; case tky17_18 => (intro V hV; (try dsimp only at hV); go_simp; (try with_reducible rfl)); try simp only [Act.put, List.setIfInBounds_toArray, List.set_cons_zero, List.set_cons_succ])
                      (refine wpAnyH_take (i := 18) (v := ?tkv18_19) rfl (by kernel_rfl) (by kernel_rfl) (by kernel_rfl) (fun _ _ _ h => h) (Or.inl ⟨by rfl, ?tky18_19⟩) (by assumption) ?tkr18_19; case tky18_19 => (intro V hV; (try dsimp only at hV); go_simp; (try with_reducible rfl)); try simp only [Act.put, List.setIfInBounds_toArray, List.set_cons_zero, List.set_cons_succ])
                      (refine wpAnyH_take (i := 19) (v := ?tkv19_20) rfl (by kernel_rfl) (by kernel_rfl) (by kernel_rfl) (fun _ _ _ h => h) (Or.inl ⟨by rfl, ?tky19_20⟩) (by assumption) ?tkr19_20; case tky19_20 => (intro V hV; (try dsimp only at hV); go_simp; (try with_reducible rfl)); try simp only [Act.put, List.setIfInBounds_toArray, List.set_cons_zero, List.set_cons_succ])
                      (refine wpAnyH_take (i := 20) (v := ?tkv20_21) rfl (by kernel_rfl) (by kernel_rfl) (by kernel_rfl) (fun _ _ _ h => h) (Or.inl ⟨by rfl, ?tky20_21⟩) (by assumption) ?tkr20_21; case tky20_21 => (intro V hV; (try dsimp only at hV); go_simp; (try with_reducible rfl)); try simp only [Act.put, List.setIfInBounds_toArray, List.set_cons_zero, List.set_cons_succ])
                      (refine wpAnyH_take (i := 21) (v := ?tkv21_22) rfl (by kernel_rfl) (by kernel_rfl) (by kernel_rfl) (fun _ _ _ h => h) (Or.inl ⟨by rfl, ?tky21_22⟩) (by assumption) ?tkr21_22; case tky21_22 => (intro V hV; (try dsimp only at hV); go_simp; (try with_reducible rfl)); try simp only [Act.put, List.setIfInBounds_toArray, List.set_cons_zero, List.set_cons_succ])
                      (refine wpAnyH_ready (rs := [22]) (by kernel_rfl) (by simp) ?_; refine AllReadyH.cons rfl (fun K hK => ?_) AllReadyH.nil; (try go_simp); (go_at_call 62; (with_reducible refine (HCM _ hTB).mono ?_); rintro e w1 ⟨rfl, rfl⟩); refine hK.out _ _ (by (exact ⟨c1, c2, c3, c4, c5⟩)) (fun hHeld => ?_); clear hK K; try simp only [Act.put, List.setIfInBounds_toArray, List.set_cons_zero, List.set_cons_succ])
                      (refine wpAnyH_ready (rs := [23]) (by kernel_rfl) (by simp) ?_; refine AllReadyH.cons rfl (fun K hK => ?_) AllReadyH.nil; (try go_simp); refine hK.out _ _ (by (exact ⟨c1, c2, c3, c4, c5⟩)) (fun hHeld => ?_); clear hK K; try simp only [Act.put, List.setIfInBounds_toArray, List.set_cons_zero, List.set_cons_succ])
                      (refine wpAnyH_ready (rs := [24]) (by kernel_rfl) (by simp) ?_; refine AllReadyH.cons rfl (fun K hK => ?_) AllReadyH.nil; (try go_simp); refine hK.out _ _ (by (exact ⟨c1, c2, c3, c4, c5⟩)) (fun hHeld => ?_); clear hK K; try simp only [Act.put, List.setIfInBounds_toArray, List.set_cons_zero, List.set_cons_succ])
                      refine wpAnyH_done (by kernel_rfl) ?_ _
                      have e1 : wr.drew.cell? ⟨w.heap.size, i, none⟩ = some (.slice (some ⟨R' i, 0, none⟩) k ci) := c1
                      have e2 : wr.drew.cell? ⟨R' i, j, none⟩ = some (.int .i64 ((X i j : Nat) : Int)) := c2
                      have e3 : wr.drew.frozen? ⟨R' i, j, none⟩ = false := f2
                      have hXd := HX.out.drew
                      have hLd := hL3.drew
                      have HXd := Lib.hid hXd
                      clear c1 c2 c3 c4 c5 f2 HX hHeld hTB HCM hL3 hXd
                      generalize wr.drew = w1 at *
                      have lR : w.heap.size ≤ R' i := Nat.le_of_lt (HRR.out i hin)
                      by_cases h1 : x = X i j
                      · have g1 : ((x : Int) != ((X i j : Nat) : Int)) = false := by simp; omega
                        have H1 := Lib.hid h1
                        by_cases h0 : x = 0
                        · subst h0
                          clear h1
                          go_wp2
                          go_ret2
                          exact ⟨hLd, false, X, hG.none hin hjn hqn HXX.out, (fun h => by cases h), fun _ => rfl⟩
                        · have g0 : ((x : Int) == 0) = false := by simp; omega
                          have H0 := Lib.hid h0
                          clear h0 h1
                          go_wp2
                          go_roundw
                          case rel => exact ⟨b3, q + 1, X, rfl, by omega, by go_num, HXd.out, hG, hR.nextK ⟨HXX.out.trans H1.out, by rw [← H1.out]; exact H0.out⟩, hLd⟩
                          case measure => simp [RowKit.intOf]; omega
                      · have g1 : ((x : Int) != ((X i j : Nat) : Int)) = true := by simp; omega
                        have H1 := Lib.hid h1
                        by_cases h0 : x = 0
                        · have HX0 := Lib.hid h0
                          have g0 : ((x : Int) == 0) = true := by simp; omega
                          clear h0 h1
                          go_wp2
                          go_ret2
                          exact ⟨hLd.setCell (p := ⟨R' i, j, none⟩) lR _, false, X, hG.none hin hjn hqn (HXX.out.trans HX0.out), (fun h => by cases h), fun _ => rfl⟩
                        · have g0 : ((x : Int) == 0) = false := by simp; omega
                          clear h0 h1
                          go_wp2
                          go_roundw
                          case rel => exact ⟨true, q + 1, setM X i j x, rfl, by omega, by go_num, HXd.out.set hin hjn x, by have := hG.step hin hjn hqn; rw [HXX.out] at this; exact this, by have := hR.store hin hjn (by rw [HXX.out]; exact H1.out); rw [HXX.out] at this; exact this, hLd.setCell (p := ⟨R' i, j, none⟩) lR _⟩
                          case measure => simp [RowKit.intOf]; omega
                    · have hqe : q = k := by omega
                      subst hqe
                      have HX := Lib.hid hX
                      clear hX
                      go_wp2
                      go_roundw
                      case rel => exact ⟨b3, j + 1, X, rfl, by omega, by go_num, HX.out, hG, hR.nextJ, hL3⟩
                      case measure => simp [RowKit.intOf]; omega
                · have hje : j = k := by omega
                  subst hje
                  have HX := Lib.hid hX2
                  clear hX2
                  go_wp2
                  go_roundw
                  case rel => exact ⟨b2, i + 1, X2, rfl, by omega, by go_num, HX.out, hG2, hR2.nextI, hL2⟩
                  case measure => simp [RowKit.intOf]; omega
            · have hie : i = k := by omega
              subst hie
              have HX := Lib.hid hX1
              clear hX1
              go_wp2
              go_roundw
              case rel => exact ⟨b, X1, rfl, HX.out, hG1, (fun hb => by subst hb; exact hR1.endI), hL1⟩
              case measure =>
                rw [HX.out.mu, HMU.out]
                cases b
                · rw [hR1.same rfl]; simp [tick]
                · have := hR1.less rfl
                  simp [tick]; omega
end Go.Proofs.Ytoadihclmnjjnaa.Nw
