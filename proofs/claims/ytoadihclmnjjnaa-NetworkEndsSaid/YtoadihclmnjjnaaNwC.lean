/-
  Networks: the composer's closed (layer 46).
-/
import Derived.Test.YtoadihclmnjjnaaNwM
import Derived.Deep.RegionHeld3
import Derived.Deep.RegionHeldLaw
set_option linter.unusedSimpArgs false
set_option linter.unusedVariables false
set_option maxRecDepth 100000
namespace Go.Proofs.Ytoadihclmnjjnaa.Nw
open Go Go.RowKit Go.ChangeShapes Go.WideShapes Go.Proofs.Ytoadihclmnjjnaa.Sl Go.Proofs.Ytoadihclmnjjnaa.Al Go.Lib

def tick : Value → Nat
  | .bool true => 1
  | _ => 0
def Pt (X : Mt) (i j k : Nat) : Prop := stepX X i j k = X i j ∧ X i j ≠ 0
/-- Where a round of closing stands: at k, i, j; b: has anything been changed since X0? -/
structure Rn (n k i j : Nat) (b : Bool) (X0 X : Mt) : Prop where
  same : b = false → X = X0
  d1 : b = false → ∀ k', k' < k → ∀ i' j', i' < n → j' < n → Pt X i' j' k'
  d2 : b = false → ∀ i' j', i' < i → j' < n → Pt X i' j' k
  d3 : b = false → ∀ j', j' < j → Pt X i j' k
  less : b = true → mu n X < mu n X0
theorem Rn.start (n : Nat) (X : Mt) : Rn n 0 0 0 false X X := ⟨fun _ => rfl, fun _ k' h => by omega, fun _ i' j' h => by omega, fun _ j' h => by omega, nofun⟩
theorem Rn.nextK {n k j : Nat} {b : Bool} {X0 X : Mt} (h : Rn n k n j b X0 X) : Rn n (k + 1) 0 0 b X0 X :=
  ⟨h.same, fun hb k' hk i' j' hi hj => by
    by_cases e : k' = k
    · subst e; exact h.d2 hb i' j' hi hj
    · exact h.d1 hb k' (by omega) i' j' hi hj, fun _ i' j' h => by omega, fun _ j' h => by omega, h.less⟩
theorem Rn.nextI {n k i : Nat} {b : Bool} {X0 X : Mt} (h : Rn n k i n b X0 X) : Rn n k (i + 1) 0 b X0 X :=
  ⟨h.same, h.d1, fun hb i' j' hi hj => by
    by_cases e : i' = i
    · subst e; exact h.d3 hb j' hj
    · exact h.d2 hb i' j' (by omega) hj, fun _ j' h => by omega, h.less⟩
theorem Rn.nextJ {n k i j : Nat} {b : Bool} {X0 X : Mt} (h : Rn n k i j b X0 X) (hp : Pt X i j k) : Rn n k i (j + 1) b X0 X :=
  ⟨h.same, h.d1, h.d2, fun hb j' hj => by
    by_cases e : j' = j
    · subst e; exact hp
    · exact h.d3 hb j' (by omega), h.less⟩
theorem Rn.store {n k i j : Nat} {b : Bool} {X0 X : Mt} (h : Rn n k i j b X0 X) (hi : i < n) (hj : j < n) (hx : stepX X i j k ≠ X i j) : Rn n k i (j + 1) true X0 (setM X i j (stepX X i j k)) := by
  have h1 := mu_step X hi hj hx
  refine ⟨nofun, nofun, nofun, nofun, fun _ => ?_⟩
  cases b
  · rw [← h.same rfl]; exact h1
  · exact Nat.lt_trans h1 (h.less rfl)
theorem Rn.endK {n i j : Nat} {X0 X : Mt} (h : Rn n n i j false X0 X) : ClM n X ∧ NzM n X := by
  refine ⟨fun i j k hi hj hk => ?_, fun i j hi hj => (h.d1 rfl i hi i j hi hj).2⟩
  have := (h.d1 rfl k hk i j hi hj).1
  unfold stepX at this
  exact (sub_and.1 (show Sub (X i j) (X i j &&& cmp (X i k) (X k j)) from by rw [this]; exact Sub.refl _)).2

/-- What closed leaves behind. -/
def ClE (C B n : Nat) (R : Nat → Nat) (M : Mt) (w : World) (e : Ending) (w' : World) : Prop := ∃ ok X, e = .returned (.bool ok) ∧ Mx w' B R n X ∧ ClR n M X ok ∧ Memo w' C ∧ Md (fun k => k = C ∨ Rows R n k) w w'
set_option maxHeartbeats 8000000 in
theorem closed_any (C B c n : Nat) (R : Nat → Nat) (M : Mt) (w : World) (hn : n ≤ 1000000) (hM : Mx w B R n M) (hb : BdM n M) (hC : Memo w C) :
    Calls Try.prog 58 #[.map (some C), .slice (some ⟨B, 0, none⟩) n c] w (ClE C B n R M w) := by
  have HM0 := Lib.hid hM
  have HC0 := Lib.hid hC
  have HB := Lib.hid hb
  have HCB := Lib.hid (hC.neB hM)
  have HCR := Lib.hid (fun i (hi : i < n) => hC.ne (hM.row i hi))
  clear hM hC hb
  go_enter Try.func58, Try.ntmps58
  go_wp2
  go_loopw [5] (fun a wr => ∃ b X, a = .bool b ∧ Mx wr B R n X ∧ GI n M X ∧ (b = false → ClM n X ∧ NzM n X) ∧ Memo wr C ∧ Md (fun k => k = C ∨ Rows R n k) w wr) (fun a wr => muW wr R n + tick a)
  case atStart => exact ⟨true, M, rfl, HM0.out, GI.refl n M, (fun h => by cases h), HC0.out, Md.refl _ _⟩
  case round =>
    obtain ⟨b, X0, rfl, hX0, hG0, hF0, hC0, hD0⟩ := hrel
    cases b
    · have HF := Lib.hid (hF0 rfl)
      clear hF0
      go_wp2
      go_ret
      exact ⟨true, X0, rfl, hX0, ⟨hG0, HF.out⟩, hC0, hD0⟩
    · have HX0 := Lib.hid hX0
      have hmu : muW wr R n = mu n X0 := hX0.mu
      have HMU := Lib.hid hmu
      clear hX0 hF0 hmu
      go_wp2
      go_loopw [5, 13] (fun a kv wk => ∃ b k X, a = .bool b ∧ k ≤ n ∧ kv = .int .i64 (k : Int) ∧ Mx wk B R n X ∧ GI n M X ∧ Rn n k 0 0 b X0 X ∧ Memo wk C ∧ Md (fun k => k = C ∨ Rows R n k) w wk) (fun _ kv _ => n - (intOf kv).toNat)
      case atStart => exact ⟨false, 0, X0, rfl, Nat.zero_le _, rfl, HX0.out, hG0, Rn.start n X0, hC0, hD0⟩
      case round =>
        obtain ⟨b, k, X1, rfl, hk, rfl, hX1, hG1, hR1, hC1, hD1⟩ := hrel
        by_cases hkn : k < n
        · have hk0 : (0 : Int) ≤ (k : Int) := by omega
          have hk1 : (k : Int) < (n : Int) := by omega
          have HX1 := Lib.hid hX1
          clear hX1
          go_wp2
          go_loopw [5, 18] (fun a iv wi => ∃ b i X, a = .bool b ∧ i ≤ n ∧ iv = .int .i64 (i : Int) ∧ Mx wi B R n X ∧ GI n M X ∧ Rn n k i 0 b X0 X ∧ Memo wi C ∧ Md (fun k => k = C ∨ Rows R n k) w wi) (fun _ iv _ => n - (intOf iv).toNat)
          case atStart => exact ⟨b, 0, X1, rfl, Nat.zero_le _, rfl, HX1.out, hG1, hR1, hC1, hD1⟩
          case round =>
            obtain ⟨b2, i, X2, rfl, hi, rfl, hX2, hG2, hR2, hC2, hD2⟩ := hrel
            by_cases hin : i < n
            · have hi0 : (0 : Int) ≤ (i : Int) := by omega
              have hi1 : (i : Int) < (n : Int) := by omega
              have HX2 := Lib.hid hX2
              clear hX2
              go_wp2
              go_loopw [5, 23] (fun a jv wj => ∃ b j X, a = .bool b ∧ j ≤ n ∧ jv = .int .i64 (j : Int) ∧ Mx wj B R n X ∧ GI n M X ∧ Rn n k i j b X0 X ∧ Memo wj C ∧ Md (fun k => k = C ∨ Rows R n k) w wj) (fun _ jv _ => n - (intOf jv).toNat)
              case atStart => exact ⟨b2, 0, X2, rfl, Nat.zero_le _, rfl, HX2.out, hG2, hR2, hC2, hD2⟩
              case round =>
                obtain ⟨b3, j, X, rfl, hj, rfl, hX, hG, hR, hC, hD⟩ := hrel
                by_cases hjn : j < n
                · have hj0 : (0 : Int) ≤ (j : Int) := by omega
                  have hj1 : (j : Int) < (n : Int) := by omega
                  obtain ⟨ci, hci, c1⟩ := hX.cap hin
                  obtain ⟨ck, hck, c4⟩ := hX.cap hkn
                  have c2 := hX.cell hin hjn
                  have c3 := hX.cell hin hkn
                  have c5 := hX.cell hkn hjn
                  have HX := Lib.hid hX
                  clear hX
                  have HOF := fun W (h : Memo W C) => of_any C (X i k) (X k j) ((hG.bd HB.out) i k hin hkn) ((hG.bd HB.out) k j hkn hjn) W h
                  obtain ⟨x, hx⟩ : ∃ x, stepX X i j k = x := ⟨_, rfl⟩
                  have hbit : bits .and .i64 ((X i j : Nat) : Int) ((cmp (X i k) (X k j) : Nat) : Int) = ((x : Nat) : Int) := by
                    have b1 := (hG.bd HB.out) i j hin hjn
                    have b2 := cmp_lt (X i k) (X k j)
                    rw [← hx]
                    exact Bt.bits_and _ _ (by omega) (by omega)
                  have HXX := Lib.hid hx
                  clear hx
                  go_wp2
                  refine wp_region_held_drew (S := fun V => V.cell? ⟨B, i, none⟩ = some (.slice (some ⟨R i, 0, none⟩) n ci) ∧ V.cell? ⟨R i, j, none⟩ = some (.int .i64 ((X i j : Nat) : Int)) ∧ V.cell? ⟨R i, k, none⟩ = some (.int .i64 ((X i k : Nat) : Int)) ∧ V.cell? ⟨B, k, none⟩ = some (.slice (some ⟨R k, 0, none⟩) n ck) ∧ V.cell? ⟨R k, j, none⟩ = some (.int .i64 ((X k j : Nat) : Int))) (by kernel_rfl) ⟨c1, c2, c3, c4, c5⟩ (fun hHeld => ?_)
                  (refine wpAnyH_take (i := 0) (v := ?tkv0_1) rfl (by kernel_rfl) (by kernel_rfl) (by kernel_rfl) (fun _ _ _ h => h) (Or.inl ⟨by rfl, ?tky0_1⟩) (by assumption) ?tkr0_1; case tky0_1 => (intro V hV; (try dsimp only at hV); go_simp; (try with_reducible rfl)); try simp only [Act.put, List.setIfInBounds_toArray, List.set_cons_zero, List.set_cons_succ])
                  (refine wpAnyH_take (i := 1) (v := ?tkv1_2) rfl (by kernel_rfl) (by kernel_rfl) (by kernel_rfl) (fun _ _ _ h => h) (Or.inl ⟨by rfl, ?tky1_2⟩) (by assumption) ?tkr1_2; case tky1_2 => (intro V hV; (try dsimp only at hV); go_simp; (try with_reducible rfl)); try simp only [Act.put, List.setIfInBounds_toArray, List.set_cons_zero, List.set_cons_succ])
                  (refine wpAnyH_take (i := 2) (v := ?tkv2_3) rfl (by kernel_rfl) (by kernel_rfl) (by kernel_rfl) (fun _ _ _ h => h) (Or.inl ⟨by rfl, ?tky2_3⟩) (by assumption) ?tkr2_3; case tky2_3 => (intro V hV; (try dsimp only at hV); go_simp; (try with_reducible rfl)); try simp only [Act.put, List.setIfInBounds_toArray, List.set_cons_zero, List.set_cons_succ])
                  (refine wpAnyH_take (i := 3) (v := ?tkv3_4) rfl (by kernel_rfl) (by kernel_rfl) (by kernel_rfl) (fun _ _ _ h => h) (Or.inl ⟨by rfl, ?tky3_4⟩) (by assumption) ?tkr3_4; case tky3_4 => (intro V hV; (try dsimp only at hV); go_simp; (try with_reducible rfl)); try simp only [Act.put, List.setIfInBounds_toArray, List.set_cons_zero, List.set_cons_succ])
                  (refine wpAnyH_take (i := 4) (v := ?tkv4_5) rfl (by kernel_rfl) (by kernel_rfl) (by kernel_rfl) (fun _ _ _ h => h) (Or.inl ⟨by rfl, ?tky4_5⟩) (by assumption) ?tkr4_5; case tky4_5 => (intro V hV; (try dsimp only at hV); go_simp; (try with_reducible rfl)); try simp only [Act.put, List.setIfInBounds_toArray, List.set_cons_zero, List.set_cons_succ])
                  (refine wpAnyH_take (i := 5) (v := ?tkv5_6) rfl (by kernel_rfl) (by kernel_rfl) (by kernel_rfl) (fun _ _ _ h => h) (Or.inl ⟨by rfl, ?tky5_6⟩) (by assumption) ?tkr5_6; case tky5_6 => (intro V hV; (try dsimp only at hV); go_simp; (try with_reducible rfl)); try simp only [Act.put, List.setIfInBounds_toArray, List.set_cons_zero, List.set_cons_succ])
                  (refine wpAnyH_take (i := 6) (v := ?tkv6_7) rfl (by kernel_rfl) (by kernel_rfl) (by kernel_rfl) (fun _ _ _ h => h) (Or.inl ⟨by rfl, ?tky6_7⟩) (by assumption) ?tkr6_7; case tky6_7 => (intro V hV; (try dsimp only at hV); go_simp; (try with_reducible rfl)); try simp only [Act.put, List.setIfInBounds_toArray, List.set_cons_zero, List.set_cons_succ])
                  (refine wpAnyH_take (i := 7) (v := ?tkv7_8) rfl (by kernel_rfl) (by kernel_rfl) (by kernel_rfl) (fun _ _ _ h => h) (Or.inl ⟨by rfl, ?tky7_8⟩) (by assumption) ?tkr7_8; case tky7_8 => (intro V hV; (try dsimp only at hV); go_simp; (try with_reducible rfl)); try simp only [Act.put, List.setIfInBounds_toArray, List.set_cons_zero, List.set_cons_succ])
                  (refine wpAnyH_take (i := 8) (v := ?tkv8_9) rfl (by kernel_rfl) (by kernel_rfl) (by kernel_rfl) (fun _ _ _ h => h) (Or.inl ⟨by rfl, ?tky8_9⟩) (by assumption) ?tkr8_9; case tky8_9 => (intro V hV; (try dsimp only at hV); go_simp; (try with_reducible rfl)); try simp only [Act.put, List.setIfInBounds_toArray, List.set_cons_zero, List.set_cons_succ])
                  (refine wpAnyH_take (i := 9) (v := ?tkv9_10) rfl (by kernel_rfl) (by kernel_rfl) (by kernel_rfl) (fun _ _ _ h => h) (Or.inl ⟨by rfl, ?tky9_10⟩) (by assumption) ?tkr9_10; case tky9_10 => (intro V hV; (try dsimp only at hV); go_simp; (try with_reducible rfl)); try simp only [Act.put, List.setIfInBounds_toArray, List.set_cons_zero, List.set_cons_succ])
                  (refine wpAnyH_take (i := 10) (v := ?tkv10_11) rfl (by kernel_rfl) (by kernel_rfl) (by kernel_rfl) (fun _ _ _ h => h) (Or.inl ⟨by rfl, ?tky10_11⟩) (by assumption) ?tkr10_11; case tky10_11 => (intro V hV; (try dsimp only at hV); go_simp; (try with_reducible rfl)); try simp only [Act.put, List.setIfInBounds_toArray, List.set_cons_zero, List.set_cons_succ])
                  (refine wpAnyH_take (i := 11) (v := ?tkv11_12) rfl (by kernel_rfl) (by kernel_rfl) (by kernel_rfl) (fun _ _ _ h => h) (Or.inl ⟨by rfl, ?tky11_12⟩) (by assumption) ?tkr11_12; case tky11_12 => (intro V hV; (try dsimp only at hV); go_simp; (try with_reducible rfl)); try simp only [Act.put, List.setIfInBounds_toArray, List.set_cons_zero, List.set_cons_succ])
                  (refine wpAnyH_take (i := 12) (v := ?tkv12_13) rfl (by kernel_rfl) (by kernel_rfl) (by kernel_rfl) (fun _ _ _ h => h) (Or.inl ⟨by rfl, ?tky12_13⟩) (by assumption) ?tkr12_13; case tky12_13 => (intro V hV; (try dsimp only at hV); go_simp; (try with_reducible rfl)); try simp only [Act.put, List.setIfInBounds_toArray, List.set_cons_zero, List.set_cons_succ])
                  (refine wpAnyH_take (i := 13) (v := ?tkv13_14) rfl (by kernel_rfl) (by kernel_rfl) (by kernel_rfl) (fun _ _ _ h => h) (Or.inl ⟨by rfl, ?tky13_14⟩) (by assumption) ?tkr13_14; case tky13_14 => (intro V hV; (try dsimp only at hV); go_simp; (try with_reducible rfl)); try simp only [Act.put, List.setIfInBounds_toArray, List.set_cons_zero, List.set_cons_succ])
                  (refine wpAnyH_take (i := 14) (v := ?tkv14_15) rfl (by kernel_rfl) (by kernel_rfl) (by kernel_rfl) (fun _ _ _ h => h) (Or.inl ⟨by rfl, ?tky14_15⟩) (by assumption) ?tkr14_15; case tky14_15 => (intro V hV; (try dsimp only at hV); go_simp; (try with_reducible rfl)); try simp only [Act.put, List.setIfInBounds_toArray, List.set_cons_zero, List.set_cons_succ])
                  (refine wpAnyH_take (i := 15) (v := ?tkv15_16) rfl (by kernel_rfl) (by kernel_rfl) (by kernel_rfl) (fun _ _ _ h => h) (Or.inl ⟨by rfl, ?tky15_16⟩) (by assumption) ?tkr15_16; case tky15_16 => (intro V hV; (try dsimp only at hV); go_simp; (try with_reducible rfl)); try simp only [Act.put, List.setIfInBounds_toArray, List.set_cons_zero, List.set_cons_succ])
                  (refine wpAnyH_take (i := 16) (v := ?tkv16_17) rfl (by kernel_rfl) (by kernel_rfl) (by kernel_rfl) (fun _ _ _ h => h) (Or.inl ⟨by rfl, ?tky16_17⟩) (by assumption) ?tkr16_17; case tky16_17 => (intro V hV; (try dsimp only at hV); go_simp; (try with_reducible rfl)); try simp only [Act.put, List.setIfInBounds_toArray, List.set_cons_zero, List.set_cons_succ])
                  (refine wpAnyH_take (i := 17) (v := ?tkv17_18) rfl (by kernel_rfl) (by kernel_rfl) (by kernel_rfl) (fun _ _ _ h => h) (Or.inl ⟨by rfl, ?tky17_18⟩) (by assumption) ?tkr17_18; case tky17_18 => (intro V hV; (try dsimp only at hV); go_simp; (try with_reducible rfl)); try simp only [Act.put, List.setIfInBounds_toArray, List.set_cons_zero, List.set_cons_succ])
                  (refine wpAnyH_take (i := 18) (v := ?tkv18_19) rfl (by kernel_rfl) (by kernel_rfl) (by kernel_rfl) (fun _ _ _ h => h) (Or.inl ⟨by rfl, ?tky18_19⟩) (by assumption) ?tkr18_19; case tky18_19 => (intro V hV; (try dsimp only at hV); go_simp; (try with_reducible rfl)); try simp only [Act.put, List.setIfInBounds_toArray, List.set_cons_zero, List.set_cons_succ])
                  (refine wpAnyH_take (i := 19) (v := ?tkv19_20) rfl (by kernel_rfl) (by kernel_rfl) (by kernel_rfl) (fun _ _ _ h => h) (Or.inl ⟨by rfl, ?tky19_20⟩) (by assumption) ?tkr19_20; case tky19_20 => (intro V hV; (try dsimp only at hV); go_simp; (try with_reducible rfl)); try simp only [Act.put, List.setIfInBounds_toArray, List.set_cons_zero, List.set_cons_succ])
                  (refine wpAnyH_take (i := 20) (v := ?tkv20_21) rfl (by kernel_rfl) (by kernel_rfl) (by kernel_rfl) (fun _ _ _ h => h) (Or.inl ⟨by rfl, ?tky20_21⟩) (by assumption) ?tkr20_21; case tky20_21 => (intro V hV; (try dsimp only at hV); go_simp; (try with_reducible rfl)); try simp only [Act.put, List.setIfInBounds_toArray, List.set_cons_zero, List.set_cons_succ])
                  (refine wpAnyH_take (i := 21) (v := ?tkv21_22) rfl (by kernel_rfl) (by kernel_rfl) (by kernel_rfl) (fun _ _ _ h => h) (Or.inl ⟨by rfl, ?tky21_22⟩) (by assumption) ?tkr21_22; case tky21_22 => (intro V hV; (try dsimp only at hV); go_simp; (try with_reducible rfl)); try simp only [Act.put, List.setIfInBounds_toArray, List.set_cons_zero, List.set_cons_succ])
                  (refine wpAnyH_ready (rs := [22]) (by kernel_rfl) (by simp) ?_; refine AllReadyH.cons rfl (fun K hK => ?_) AllReadyH.nil; (try go_simp); (go_at_call 87; (with_reducible refine (HOF wr.drew hC.drew).mono ?_); rintro e w1 ⟨rfl, hC1, hd1⟩); refine hK.out _ _ (by (exact ⟨hd1.kept (w := wr.drew) c1 (fun e => HCB.out e.symm), hd1.kept (w := wr.drew) c2 (fun e => HCR.out i hin e.symm), hd1.kept (w := wr.drew) c3 (fun e => HCR.out i hin e.symm), hd1.kept (w := wr.drew) c4 (fun e => HCB.out e.symm), hd1.kept (w := wr.drew) c5 (fun e => HCR.out k hkn e.symm)⟩)) (fun hHeld => ?_); clear hK K; try simp only [Act.put, List.setIfInBounds_toArray, List.set_cons_zero, List.set_cons_succ])
                  (refine wpAnyH_ready (rs := [23]) (by kernel_rfl) (by simp) ?_; refine AllReadyH.cons rfl (fun K hK => ?_) AllReadyH.nil; (try go_simp); refine hK.out _ _ (by assumption) (fun hHeld => ?_); clear hK K; try simp only [Act.put, List.setIfInBounds_toArray, List.set_cons_zero, List.set_cons_succ])
                  (refine wpAnyH_ready (rs := [24]) (by kernel_rfl) (by simp) ?_; refine AllReadyH.cons rfl (fun K hK => ?_) AllReadyH.nil; (try go_simp); refine hK.out _ _ (by assumption) (fun hHeld => ?_); clear hK K; try simp only [Act.put, List.setIfInBounds_toArray, List.set_cons_zero, List.set_cons_succ])
                  refine wpAnyH_done (by kernel_rfl) ?_ _
                  have hX1 : Mx w1 B R n X := HX.out.drew.keep hd1 (fun e => HCB.out e.symm) (fun a ha e => HCR.out a ha e.symm)
                  have hD1 : Md (fun k => k = C ∨ Rows R n k) w w1 := hD.drew.trans (hd1.mono fun k _ h => Or.inl h)
                  have k1 := hd1.kept (w := wr.drew) c1 (fun e => HCB.out e.symm)
                  have k2 := hX1.cell hin hjn
                  have f2 := (hX1.row i hin).frozen j
                  have l2 := hX1.ltR hin
                  have HX1w := Lib.hid hX1
                  clear c1 c2 c3 c4 c5 HX hX1 hd1 HOF hHeld hC hD
                  by_cases h0 : x = 0
                  · subst h0
                    go_wp2
                    go_ret
                    exact ⟨false, X, rfl, HX1w.out, hG.none hin hjn hkn HXX.out, hC1, hD1⟩
                  · have g0 : ((x : Int) == 0) = false := by simpa using h0
                    have H0 := Lib.hid h0
                    by_cases h1 : x = X i j
                    · have g1 : ((x : Int) != ((X i j : Nat) : Int)) = false := by simp; omega
                      have H1 := Lib.hid h1
                      clear h0 h1
                      go_wp2
                      go_roundw
                      case rel => exact ⟨b3, j + 1, X, rfl, by omega, by go_num, HX1w.out, hG, hR.nextJ ⟨HXX.out.trans H1.out, by rw [← H1.out]; exact H0.out⟩, hC1, hD1⟩
                      case measure => simp [intOf]; omega
                    · have g1 : ((x : Int) != ((X i j : Nat) : Int)) = true := by simp; omega
                      have H1 := Lib.hid h1
                      clear h0 h1
                      go_wp2
                      go_roundw
                      case rel => exact ⟨true, j + 1, setM X i j x, rfl, by omega, by go_num, HX1w.out.set hin hjn x, by have := hG.step hin hjn hkn; rw [HXX.out] at this; exact this, by have := hR.store hin hjn (by rw [HXX.out]; exact H1.out); rw [HXX.out] at this; exact this, hC1.keep (S := fun k => k = R i) (Md.setCell (S := fun k => k = R i) (Md.refl _ _) j (Or.inl rfl) _) (HCR.out i hin), hD1.setCell j (Or.inl (Or.inr ⟨i, hin, rfl⟩)) _⟩
                      case measure => simp [intOf]; omega
                · obtain rfl : j = n := by omega
                  have HX := Lib.hid hX
                  clear hX
                  go_wp2
                  go_roundw
                  case rel => exact ⟨b3, i + 1, X, rfl, by omega, by go_num, HX.out, hG, hR.nextI, hC, hD⟩
                  case measure => simp [intOf]; omega
            · obtain rfl : i = n := by omega
              have HX := Lib.hid hX2
              clear hX2
              go_wp2
              go_roundw
              case rel => exact ⟨b2, k + 1, X2, rfl, by omega, by go_num, HX.out, hG2, hR2.nextK, hC2, hD2⟩
              case measure => simp [intOf]; omega
        · obtain rfl : k = n := by omega
          have HX := Lib.hid hX1
          clear hX1
          go_wp2
          go_roundw
          case rel => exact ⟨b, X1, rfl, HX.out, hG1, (fun hb => by subst hb; exact hR1.endK), hC1, hD1⟩
          case measure =>
            rw [HX.out.mu, HMU.out]
            cases b
            · rw [hR1.same rfl]; simp [tick]
            · have := hR1.less rfl
              simp [tick]; omega
end Go.Proofs.Ytoadihclmnjjnaa.Nw
