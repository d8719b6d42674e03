/-
  Networks: the composer's solved (layer 46).
-/
import Derived.Test.YtoadihclmnjjnaaNwC
import Derived.Test.YtoadihclmnjjnaaNwX
set_option linter.unusedSimpArgs false
set_option linter.unusedVariables false
set_option maxRecDepth 100000
namespace Go.Proofs.Ytoadihclmnjjnaa.Nw
open Go Go.RowKit Go.ChangeShapes Go.WideShapes Go.Proofs.Ytoadihclmnjjnaa.Sl Go.Proofs.Ytoadihclmnjjnaa.Al Go.Lib

theorem sing_one {m : Nat} (hm : m < 8192) : (singF m).length = 1 ↔ One m := by
  constructor
  · intro h
    match hs : singF m, h with
    | [r], _ =>
      refine ⟨r.val, r.isLt, ?_⟩
      apply Nat.eq_of_testBit_eq
      intro c
      cases hc : m.testBit c
      · by_cases e : c = r.val
        · have : m.testBit r.val = true := (mem_singF m r).1 (by rw [hs]; simp)
          rw [e, this] at hc; cases hc
        · rw [Nat.testBit_two_pow_of_ne (Ne.symm e)]
      · have hl := bit13 hm hc
        have : (⟨c, hl⟩ : Fin 13) ∈ singF m := (mem_singF m ⟨c, hl⟩).2 hc
        rw [hs] at this
        simp at this
        rw [← this]
        exact Nat.testBit_two_pow_self.symm
  · rintro ⟨r, hr, rfl⟩
    have hall : ∀ r < 13, (singF (2 ^ r)).length = 1 := of_decide_eq_true (by kernel_rfl)
    exact hall r hr
/-- What solved leaves behind. -/
def SvE (C n : Nat) (R : Nat → Nat) (M : Mt) (w : World) (e : Ending) (w' : World) : Prop := ∃ ok v, e = .returned (.tuple #[v, .bool ok]) ∧ Memo w' C ∧ Md (fun k => k = C ∨ Rows R n k) w w' ∧
  (ok = true → ∃ B' R' X c', v = .slice (some ⟨B', 0, none⟩) n c' ∧ Mx w' B' R' n X ∧ Sc n X ∧ LeM n X M) ∧ (ok = false → v = .slice none 0 0 ∧ ∀ N, Sc n N → ¬ LeM n N M)
theorem low_step {i j : Nat} {X : Mt} (h : ∀ b, b < j → One (X i b)) (h1 : One (X i j)) : ∀ b, b < j + 1 → One (X i b) := fun b hb => by
  by_cases e : b = j
  · subst e; exact h1
  · exact h b (by omega)
theorem low_row {i : Nat} {X : Mt} (h : ∀ a b, a < i → b < a → One (X a b)) (h1 : ∀ b, b < i → One (X i b)) : ∀ a b, a < i + 1 → b < a → One (X a b) := fun a b ha hb => by
  by_cases e : a = i
  · subst e; exact h1 b hb
  · exact h a b (by omega) hb

set_option maxHeartbeats 8000000 in
theorem solved_any : ∀ (d : Nat) (C B c n : Nat) (R : Nat → Nat) (M : Mt) (w : World), mu n M < d → 0 < n → n ≤ 1000000 → Mx w B R n M → BdM n M → SyM n M → DgM n M → Memo w C →
    Calls Try.prog 51 #[.map (some C), .slice (some ⟨B, 0, none⟩) n c] w (SvE C n R M w) := by
  intro d
  induction d with
  | zero => intro C B c n R M w h; omega
  | succ d ih =>
    intro C B c n R M w hmu hn hn2 hM hb hs hd hC
    have HMU := Lib.hid hmu
    have HCL := closed_any C B c n R M w hn2 hM hb hC
    have HCR := Lib.hid (fun i (hi : i < n) => hC.ne (hM.row i hi))
    have HCB := Lib.hid (hC.neB hM)
    have HRB := Lib.hid hM.off
    have HS := Lib.hid hs
    have HDG := Lib.hid hd
    have HBD := Lib.hid hb
    have HI := Lib.hid ih
    clear hM hb hs hd hC hmu ih
    go_enter Try.func51, Try.ntmps51
    go_wp2_with (go_at_call 58; (with_reducible refine HCL.mono ?_); rintro e w1 ⟨ok, X, rfl, hX, hcl, hC, hD⟩; have HXX := Lib.hid hX; clear hX; cases ok)
    · go_ret2
      refine ⟨false, _, rfl, hC, hD, (fun h => by cases h), fun _ => ⟨rfl, fun N hN hle => ?_⟩⟩
      exact (show ∀ N, ClM n N → LeM n N M → ¬ NzM n N from hcl) N hN.2.1 hle hN.nz
    · obtain ⟨hG, hcx, hz⟩ := (show GI n M X ∧ ClM n X ∧ NzM n X from hcl)
      have hsx := sym_of_gi hG hcx HS.out HBD.out
      have hdx := dg_of_le hG.1 HDG.out
      have hbx := hG.bd HBD.out
      have HG := Lib.hid hG
      have HCX := Lib.hid hcx
      have HZ := Lib.hid hz
      have HSX := Lib.hid hsx
      have HDX := Lib.hid hdx
      have HBX := Lib.hid hbx
      clear hcl hG hcx hz hsx hdx hbx
      go_loopw [20] (fun iv wi => ∃ i, i ≤ n ∧ iv = .int .i64 (i : Int) ∧ Mx wi B R n X ∧ Hid (∀ a b, a < i → b < a → One (X a b)) ∧ Memo wi C ∧ Md (fun k => k = C ∨ Rows R n k) w wi) (fun iv _ => n - (RowKit.intOf iv).toNat)
      case atStart => exact ⟨0, Nat.zero_le _, rfl, HXX.out, Lib.hid (fun a b ha => by omega), hC, hD⟩
      case round =>
        obtain ⟨i, hi, rfl, hX1, hlow, hC1, hD1⟩ := hrel
        by_cases hin : i < n
        · have hi0 : (0 : Int) ≤ (i : Int) := by omega
          have hi1 : (i : Int) < (n : Int) := by omega
          have HX1 := Lib.hid hX1
          clear hX1
          go_wp2_with fail
          go_loopw [24] (fun jv wj => ∃ j, j ≤ i ∧ jv = .int .i64 (j : Int) ∧ Mx wj B R n X ∧ Hid (∀ b, b < j → One (X i b)) ∧ Memo wj C ∧ Md (fun k => k = C ∨ Rows R n k) w wj) (fun jv _ => i - (RowKit.intOf jv).toNat)
          case atStart => exact ⟨0, Nat.zero_le _, rfl, HX1.out, Lib.hid (fun b hb => by omega), hC1, hD1⟩
          case round =>
            obtain ⟨j, hj, rfl, hX2, hlj, hC2, hD2⟩ := hrel
            by_cases hji : j < i
            · have hj0 : (0 : Int) ≤ (j : Int) := by omega
              have hj1 : (j : Int) < (n : Int) := by omega
              have hj2 : (j : Int) < (i : Int) := by omega
              have hjn : j < n := by omega
              obtain ⟨ci, hci, c1⟩ := hX2.cap hin
              have c2 := hX2.cell hin hjn
              have hlt := HBX.out i j hin hjn
              have HSG := fun W => singles_any (X i j) hlt W
              have HX2 := Lib.hid hX2
              obtain ⟨L, hL⟩ : ∃ L, L = (singF (X i j)).length := ⟨_, rfl⟩
              have HL := Lib.hid hL
              have hL13 : L ≤ 13 := by rw [hL]; exact Nat.le_trans (List.length_filter_le _ _) (by simp)
              clear hX2 hL hlt
              by_cases h1 : L = 1
              · subst h1
                go_wp2_with (go_at_call 37; (with_reducible refine (HSG _).mono ?_); rintro e w3 ⟨v, rfl, hsl, hb3⟩; rw [← HL.out] at hsl; obtain ⟨ad, cap, rfl⟩ := hsl.form; clear hsl)
                go_roundw
                case rel => exact ⟨j + 1, by omega, by go_num, HX2.out.below hb3, Lib.hid (low_step hlj.out ((sing_one (HBX.out i j hin hjn)).1 HL.out.symm)), hC2.keep (S := fun _ => False) (Md.of_below hb3) (fun h => h), hD2.step hb3⟩
                case measure => simp [RowKit.intOf]; omega
              · have g1 : ((L : Int) == 1) = false := by simp; omega
                go_wp2_with (go_at_call 37; (with_reducible refine (HSG _).mono ?_); rintro e w3 ⟨v, rfl, hsl, hb3⟩; rw [← HL.out] at hsl; have HSL := Lib.hid hsl; obtain ⟨ad, cap, rfl⟩ := hsl.form; clear hsl)
                have HX3 := Lib.hid (HX2.out.below hb3)
                have HC3 := Lib.hid (hC2.keep (S := fun _ => False) (Md.of_below hb3) (fun h => h))
                have HD3 := Lib.hid (hD2.step hb3)
                clear hC2 hD2 HX2 hb3 HSG
                go_loopw [40] (fun kv wk => ∃ k, k ≤ L ∧ kv = .int .i64 (k : Int) ∧ Hid (∀ q x, q < k → (singF (X i j))[q]? = some x → ∀ N, Sc n N → ¬ LeM n N (pick X i j x.val)) ∧ Memo wk C ∧ Md (fun k => k = C) w3 wk) (fun kv _ => L - (RowKit.intOf kv).toNat)
                case atStart => exact ⟨0, Nat.zero_le _, rfl, Lib.hid (fun q x hq => by omega), HC3.out, Md.refl _ _⟩
                case round =>
                  obtain ⟨k, hk, rfl, htr, hC4, hD4⟩ := hrel
                  have hX4 := HX3.out.keep hD4 (fun e => HCB.out e.symm) (fun a ha e => HCR.out a ha e.symm)
                  have HX4 := Lib.hid hX4
                  have HD4 := Lib.hid (HD3.out.trans (hD4.mono fun k _ h => Or.inl h))
                  by_cases hkL : k < L
                  · have hk0 : (0 : Int) ≤ (k : Int) := by omega
                    have hk1 : (k : Int) < (L : Int) := by omega
                    obtain ⟨g, off, cp, e1, hcl⟩ := HSL.out.open (by omega)
                    simp only [Value.slice.injEq] at e1
                    obtain ⟨rfl, _, rfl⟩ := e1
                    obtain ⟨⟨r, hr⟩, hx⟩ : ∃ x, (singF (X i j))[k]? = some x := ⟨_, List.getElem?_eq_getElem (by rw [← HL.out]; exact hkL)⟩
                    have hc3 := hcl k (.int .i64 ((r : Nat) : Int)) (by rw [List.getElem?_map, hx]; rfl)
                    have cx := hD4.kept hc3 (HC3.out.neCell hc3)
                    have hbit : (X i j).testBit r = true := (mem_singF (X i j) ⟨r, hr⟩).1 (List.mem_of_getElem? hx)
                    have HBIT := Lib.hid hbit
                    have HXK := Lib.hid hx
                    have HCP := fun W h => copy_any B c n R X W hn hn2 h
                    have hr0 : (0 : Int) ≤ (r : Int) := by omega
                    have hr1 : (r : Int) ≤ 12 := by omega
                    have hw12 : IntKind.i64.wrap (12 - (r : Int)) = 12 - (r : Int) := IntWalk.i64_in _ (by omega)
                    have hp1 := wrap_pw r (by omega)
                    have hp2 := wrap_pw (12 - r) (by omega)
                    clear hX4 hcl hc3 hbit hx
                    go_upto_region 15 with (go_at_call 83; (with_reducible refine (HCP _ HX4.out).mono ?_); rintro e w4 ⟨B', R', rfl, hX5, hB5, hR5, hb5⟩)
                    obtain ⟨ci2, hci2, d1⟩ := hX5.cap hin
                    obtain ⟨cj2, hcj2, d2⟩ := hX5.cap hjn
                    have e1 := hX5.cell hin hjn
                    have e2 := hX5.cell hjn hin
                    have f1 := (hX5.row i hin).frozen j
                    have f2 := (hX5.row j hjn).frozen i
                    have n1 : ¬ R' j = R' i := fun e => by have := hX5.inj j i hjn hin e; omega
                    have n2 : ¬ B' = R' i := fun e => hX5.off i hin e.symm
                    have n3 : ¬ B' = R' j := fun e => hX5.off j hjn e.symm
                    have HX5 := Lib.hid hX5
                    have HB5 := Lib.hid hB5
                    have HR5 := Lib.hid hR5
                    have HB6 := Lib.hid hb5
                    clear hX5 hB5 hR5 hb5 cx
                    refine wp_region_held_drew (S := fun V => V.cell? ⟨B', i, none⟩ = some (.slice (some ⟨R' i, 0, none⟩) n ci2) ∧ V.cell? ⟨B', j, none⟩ = some (.slice (some ⟨R' j, 0, none⟩) n cj2)) (by kernel_rfl) ⟨d1, d2⟩ (fun hHeld => ?_)
                    (refine wpAnyH_take (i := 0) (v := ?tkv0_1) rfl (by kernel_rfl) (by kernel_rfl) (by kernel_rfl) (fun _ _ _ h => h) (Or.inl ⟨by rfl, ?tky0_1⟩) (by assumption) ?tkr0_1; case tky0_1 => (intro V hV; (try dsimp only at hV); go_simp; (try with_reducible rfl)); try simp only [Act.put, List.setIfInBounds_toArray, List.set_cons_zero, List.set_cons_succ])
                    (refine wpAnyH_take (i := 1) (v := ?tkv1_2) rfl (by kernel_rfl) (by kernel_rfl) (by kernel_rfl) (fun _ _ _ h => h) (Or.inl ⟨by rfl, ?tky1_2⟩) (by assumption) ?tkr1_2; case tky1_2 => (intro V hV; (try dsimp only at hV); go_simp; (try with_reducible rfl)); try simp only [Act.put, List.setIfInBounds_toArray, List.set_cons_zero, List.set_cons_succ])
                    (refine wpAnyH_take (i := 2) (v := ?tkv2_3) rfl (by kernel_rfl) (by kernel_rfl) (by kernel_rfl) (fun _ _ _ h => h) (Or.inl ⟨by rfl, ?tky2_3⟩) (by assumption) ?tkr2_3; case tky2_3 => (intro V hV; (try dsimp only at hV); go_simp; (try with_reducible rfl)); try simp only [Act.put, List.setIfInBounds_toArray, List.set_cons_zero, List.set_cons_succ])
                    (refine wpAnyH_take (i := 3) (v := ?tkv3_4) rfl (by kernel_rfl) (by kernel_rfl) (by kernel_rfl) (fun _ _ _ h => h) (Or.inl ⟨by rfl, ?tky3_4⟩) (by assumption) ?tkr3_4; case tky3_4 => (intro V hV; (try dsimp only at hV); go_simp; (try with_reducible rfl)); try simp only [Act.put, List.setIfInBounds_toArray, List.set_cons_zero, List.set_cons_succ])
                    (refine wpAnyH_take (i := 4) (v := ?tkv4_5) rfl (by kernel_rfl) (by kernel_rfl) (by kernel_rfl) (fun _ _ _ h => h) (Or.inl ⟨by rfl, ?tky4_5⟩) (by assumption) ?tkr4_5; case tky4_5 => (intro V hV; (try dsimp only at hV); go_simp; (try with_reducible rfl)); try simp only [Act.put, List.setIfInBounds_toArray, List.set_cons_zero, List.set_cons_succ])
                    (refine wpAnyH_take (i := 5) (v := ?tkv5_6) rfl (by kernel_rfl) (by kernel_rfl) (by kernel_rfl) (fun _ _ _ h => h) (Or.inl ⟨by rfl, ?tky5_6⟩) (by assumption) ?tkr5_6; case tky5_6 => (intro V hV; (try dsimp only at hV); go_simp; (try with_reducible rfl)); try simp only [Act.put, List.setIfInBounds_toArray, List.set_cons_zero, List.set_cons_succ])
                    (refine wpAnyH_take (i := 6) (v := ?tkv6_7) rfl (by kernel_rfl) (by kernel_rfl) (by kernel_rfl) (fun _ _ _ h => h) (Or.inl ⟨by rfl, ?tky6_7⟩) (by assumption) ?tkr6_7; case tky6_7 => (intro V hV; (try dsimp only at hV); go_simp; (try with_reducible rfl)); try simp only [Act.put, List.setIfInBounds_toArray, List.set_cons_zero, List.set_cons_succ])
                    (refine wpAnyH_take (i := 7) (v := ?tkv7_8) rfl (by kernel_rfl) (by kernel_rfl) (by kernel_rfl) (fun _ _ _ h => h) (Or.inl ⟨by rfl, ?tky7_8⟩) (by assumption) ?tkr7_8; case tky7_8 => (intro V hV; (try dsimp only at hV); go_simp; (try with_reducible rfl)); try simp only [Act.put, List.setIfInBounds_toArray, List.set_cons_zero, List.set_cons_succ])
                    (refine wpAnyH_take (i := 8) (v := ?tkv8_9) rfl (by kernel_rfl) (by kernel_rfl) (by kernel_rfl) (fun _ _ _ h => h) (Or.inl ⟨by rfl, ?tky8_9⟩) (by assumption) ?tkr8_9; case tky8_9 => (intro V hV; (try dsimp only at hV); go_simp; (try with_reducible rfl)); try simp only [Act.put, List.setIfInBounds_toArray, List.set_cons_zero, List.set_cons_succ])
                    (refine wpAnyH_take (i := 9) (v := ?tkv9_10) rfl (by kernel_rfl) (by kernel_rfl) (by kernel_rfl) (fun _ _ _ h => h) (Or.inl ⟨by rfl, ?tky9_10⟩) (by assumption) ?tkr9_10; case tky9_10 => (intro V hV; (try dsimp only at hV); go_simp; (try with_reducible rfl)); try simp only [Act.put, List.setIfInBounds_toArray, List.set_cons_zero, List.set_cons_succ])
                    (refine wpAnyH_take (i := 10) (v := ?tkv10_11) rfl (by kernel_rfl) (by kernel_rfl) (by kernel_rfl) (fun _ _ _ h => h) (Or.inl ⟨by rfl, ?tky10_11⟩) (by assumption) ?tkr10_11; case tky10_11 => (intro V hV; (try dsimp only at hV); go_simp; (try with_reducible rfl)); try simp only [Act.put, List.setIfInBounds_toArray, List.set_cons_zero, List.set_cons_succ])
                    (refine wpAnyH_take (i := 11) (v := ?tkv11_12) rfl (by kernel_rfl) (by kernel_rfl) (by kernel_rfl) (fun _ _ _ h => h) (Or.inl ⟨by rfl, ?tky11_12⟩) (by assumption) ?tkr11_12; case tky11_12 => (intro V hV; (try dsimp only at hV); go_simp; (try with_reducible rfl)); try simp only [Act.put, List.setIfInBounds_toArray, List.set_cons_zero, List.set_cons_succ])
                    (refine wpAnyH_take (i := 12) (v := ?tkv12_13) rfl (by kernel_rfl) (by kernel_rfl) (by kernel_rfl) (fun _ _ _ h => h) (Or.inl ⟨by rfl, ?tky12_13⟩) (by assumption) ?tkr12_13; case tky12_13 => (intro V hV; (try dsimp only at hV); go_simp; (try with_reducible rfl)); try simp only [Act.put, List.setIfInBounds_toArray, List.set_cons_zero, List.set_cons_succ])
                    (refine wpAnyH_take (i := 13) (v := ?tkv13_14) rfl (by kernel_rfl) (by kernel_rfl) (by kernel_rfl) (fun _ _ _ h => h) (Or.inl ⟨by rfl, ?tky13_14⟩) (by assumption) ?tkr13_14; case tky13_14 => (intro V hV; (try dsimp only at hV); go_simp; (try with_reducible rfl)); try simp only [Act.put, List.setIfInBounds_toArray, List.set_cons_zero, List.set_cons_succ])
                    (refine wpAnyH_take (i := 14) (v := ?tkv14_15) rfl (by kernel_rfl) (by kernel_rfl) (by kernel_rfl) (fun _ _ _ h => h) (Or.inl ⟨by rfl, ?tky14_15⟩) (by assumption) ?tkr14_15; case tky14_15 => (intro V hV; (try dsimp only at hV); go_simp; (try with_reducible rfl)); try simp only [Act.put, List.setIfInBounds_toArray, List.set_cons_zero, List.set_cons_succ])
                    (refine wpAnyH_ready (rs := [15]) (by kernel_rfl) (by simp) ?_; refine AllReadyH.cons rfl (fun K hK => ?_) AllReadyH.nil; (try go_simp); refine hK.out _ _ (by (exact ⟨d1, d2⟩)) (fun hHeld => ?_); clear hK K; try simp only [Act.put, List.setIfInBounds_toArray, List.set_cons_zero, List.set_cons_succ])
                    (refine wpAnyH_ready (rs := [16]) (by kernel_rfl) (by simp) ?_; refine AllReadyH.cons rfl (fun K hK => ?_) AllReadyH.nil; (try go_simp); refine hK.out _ _ (by (exact ⟨(Md.setCell (S := fun k => k = R' i) (Md.refl _ _) j (Or.inl rfl) _).kept d1 n2, (Md.setCell (S := fun k => k = R' i) (Md.refl _ _) j (Or.inl rfl) _).kept d2 n2⟩)) (fun hHeld => ?_); clear hK K; try simp only [Act.put, List.setIfInBounds_toArray, List.set_cons_zero, List.set_cons_succ])
                    (refine wpAnyH_ready (rs := [17]) (by kernel_rfl) (by simp) ?_; refine AllReadyH.cons rfl (fun K hK => ?_) AllReadyH.nil; (try go_simp); refine hK.out _ _ (by (exact ⟨(Md.setCell (S := fun k => k = R' i) (Md.refl _ _) j (Or.inl rfl) _).kept d1 n2, (Md.setCell (S := fun k => k = R' i) (Md.refl _ _) j (Or.inl rfl) _).kept d2 n2⟩)) (fun hHeld => ?_); clear hK K; try simp only [Act.put, List.setIfInBounds_toArray, List.set_cons_zero, List.set_cons_succ])
                    (refine wpAnyH_ready (rs := [18]) (by kernel_rfl) (by simp) ?_; refine AllReadyH.cons rfl (fun K hK => ?_) AllReadyH.nil; (try go_simp); refine hK.out _ _ (by (exact ⟨(Md.setCell (S := fun k => k = R' i ∨ k = R' j) (Md.setCell (Md.refl _ _) j (Or.inl (Or.inl rfl)) _) i (Or.inl (Or.inr rfl)) _).kept d1 (by omega), (Md.setCell (S := fun k => k = R' i ∨ k = R' j) (Md.setCell (Md.refl _ _) j (Or.inl (Or.inl rfl)) _) i (Or.inl (Or.inr rfl)) _).kept d2 (by omega)⟩)) (fun hHeld => ?_); clear hK K; try simp only [Act.put, List.setIfInBounds_toArray, List.set_cons_zero, List.set_cons_succ])
                    refine wpAnyH_done (by kernel_rfl) ?_ _
                    have hC5 : Memo w4 C := hC4.keep (S := fun _ => False) (Md.of_below HB6.out) (fun h => h)
                    have hMX : Mx (((w4.setCell ⟨R' i, j, none⟩ (.int .i64 ((pw r : Nat) : Int))).setCell ⟨R' j, i, none⟩ (.int .i64 ((pw (12 - r) : Nat) : Int))).drew) B' R' n (pick X i j r) := ((HX5.out.set hin hjn (2 ^ r)).set hjn hin (2 ^ (12 - r))).drew
                    have hMD : Md (fun k => k = R' i ∨ k = R' j) w4 (((w4.setCell ⟨R' i, j, none⟩ (.int .i64 ((pw r : Nat) : Int))).setCell ⟨R' j, i, none⟩ (.int .i64 ((pw (12 - r) : Nat) : Int))).drew) := (((Md.refl _ _).setCell j (Or.inl (Or.inl rfl)) _).setCell i (Or.inl (Or.inr rfl)) _).drew
                    have hMC := hC5.keep hMD (by
                      have a1 := hC5.ne (HX5.out.row i hin)
                      have a2 := hC5.ne (HX5.out.row j hjn)
                      omega)
                    generalize ((w4.setCell ⟨R' i, j, none⟩ (.int .i64 ((pw r : Nat) : Int))).setCell ⟨R' j, i, none⟩ (.int .i64 ((pw (12 - r) : Nat) : Int))).drew = W5 at hMX hMC hMD ⊢
                    have hmu2 : mu n (pick X i j r) < d := by
                      have a1 := pick_mu (n := n) HSX.out hin hjn (by omega) hr HBIT.out (fun h => h1 (HL.out.trans ((sing_one (HBX.out i j hin hjn)).2 h)))
                      have a2 := mu_le HG.out.1
                      have a3 := HMU.out
                      omega
                    have hple := pick_le (n := n) HSX.out hin hjn hr HBIT.out
                    have HSV := fun c' => HI.out C B' c' n R' (pick X i j r) W5 hmu2 hn hn2 hMX (fun a b ha hb => (hple a b ha hb).lt (HBX.out a b ha hb)) (pick_sym HSX.out (by omega) hr) (dg_of_le hple HDX.out) hMC
                    have HMD := Lib.hid hMD
                    have HPL := Lib.hid hple
                    obtain ⟨wk, hwk⟩ : ∃ wk, wk = wr := ⟨_, rfl⟩
                    rw [← hwk] at hD4 HX4 HD4 HB5 HR5 HB6 hC4
                    have HKL := Lib.hid hkL
                    clear d1 d2 e1 e2 f1 f2 hMX hMC hMD hmu2 hple hC5 hHeld hw12 hp1 hp2 hwk
                    go_wp2_with (go_at_call 51; (with_reducible refine (HSV _).mono ?_); rintro e w6 ⟨ok, v, rfl, hC6, hD6, hyes, hno⟩; have HYES := Lib.hid hyes; have HNO := Lib.hid hno; clear hyes hno; cases ok)
                    · have hD7 : Md (fun k => k = C) w3 w6 := hD4.trans ((((Md.of_below (S := fun k => k = C ∨ wk.heap.size ≤ k) HB6.out).trans (HMD.out.mono (fun k _ h => by
                        rcases h with rfl | rfl
                        · exact Or.inr (HR5.out i hin)
                        · exact Or.inr (HR5.out j hjn)))).trans (hD6.mono (fun k _ h => by
                        rcases h with rfl | ⟨a, ha, rfl⟩
                        · exact Or.inl rfl
                        · exact Or.inr (HR5.out a ha)))).mono (fun k hk h => by omega))
                      obtain ⟨hv, hnone⟩ := HNO.out trivial
                      have htr2 : ∀ q x, q < k + 1 → (singF (X i j))[q]? = some x → ∀ N, Sc n N → ¬ LeM n N (pick X i j x.val) := fun q x hq hx => by
                        by_cases e : q = k
                        · subst e
                          rw [HXK.out] at hx
                          cases hx
                          exact hnone
                        · exact htr.out q x (by omega) hx
                      have HT2 := Lib.hid htr2
                      clear htr2 hnone hv HNO HYES HSV
                      go_roundw
                      case rel => exact ⟨k + 1, by omega, by go_num, HT2, hC6, hD7⟩
                      case measure => have := HKL.out; simp [RowKit.intOf]; omega
                    · have hD7 : Md (fun k => k = C) w3 w6 := hD4.trans ((((Md.of_below (S := fun k => k = C ∨ wk.heap.size ≤ k) HB6.out).trans (HMD.out.mono (fun k _ h => by
                        rcases h with rfl | rfl
                        · exact Or.inr (HR5.out i hin)
                        · exact Or.inr (HR5.out j hjn)))).trans (hD6.mono (fun k _ h => by
                        rcases h with rfl | ⟨a, ha, rfl⟩
                        · exact Or.inl rfl
                        · exact Or.inr (HR5.out a ha)))).mono (fun k hk h => by omega))
                      obtain ⟨B7, R7, X7, c7, rfl, h7, h8, h9⟩ := HYES.out trivial
                      go_ret2
                      exact ⟨true, _, rfl, hC6, HD3.out.trans (hD7.mono fun k _ h => Or.inl h), (fun _ => ⟨B7, R7, X7, c7, rfl, h7, h8, (h9.trans HPL.out).trans HG.out.1⟩), (fun h => by cases h)⟩
                  · have hkL2 : k = L := by omega
                    go_wp2_with fail
                    go_ret2
                    refine ⟨false, _, rfl, hC4, HD4.out, (fun h => by cases h), fun _ => ⟨rfl, fun N hN hle => ?_⟩⟩
                    obtain ⟨r, hr, hbit, hle2⟩ := sc_pick hN (HG.out.2 N hN.2.1 hle) hin hjn
                    obtain ⟨q, hq⟩ := List.mem_iff_getElem?.1 ((mem_singF (X i j) ⟨r, hr⟩).2 hbit)
                    exact htr.out q ⟨r, hr⟩ (by rw [hkL2, HL.out]; exact (List.getElem?_eq_some_iff.1 hq).1) hq N hN hle2
            · obtain rfl : j = i := by omega
              have HX2 := Lib.hid hX2
              clear hX2
              go_wp2_with fail
              go_roundw
              case rel => exact ⟨j + 1, by omega, by go_num, HX2.out, Lib.hid (low_row hlow.out hlj.out), hC2, hD2⟩
              case measure => simp [RowKit.intOf]; omega
        · obtain rfl : i = n := by omega
          have HX1 := Lib.hid hX1
          clear hX1
          go_wp2_with fail
          go_ret2
          obtain ⟨hsc, hle⟩ := sc_of_low HG.out HCX.out HZ.out HS.out HDG.out HBD.out (fun a b ha hb => hlow.out a b ha hb)
          exact ⟨true, _, rfl, hC1, hD1, (fun _ => ⟨B, R, X, c, rfl, HX1.out, hsc, hle⟩), (fun h => by cases h)⟩
end Go.Proofs.Ytoadihclmnjjnaa.Nw
