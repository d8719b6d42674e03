/-
  Networks: Minimal's closure (layer 46).
-/
import Derived.Test.YtoadihclmnjjnaaNwQ
import Derived.Deep.RegionHeldLaw
set_option linter.unusedSimpArgs false
set_option linter.unusedVariables false
set_option maxRecDepth 100000
namespace Go.Proofs.Ytoadihclmnjjnaa.Nw
open Go Go.RowKit Go.ChangeShapes Go.WideShapes Go.Proofs.Ytoadihclmnjjnaa.Sl Go.Proofs.Ytoadihclmnjjnaa.Al Go.Lib

theorem infoR : (Try.prog.info? 30).map (fun i => (i.zero, i.size, i.bytes)) = some (some (.agg #[.int .i64 0, .int .i64 0, .int .i64 0]), 3, 24) := by kernel_rfl
/-- The slice v is the call's own and holds the constraints l. -/
def Rf (W0 w : World) (v : Value) (l : List Rl) : Prop := w.ownsRow W0.heap.size 30 3 v l.length (cellsR l) ∧ Below W0.heap.size W0 w
theorem Rf.alloc {W0 w : World} {v : Value} {l : List Rl} (h : Rf W0 w v l) (o : Obj) : Rf W0 (w.alloc o) v l := ⟨h.1.alloc o, h.2.alloc h.2.size o⟩
theorem Rf.drew {W0 w : World} {v : Value} {l : List Rl} (h : Rf W0 w v l) : Rf W0 w.drew v l := ⟨h.1, h.2.drew⟩
theorem Rf.nil (w : World) : Rf w w (.slice none 0 0) [] := ⟨World.ownsRow_nil _ _ _ _, Below.refl _ _⟩
theorem Rf.rs {W0 w : World} {v : Value} {l : List Rl} (h : Rf W0 w v l) (hl : l.length ≤ 1000000) : Rs w v l := ⟨Sl.of_owns h.1, by omega⟩
theorem cellsR_app (a b : List Rl) : cellsR (a ++ b) = cellsR a ++ cellsR b := by unfold cellsR; exact List.flatMap_append
theorem wp_rel {ops : Array Oper} {rest : List Oper} {o : Oper} {a : Act} {Q : Exit → Act → World → Prop} {W0 w : World} {v : Value} {l : List Rl} (hB : Rf W0 w v l) (hgd : o.guard = none) (s x : Operand)
    (ho : o.op = .call { callee := .builtin .append, args := #[s, x], argTypes := #[22, 22] }) (hs : a.eval s = v) {H : Nat} (te : TypeId)
    (hx : a.eval x = .slice (some ⟨H, 0, none⟩) 1 1) (hH : w.heap.size = H) (u : Rl) (hlen : l.length ≤ 1000000)
    (h : ∀ v' w', Rf W0 w' v' (l ++ [u]) → wpList Try.prog ops Q rest (a.put o.dst v') w') : wpList Try.prog ops Q (o :: rest) a (w.alloc (.cells #[.int .i64 u.i, .int .i64 u.j, .int .i64 u.s] te)) := by
  obtain ⟨i0, hi, hz0, hz1, hz2⟩ := info_parts infoR
  refine wpList_app1 hB.2 hgd s x _ ho _ Try.underlying22 hi hz0 hz1 hz2 rfl (by decide) v l.length (cellsR l) hs [.int .i64 u.i, .int .i64 u.j, .int .i64 u.s] te hB.1 hx hH rfl (by intro x hx; simp at hx; rcases hx with rfl | rfl | rfl <;> rfl) (by unfold maxLen; omega) (by omega) ?_
  intro g cap w' h2 h3
  refine h _ w' ⟨?_, h3⟩
  rw [cellsR_app, List.length_append]
  exact h2
/-- Ints in memory, as places. -/
def Is (w : World) (s : Value) (ks : List Nat) : Prop := Sl w s ks.length 1 (ks.map fun k => Value.int .i64 ((k : Nat) : Int))
theorem is_get {w : World} {g off : Nat} {ks : List Nat} (hc : ∀ j u, (ks.map fun k => Value.int .i64 ((k : Nat) : Int))[j]? = some u → w.cell? ⟨g, off + j, none⟩ = some u) {q k : Nat} (h : ks[q]? = some k) : w.cell? ⟨g, off + q, none⟩ = some (.int .i64 (k : Int)) :=
  hc q _ (by rw [List.getElem?_map, h]; rfl)
theorem selL_take (l : List Rl) (ks : List Nat) (q k : Nat) (h : ks[q]? = some k) : selL l (ks.take (q + 1)) = selL l (ks.take q) ++ [l.getD k default] := by
  unfold selL
  rw [List.take_add_one, h, List.map_append]; rfl
/-- What the closure of Minimal returns. -/
def MnE (P : Prop) (C : Nat) (w : World) (e : Ending) (w' : World) : Prop := ∃ b, e = .returned (.bool b) ∧ (b = true ↔ P) ∧ Memo w' C ∧ Md (fun k => k = C) w w'
set_option maxHeartbeats 8000000 in
theorem min1_any (n C BL BC BN : Nat) (l : List Rl) (s at_ : Value) (ks : List Nat) (w : World) (hn : 0 < n) (hn8 : n ≤ 8) (hs : Rs w s l) (hl : l.length ≤ 200) (hok : ∀ r ∈ l, OkR n r) (hks : Is w at_ ks) (hkl : ks.length ≤ 200) (hk : ∀ k ∈ ks, k < l.length)
    (hC : Memo w C) (c1 : w.cell? ⟨BL, 0, none⟩ = some s) (c2 : w.cell? ⟨BC, 0, none⟩ = some (.map (some C))) (c3 : w.cell? ⟨BN, 0, none⟩ = some (.int .i64 (n : Int))) :
    Calls Try.prog 50 #[at_, .pointer (some ⟨BL, 0, none⟩), .pointer (some ⟨BC, 0, none⟩), .pointer (some ⟨BN, 0, none⟩)] w (MnE (SatL n (selL l ks)) C w) := by
  obtain ⟨ad, cap, rfl⟩ := hs.form
  obtain ⟨ad2, cap2, rfl⟩ := hks.form
  obtain ⟨m, hm⟩ : ∃ m, m = ks.length := ⟨_, rfl⟩
  obtain ⟨L, hL⟩ : ∃ L, L = l.length := ⟨_, rfl⟩
  have hsel := selL_ok hok hk
  have HMA := fun v W (h : Rf w W v (selL l ks)) => matrix_any n (selL l ks) v W hn hn8 (h.rs (by simp [selL]; omega)) (by simp [selL]; omega) hsel
  have hSV := fun B c R W hM hC => solved_any (mu n (matN (selL l ks)) + 1) C B c n R (matN (selL l ks)) W (by omega) hn (by omega) hM (bd_matN n _) (sym_matN _ hsel) (dg_matN n _) hC
  have HS := Lib.hid hs
  have HKS := Lib.hid hks
  have HM := Lib.hid hm
  have HL := Lib.hid hL
  have HKL := Lib.hid hk
  have HSEL := Lib.hid (sat_iff hsel)
  have HMC := Lib.hid hC
  have hm2 : m ≤ 200 := by omega
  have hL2 : (L : Int) ≤ 200 := by omega
  rw [← hm]
  rw [← hL] at c1
  have hb1 := block_of_cell c1
  have hb2 := block_of_cell c2
  have hb3 := block_of_cell c3
  clear hs hks hm hL hok hk hsel hC hl hkl
  go_enter Try.func50, Try.ntmps50
  go_wp2
  go_loopw [6, 13] (fun v iv wr => ∃ q, q ≤ m ∧ iv = .int .i64 (q : Int) ∧ Rf w wr v (selL l (ks.take q))) (fun _ iv _ => m - (RowKit.intOf iv).toNat)
  case atStart => exact ⟨0, Nat.zero_le _, rfl, Rf.nil w⟩
  case round =>
    obtain ⟨q, hq, rfl, hR⟩ := hrel
    by_cases hqm : q < m
    · obtain ⟨g, off, cp, e1, hcl⟩ := HKS.out.open (by rw [← HM.out]; omega)
      rw [← HM.out] at e1
      cases e1
      obtain ⟨k, ht⟩ : ∃ t, ks[q]? = some t := ⟨_, List.getElem?_eq_getElem (by rw [← HM.out]; exact hqm)⟩
      have y0 := Go.Proofs.Ytoadihclmnjjnaa.Sl.cell_kept (is_get hcl ht) hR.2
      have hkk := HKL.out k (List.mem_of_getElem? ht)
      obtain ⟨gl, ol, cl, e2, hcr⟩ := HS.out.get (by omega)
      rw [← HL.out] at e2
      cases e2
      obtain ⟨x, hx⟩ : ∃ x, l[k]? = some x := ⟨_, List.getElem?_eq_getElem hkk⟩
      have hxd : l.getD k default = x := by rw [List.getD_eq_getElem?_getD, hx]; rfl
      obtain ⟨z0, z1, z2⟩ := hcr k x hx
      have z0 := Go.Proofs.Ytoadihclmnjjnaa.Sl.cell_kept z0 hR.2
      have z1 := Go.Proofs.Ytoadihclmnjjnaa.Sl.cell_kept z1 hR.2
      have z2 := Go.Proofs.Ytoadihclmnjjnaa.Sl.cell_kept z2 hR.2
      have y1 := Go.Proofs.Ytoadihclmnjjnaa.Sl.cell_kept c1 hR.2
      have k0 : (0 : Int) ≤ (k : Int) := by omega
      have k1 : (k : Int) < (L : Int) := by rw [HL.out]; omega
      have q0 : (0 : Int) ≤ (q : Int) := by omega
      have q1 : (q : Int) < (m : Int) := by omega
      have hstep := selL_take l ks q k ht
      rw [hxd] at hstep
      have HST := Lib.hid hstep
      have hlen : (selL l (ks.take q)).length ≤ 1000000 := by unfold selL; rw [List.length_map, List.length_take]; omega
      clear hcl hcr ht hx hxd hstep hkk
      go_wp2_with (at_builtin; refine wp_rel hR rfl (.tmp 17) (.tmp 22) rfl rfl 30 rfl (by simp) x hlen ?_; intro v1 w1 hR1)
      go_roundw
      case rel => exact ⟨q + 1, by omega, by go_num, by rw [HST.out]; exact hR1⟩
      case measure => simp [RowKit.intOf]; omega
    · obtain rfl : q = m := by omega
      have e1 : ks.take q = ks := by rw [HM.out]; exact List.take_length
      rw [e1] at hR
      have y2 := Go.Proofs.Ytoadihclmnjjnaa.Sl.cell_kept c2 hR.2
      have y3 := Go.Proofs.Ytoadihclmnjjnaa.Sl.cell_kept c3 hR.2
      have HR := Lib.hid hR
      clear hR e1 c1
      have hmc : Memo wr C := HMC.out.keep (S := fun _ => False) (Md.of_below HR.out.2) (fun h => h)
      have HMCW := Lib.hid hmc
      have HK := Lib.hid (fun (w2 w3 : World) (B : Nat) (R : Nat → Nat) (hR0 : ∀ i, i < n → wr.heap.size ≤ R i) (hb : Below wr.heap.size wr w2) (hd : Md (fun k => k = C ∨ Rows R n k) w2 w3) => (show Md (fun k => k = C) w w3 from ((Md.of_below HR.out.2).trans (((Md.of_below hb).trans hd).mono (T := fun k => k = C ∨ wr.heap.size ≤ k) (fun k _ h => by
        rcases h with rfl | ⟨a, ha, rfl⟩
        · exact Or.inl rfl
        · exact Or.inr (hR0 a ha))) |> fun h => (⟨h.os, h.tape, h.output, h.size, fun k hk hn => h.block k hk (by have := HR.out.2.size; omega)⟩ : Md (fun k => k = C) w w3))))
      clear hmc
      go_wp2
      refine wp_region_held_drew (S := fun V => V.cell? ⟨BC, 0, none⟩ = some (.map (some C)) ∧ V.cell? ⟨BN, 0, none⟩ = some (.int .i64 (n : Int))) (by kernel_rfl) ⟨y2, y3⟩ (fun hHeld => ?_)
      (refine wpAnyH_take (i := 0) (v := ?tkv0_1) rfl (by kernel_rfl) (by kernel_rfl) (by kernel_rfl) (fun _ _ _ h => h) (Or.inl ⟨by rfl, ?tky0_1⟩) (by assumption) ?tkr0_1; case tky0_1 => (intro V hV; (try dsimp only at hV); go_simp; (try with_reducible rfl)); try simp only [Act.put, List.setIfInBounds_toArray, List.set_cons_zero, List.set_cons_succ])
      (refine wpAnyH_take (i := 1) (v := ?tkv1_2) rfl (by kernel_rfl) (by kernel_rfl) (by kernel_rfl) (fun _ _ _ h => h) (Or.inl ⟨by rfl, ?tky1_2⟩) (by assumption) ?tkr1_2; case tky1_2 => (intro V hV; (try dsimp only at hV); go_simp; (try with_reducible rfl)); try simp only [Act.put, List.setIfInBounds_toArray, List.set_cons_zero, List.set_cons_succ])
      (refine wpAnyH_take (i := 2) (v := ?tkv2_3) rfl (by kernel_rfl) (by kernel_rfl) (by kernel_rfl) (fun _ _ _ h => h) (Or.inl ⟨by rfl, ?tky2_3⟩) (by assumption) ?tkr2_3; case tky2_3 => (intro V hV; (try dsimp only at hV); go_simp; (try with_reducible rfl)); try simp only [Act.put, List.setIfInBounds_toArray, List.set_cons_zero, List.set_cons_succ])
      (refine wpAnyH_ready (rs := [3]) (by kernel_rfl) (by simp) ?_; refine AllReadyH.cons rfl (fun K hK => ?_) AllReadyH.nil; (try go_simp); (go_at_call 52; (with_reducible refine (HMA _ _ HR.out.drew).mono ?_); rintro e w2 ⟨B, R, rfl, hM, hB, hRR, hb⟩; replace hb := below_undrew hb; have x2 := Go.Proofs.Ytoadihclmnjjnaa.Sl.cell_kept y2 hb; have x3 := Go.Proofs.Ytoadihclmnjjnaa.Sl.cell_kept y3 hb; have hmc2 := HMCW.out.keep (S := fun _ => False) (Md.of_below hb) (fun h => h)); refine hK.out _ _ (by (exact ⟨x2, x3⟩)) (fun hHeld => ?_); clear hK K; try simp only [Act.put, List.setIfInBounds_toArray, List.set_cons_zero, List.set_cons_succ])
      (refine wpAnyH_ready (rs := [4]) (by kernel_rfl) (by simp) ?_; refine AllReadyH.cons rfl (fun K hK => ?_) AllReadyH.nil; (try go_simp); (go_at_call 51; (with_reducible refine (hSV B n R w2 hM hmc2).mono ?_); rintro e w3 ⟨ok, v, rfl, hC3, hD3, hyes, hno⟩; have hD4 := HK.out w2 w3 B R hRR hb hD3; have x4 : w3.cell? ⟨BC, 0, none⟩ = some (.map (some C)) := hD4.kept c2 (fun e => (HMC.out.neCell c2) e); have x5 : w3.cell? ⟨BN, 0, none⟩ = some (.int .i64 (n : Int)) := hD4.kept c3 (fun e => (HMC.out.neCell c3) e)); refine hK.out _ _ (by (exact ⟨x4, x5⟩)) (fun hHeld => ?_); clear hK K; try simp only [Act.put, List.setIfInBounds_toArray, List.set_cons_zero, List.set_cons_succ])
      (refine wpAnyH_ready (rs := [5]) (by kernel_rfl) (by simp) ?_; refine AllReadyH.cons rfl (fun K hK => ?_) AllReadyH.nil; (try go_simp); refine hK.out _ _ (by (exact ⟨x4, x5⟩)) (fun hHeld => ?_); clear hK K; try simp only [Act.put, List.setIfInBounds_toArray, List.set_cons_zero, List.set_cons_succ])
      (refine wpAnyH_take (i := 6) (v := ?tkv6_4) rfl (by kernel_rfl) (by kernel_rfl) (by kernel_rfl) (fun _ _ _ h => h) (Or.inl ⟨by rfl, ?tky6_4⟩) (by assumption) ?tkr6_4; case tky6_4 => (intro V hV; (try dsimp only at hV); go_simp; (try with_reducible rfl)); try simp only [Act.put, List.setIfInBounds_toArray, List.set_cons_zero, List.set_cons_succ])
      (refine wpAnyH_take (i := 7) (v := ?tkv7_5) rfl (by kernel_rfl) (by kernel_rfl) (by kernel_rfl) (fun _ _ _ h => h) (Or.inl ⟨by rfl, ?tky7_5⟩) (by assumption) ?tkr7_5; case tky7_5 => (intro V hV; (try dsimp only at hV); go_simp; (try with_reducible rfl)); try simp only [Act.put, List.setIfInBounds_toArray, List.set_cons_zero, List.set_cons_succ])
      (refine wpAnyH_ready (rs := [8]) (by kernel_rfl) (by simp) ?_; refine AllReadyH.cons rfl (fun K hK => ?_) AllReadyH.nil; (try go_simp); refine hK.out _ _ (by (exact ⟨x4, x5⟩)) (fun hHeld => ?_); clear hK K; try simp only [Act.put, List.setIfInBounds_toArray, List.set_cons_zero, List.set_cons_succ])
      (refine wpAnyH_ready (rs := [9]) (by kernel_rfl) (by simp) ?_; refine AllReadyH.cons rfl (fun K hK => ?_) AllReadyH.nil; (try go_simp); refine hK.out _ _ (by (exact ⟨x4, x5⟩)) (fun hHeld => ?_); clear hK K; try simp only [Act.put, List.setIfInBounds_toArray, List.set_cons_zero, List.set_cons_succ])
      refine wpAnyH_done (by kernel_rfl) ?_ _
      have HYES := Lib.hid hyes
      have HNO := Lib.hid hno
      clear hyes hno
      go_wp2
      go_ret
      refine ⟨ok, rfl, ?_, hC3, hD4⟩
      rw [← HSEL.out]
      cases ok
      · obtain ⟨_, hnone⟩ := (show (false = false → _ ∧ _) from HNO.out) rfl
        exact ⟨fun h => (by cases h), fun ⟨N, h1, h2⟩ => (hnone N h1 h2).elim⟩
      · obtain ⟨B7, R7, X7, c7, _, _, h8, h9⟩ := (show (true = true → _) from HYES.out) rfl
        exact ⟨fun _ => ⟨X7, h8, h9⟩, fun _ => rfl⟩
end Go.Proofs.Ytoadihclmnjjnaa.Nw
