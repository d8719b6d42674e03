/-
  The walk of the reference's Text (layer 34).
-/
import Derived.Test.YtokbipfkpojflaaSt
set_option linter.unusedSimpArgs false
set_option linter.unusedVariables false
namespace Go.Proofs.Ytokbipfkpojflaa.Sc
open Go Go.RowKit Go.ChangeShapes Go.WideShapes Go.Proofs.Ytokbipfkpojflaa.Sl Go.Proofs.Ytokbipfkpojflaa.Va Go.Lib

theorem rkinds_new (w : World) : Calls Try.prog 52 #[] w fun e w' => e = .returned (.slice (some ⟨w.heap.size, 0, none⟩) 4 4) ∧ w' = w.alloc (.cells (kwL.map Value.string).toArray 9) := by
  go_enter Try.func52, Try.ntmps52
  go_wp2
  go_ret
  exact ⟨rfl, rfl⟩
theorem rtext_bad (s : Sch) (a1 a2 : Option Addr) (c1 c2 : Nat) (w : World) (hs : Cs w (.slice a1 s.cols.length c1) s.cols) (hf : FsAt w (.slice a2 s.frn.length c2) s.frn) (h : vldS s = false) :
    Calls Try.prog 17 #[.agg #[.string s.name, .slice a1 s.cols.length c1, .int .i64 s.key, .slice a2 s.frn.length c2]] w fun e w' => e = .returned (.tuple #[.string ⟨#[]⟩, .int .i64 1]) ∧ Below w.heap.size w w' := by
  have HV := fun W (hb : Below w.heap.size w W) => rvalid_any s a1 a2 c1 c2 W (hs.below hb) (hf.below (fun r x hx => hx.below hb) hb)
  rw [h] at HV
  generalize s.cols.length = m1 at *
  generalize s.frn.length = m2 at *
  clear hs hf h
  go_enter Try.func17, Try.ntmps17
  go_wp2_with (go_at_call 13; (with_reducible refine (HV _ (by go_grown)).mono ?_); rintro e w1 ⟨rfl, hb⟩; have hL : Below w.heap.size w w1 := bstep (by go_grown) hb)
  go_ret2
  exact ⟨rfl, hL⟩
theorem fr_app (t : ByteArray) (f : Fr) : t ++ (⟨#[32, 102, 111, 114, 101, 105, 103, 110, 32]⟩ : ByteArray) ++ nmT f.cols ++ ⟨#[32]⟩ ++ f.tab = t ++ frT f := by
  unfold frT nmT
  simp only [ByteArray.append_assoc]
  rw [show (⟨#[32, 102, 111, 114, 101, 105, 103, 110, 32, 40]⟩ : ByteArray) = ⟨#[32, 102, 111, 114, 101, 105, 103, 110, 32]⟩ ++ ⟨#[40]⟩ from rfl, show (⟨#[41, 32]⟩ : ByteArray) = ⟨#[41]⟩ ++ ⟨#[32]⟩ from rfl]
  simp only [ByteArray.append_assoc]
theorem hd_app (s : Sch) (q : Nat) (h : s.key = (q : Int)) : (⟨#[116, 97, 98, 108, 101, 32]⟩ : ByteArray) ++ s.name ++ ⟨#[32]⟩ ++ nmT (s.cols.map colT) ++ ⟨#[32, 107, 101, 121, 32]⟩ ++ ⟨#[(48 + (q : Int)).toNat.toUInt8]⟩ = hdT s := by
  unfold hdT nmT
  rw [h]
  simp only [ByteArray.append_assoc]
  rw [show (⟨#[32, 40]⟩ : ByteArray) = ⟨#[32]⟩ ++ ⟨#[40]⟩ from rfl, show (⟨#[41, 32, 107, 101, 121, 32]⟩ : ByteArray) = ⟨#[41]⟩ ++ ⟨#[32, 107, 101, 121, 32]⟩ from rfl]
  simp only [ByteArray.append_assoc]
set_option maxRecDepth 20000 in
set_option maxHeartbeats 4000000 in
theorem rtext_go (s : Sch) (a1 a2 : Option Addr) (n m c1 c2 : Nat) (w : World) (hn : n = s.cols.length) (hm : m = s.frn.length) (hs : Cs w (.slice a1 n c1) s.cols) (hf : FsAt w (.slice a2 m c2) s.frn) (h : vldS s = true) :
    Calls Try.prog 17 #[.agg #[.string s.name, .slice a1 n c1, .int .i64 s.key, .slice a2 m c2]] w fun e w' => e = .returned (.tuple #[.string (s.frn.foldl (fun o f => o ++ frT f) (hdT s)), .int .i64 0]) ∧ Below w.heap.size w w' := by
  have HV := fun W (hb : Below w.heap.size w W) => rvalid_any s a1 a2 c1 c2 W (hn ▸ hs.below hb) (hm ▸ hf.below (fun r x hx => hx.below hb) hb)
  rw [h, ← hn, ← hm] at HV
  obtain ⟨k1, k2, k3, k4, k5⟩ := vld_key h
  have n8 : (n : Int) ≤ 8 := by omega
  have m8 : (m : Int) ≤ 8 := by omega
  have HN := Lib.hid hn
  have HM := Lib.hid hm
  have HS := Lib.hid hs
  have HF := Lib.hid hf
  have HX := Lib.hid h
  obtain ⟨R, hR⟩ : ∃ R, s.frn.foldl (fun o f => o ++ frT f) (hdT s) = R := ⟨_, rfl⟩
  have HR := Lib.hid hR
  rw [hR]
  clear hs hf hn hm hR h
  go_enter Try.func17, Try.ntmps17
  go_upto_region 1 with fail
  obtain ⟨W0, hW⟩ : ∃ W0, w.alloc (.cells #[.string s.name, .slice a1 n c1, .int .i64 s.key, .slice a2 m c2] 28) = W0 := ⟨_, rfl⟩
  obtain ⟨hL0, hlt0, p0, p1, p2, p3⟩ := box4n hW
  rw [hW]
  clear hW
  generalize w.heap.size = B at p0 p1 p2 p3 hlt0 ⊢
  go_upto_region 3 with (go_at_call 13; (with_reducible refine (HV _ hL0).mono ?_); rintro e w1 ⟨rfl, hb⟩)
  have hL1 := bstep hL0 hb
  replace p0 := Go.Proofs.Ytokbipfkpojflaa.Sl.cell_kept p0 hb
  replace p1 := Go.Proofs.Ytokbipfkpojflaa.Sl.cell_kept p1 hb
  replace p2 := Go.Proofs.Ytokbipfkpojflaa.Sl.cell_kept p2 hb
  replace p3 := Go.Proofs.Ytokbipfkpojflaa.Sl.cell_kept p3 hb
  clear hb HV hL0 hlt0
  go_wp2
  go_loopw [4, 5] (fun v i wr => ∃ j : Nat, j ≤ n ∧ i = .int .i64 j ∧ Tf w1 wr v ((s.cols.take j).map colT)) (fun _ i _ => n - (intOf i).toNat)
  case atStart => exact ⟨0, Nat.zero_le _, rfl, Tf.nil w1⟩
  case round =>
    obtain ⟨j, hj, rfl, hT⟩ := hrel
    by_cases hlt : j < n
    · obtain ⟨g, off, cp, e1, hc⟩ := (HN.out ▸ HS.out : Cs w (.slice a1 s.cols.length c1) s.cols).open (by rw [← HN.out]; omega)
      rw [← HN.out] at e1
      cases e1
      obtain ⟨⟨a, b⟩, ht⟩ : ∃ t, s.cols[j]? = some t := ⟨_, List.getElem?_eq_getElem (by rw [← HN.out]; exact hlt)⟩
      obtain ⟨z0, z1⟩ := cs_get hc ht
      have hw := bstep hL1 hT.2
      have d0 := Go.Proofs.Ytokbipfkpojflaa.Sl.cell_kept z0 hw
      have d1 := Go.Proofs.Ytokbipfkpojflaa.Sl.cell_kept z1 hw
      have r1 := Go.Proofs.Ytokbipfkpojflaa.Sl.cell_kept p1 hT.2
      obtain ⟨q1, q2, q3⟩ := vld_cols HX.out _ (List.mem_of_getElem? ht)
      have HST := Lib.hid (map_take colT s.cols j _ ht)
      dsimp only at q1 q2 q3
      obtain ⟨d, rfl⟩ : ∃ d : Nat, b = (d : Int) + 1 := ⟨(b - 1).toNat, by omega⟩
      have qd : d ≤ 3 := by omega
      have j0 : (0 : Int) ≤ (j : Int) := by omega
      have j1 : (j : Int) < (n : Int) := by omega
      have hlen : ((s.cols.take j).map colT).length = j := by rw [List.length_map, List.length_take, ← HN.out]; omega
      have HLEN := Lib.hid hlen
      have HC := Lib.hid hc
      have HT0 := Lib.hid ht
      clear z0 z1 hc ht
      go_upto_region 7 with fail
      obtain ⟨i0, hi, hz0, hz1, hz2'⟩ := info_parts infoS
      have hwi : ∀ x : Nat, x ≤ 3 → IntKind.i64.wrap (x : Int) = (x : Int) := wrapi_small
      have hwr : ∀ x : Nat, x ≤ 3 → wrap64 (x : Int) = (x : Int) := wrap_small
      have hns1 : ¬ 9223372036854775807 < a.size + 1 := by omega
      have hns2 : ¬ 9223372036854775807 < a.size + 1 + (kwB ((d : Int) + 1)).size := by have := kw_size ((d : Int) + 1); omega
      have hw4 : (d : Int) < 4 := by omega
      have hS : wr.drew.cell? ⟨B, 1, none⟩ = some (.slice (some ⟨g, off, none⟩) n c1) ∧ wr.drew.cell? ⟨g, off + j * 2, none⟩ = some (.string a) ∧ wr.drew.cell? ⟨g, off + j * 2 + 1, none⟩ = some (.int .i64 ((d : Int) + 1)) := ⟨r1, d0, d1⟩
      refine wp_region_held_drew (S := fun V => V.cell? ⟨B, 1, none⟩ = some (.slice (some ⟨g, off, none⟩) n c1) ∧ V.cell? ⟨g, off + j * 2, none⟩ = some (.string a) ∧ V.cell? ⟨g, off + j * 2 + 1, none⟩ = some (.int .i64 ((d : Int) + 1))) (by kernel_rfl) hS (fun hHeld => ?_)
      (refine wpAnyH_take (i := 0) (v := ?tkv0_1) rfl (by kernel_rfl) (by kernel_rfl) (by kernel_rfl) (fun _ _ _ h => h) (Or.inl ⟨by rfl, ?tky0_1⟩) (by assumption) ?tkr0_1; case tky0_1 => (intro V hV; (try dsimp only at hV); go_simp; (try with_reducible rfl)); try simp only [Act.put, List.setIfInBounds_toArray, List.set_cons_zero, List.set_cons_succ])
      (refine wpAnyH_take (i := 1) (v := ?tkv1_2) rfl (by kernel_rfl) (by kernel_rfl) (by kernel_rfl) (fun _ _ _ h => h) (Or.inl ⟨by rfl, ?tky1_2⟩) (by assumption) ?tkr1_2; case tky1_2 => (intro V hV; (try dsimp only at hV); go_simp; (try with_reducible rfl)); try simp only [Act.put, List.setIfInBounds_toArray, List.set_cons_zero, List.set_cons_succ])
      (refine wpAnyH_take (i := 2) (v := ?tkv2_3) rfl (by kernel_rfl) (by kernel_rfl) (by kernel_rfl) (fun _ _ _ h => h) (Or.inl ⟨by rfl, ?tky2_3⟩) (by assumption) ?tkr2_3; case tky2_3 => (intro V hV; (try dsimp only at hV); go_simp; (try with_reducible rfl)); try simp only [Act.put, List.setIfInBounds_toArray, List.set_cons_zero, List.set_cons_succ])
      (refine wpAnyH_take (i := 3) (v := ?tkv3_4) rfl (by kernel_rfl) (by kernel_rfl) (by kernel_rfl) (fun _ _ _ h => h) (Or.inl ⟨by rfl, ?tky3_4⟩) (by assumption) ?tkr3_4; case tky3_4 => (intro V hV; (try dsimp only at hV); go_simp; (try with_reducible rfl)); try simp only [Act.put, List.setIfInBounds_toArray, List.set_cons_zero, List.set_cons_succ])
      (refine wpAnyH_take (i := 4) (v := ?tkv4_5) rfl (by kernel_rfl) (by kernel_rfl) (by kernel_rfl) (fun _ _ _ h => h) (Or.inl ⟨by rfl, ?tky4_5⟩) (by assumption) ?tkr4_5; case tky4_5 => (intro V hV; (try dsimp only at hV); go_simp; (try with_reducible rfl)); try simp only [Act.put, List.setIfInBounds_toArray, List.set_cons_zero, List.set_cons_succ])
      (refine wpAnyH_take (i := 5) (v := ?tkv5_6) rfl (by kernel_rfl) (by kernel_rfl) (by kernel_rfl) (fun _ _ _ h => h) (Or.inl ⟨by rfl, ?tky5_6⟩) (by assumption) ?tkr5_6; case tky5_6 => (intro V hV; (try dsimp only at hV); go_simp; (try with_reducible rfl)); try simp only [Act.put, List.setIfInBounds_toArray, List.set_cons_zero, List.set_cons_succ])
      (refine wpAnyH_take (i := 6) (v := ?tkv6_7) rfl (by kernel_rfl) (by kernel_rfl) (by kernel_rfl) (fun _ _ _ h => h) (Or.inl ⟨by rfl, ?tky6_7⟩) (by assumption) ?tkr6_7; case tky6_7 => (intro V hV; (try dsimp only at hV); go_simp; (try with_reducible rfl)); try simp only [Act.put, List.setIfInBounds_toArray, List.set_cons_zero, List.set_cons_succ])
      (refine wpAnyH_take (i := 7) (v := ?tkv7_8) rfl (by kernel_rfl) (by kernel_rfl) (by kernel_rfl) (fun _ _ _ h => h) (Or.inl ⟨by rfl, ?tky7_8⟩) (by assumption) ?tkr7_8; case tky7_8 => (intro V hV; (try dsimp only at hV); go_simp; (try with_reducible rfl)); try simp only [Act.put, List.setIfInBounds_toArray, List.set_cons_zero, List.set_cons_succ])
      (refine wpAnyH_take (i := 9) (v := ?tkv9_9) rfl (by kernel_rfl) (by kernel_rfl) (by kernel_rfl) (fun _ _ _ h => h) (Or.inl ⟨by rfl, ?tky9_9⟩) (by assumption) ?tkr9_9; case tky9_9 => (intro V hV; (try dsimp only at hV); go_simp; (try with_reducible rfl)); try simp only [Act.put, List.setIfInBounds_toArray, List.set_cons_zero, List.set_cons_succ])
      (refine wpAnyH_take (i := 10) (v := ?tkv10_10) rfl (by kernel_rfl) (by kernel_rfl) (by kernel_rfl) (fun _ _ _ h => h) (Or.inl ⟨by rfl, ?tky10_10⟩) (by assumption) ?tkr10_10; case tky10_10 => (intro V hV; (try dsimp only at hV); go_simp; (try with_reducible rfl)); try simp only [Act.put, List.setIfInBounds_toArray, List.set_cons_zero, List.set_cons_succ])
      (refine wpAnyH_take (i := 11) (v := ?tkv11_11) rfl (by kernel_rfl) (by kernel_rfl) (by kernel_rfl) (fun _ _ _ h => h) (Or.inl ⟨by rfl, ?tky11_11⟩) (by assumption) ?tkr11_11; case tky11_11 => (intro V hV; (try dsimp only at hV); go_simp; (try with_reducible rfl)); try simp only [Act.put, List.setIfInBounds_toArray, List.set_cons_zero, List.set_cons_succ])
      (refine wpAnyH_take (i := 12) (v := ?tkv12_12) rfl (by kernel_rfl) (by kernel_rfl) (by kernel_rfl) (fun _ _ _ h => h) (Or.inl ⟨by rfl, ?tky12_12⟩) (by assumption) ?tkr12_12; case tky12_12 => (intro V hV; (try dsimp only at hV); go_simp; (try with_reducible rfl)); try simp only [Act.put, List.setIfInBounds_toArray, List.set_cons_zero, List.set_cons_succ])
      (refine wpAnyH_take (i := 13) (v := ?tkv13_13) rfl (by kernel_rfl) (by kernel_rfl) (by kernel_rfl) (fun _ _ _ h => h) (Or.inl ⟨by rfl, ?tky13_13⟩) (by assumption) ?tkr13_13; case tky13_13 => (intro V hV; (try dsimp only at hV); go_simp; (try with_reducible rfl)); try simp only [Act.put, List.setIfInBounds_toArray, List.set_cons_zero, List.set_cons_succ])
      (refine wpAnyH_take (i := 14) (v := ?tkv14_14) rfl (by kernel_rfl) (by kernel_rfl) (by kernel_rfl) (fun _ _ _ h => h) (Or.inl ⟨by rfl, ?tky14_14⟩) (by assumption) ?tkr14_14; case tky14_14 => (intro V hV; (try dsimp only at hV); go_simp; (try with_reducible rfl)); try simp only [Act.put, List.setIfInBounds_toArray, List.set_cons_zero, List.set_cons_succ])
      (refine wpAnyH_take (i := 15) (v := ?tkv15_15) rfl (by kernel_rfl) (by kernel_rfl) (by kernel_rfl) (fun _ _ _ h => h) (Or.inl ⟨by rfl, ?tky15_15⟩) (by assumption) ?tkr15_15; case tky15_15 => (intro V hV; (try dsimp only at hV); go_simp; (try with_reducible rfl)); try simp only [Act.put, List.setIfInBounds_toArray, List.set_cons_zero, List.set_cons_succ])
      have hT2 : Tf w1 wr.drew u4 ((s.cols.take j).map colT) := ⟨hT.1.drew, bdrew hT.2⟩
      clear hT d0 d1 r1
      generalize wr.drew = W2 at hS hT2 ⊢
      (refine wpAnyH_ready (rs := [8]) (by kernel_rfl) (by simp) ?_; refine AllReadyH.cons rfl (fun K hK => ?_) AllReadyH.nil; (try go_simp); (go_at_call 52; (with_reducible refine (rkinds_new _).mono ?_); rintro e w3 ⟨rfl, hw3⟩; have hb3 : Below W2.heap.size W2 w3 := hw3 ▸ (Below.refl _ W2).alloc (Nat.le_refl _) _; have hS3 := And.intro (Go.Proofs.Ytokbipfkpojflaa.Sl.cell_kept hS.1 hb3) (And.intro (Go.Proofs.Ytokbipfkpojflaa.Sl.cell_kept hS.2.1 hb3) (Go.Proofs.Ytokbipfkpojflaa.Sl.cell_kept hS.2.2 hb3))); refine hK.out _ _ (by exact hS3) (fun hHeld => ?_); clear hK K; try simp only [Act.put, List.setIfInBounds_toArray, List.set_cons_zero, List.set_cons_succ])
      have hk0 : w3.cell? ⟨W2.heap.size, d, none⟩ = some (.string (kwB ((d : Int) + 1))) := hw3 ▸ (Bx.new W2 9 (kwL.map Value.string).toArray).cell d _ (by
        have h := kw_at (d + 1) (by omega) (by omega)
        rw [Nat.add_sub_cancel] at h
        simp only [List.getElem?_toArray, List.getElem?_map, h]
        rfl)
      have hT3 : Tf w1 w3 u4 ((s.cols.take j).map colT) := hT2.below' hb3
      clear hT2 hS hw3
      (refine wpAnyH_ready (rs := [16]) (by kernel_rfl) (by simp) ?_; refine AllReadyH.cons rfl (fun K hK => ?_) AllReadyH.nil; (try go_simp); refine hK.out _ _ (by exact hS3) (fun hHeld => ?_); clear hK K; try simp only [Act.put, List.setIfInBounds_toArray, List.set_cons_zero, List.set_cons_succ])
      (refine wpAnyH_ready (rs := [17]) (by kernel_rfl) (by simp) ?_; refine AllReadyH.cons rfl (fun K hK => ?_) AllReadyH.nil; (try go_simp); refine hK.out _ _ (by exact hS3) (fun hHeld => ?_); clear hK K; try simp only [Act.put, List.setIfInBounds_toArray, List.set_cons_zero, List.set_cons_succ])
      (refine wpAnyH_ready (rs := [18]) (by kernel_rfl) (by simp) ?_; refine AllReadyH.cons rfl (fun K hK => ?_) AllReadyH.nil; (try go_simp); refine hK.out _ _ (by exact hS3) (fun hHeld => ?_); clear hK K; try simp only [Act.put, List.setIfInBounds_toArray, List.set_cons_zero, List.set_cons_succ])
      have hl4 : Below w3.heap.size w3 (w3.alloc (.cells #[.string (a ++ (⟨#[32]⟩ : ByteArray) ++ kwB ((d : Int) + 1))] 9)) := (Below.refl _ w3).alloc (Nat.le_refl _) _
      (refine wpAnyH_ready (rs := [19]) (by kernel_rfl) (by simp) ?_; refine AllReadyH.cons rfl (fun K hK => ?_) AllReadyH.nil; (try go_simp); refine hK.out _ _ (by exact ⟨Go.Proofs.Ytokbipfkpojflaa.Sl.cell_kept hS3.1 hl4, Go.Proofs.Ytokbipfkpojflaa.Sl.cell_kept hS3.2.1 hl4, Go.Proofs.Ytokbipfkpojflaa.Sl.cell_kept hS3.2.2 hl4⟩) (fun hHeld => ?_); clear hK K; try simp only [Act.put, List.setIfInBounds_toArray, List.set_cons_zero, List.set_cons_succ])
      refine wpAnyH_ready (rs := [20]) (by kernel_rfl) (by simp) ?_
      refine AllReadyH.cons rfl (fun K hK => ?_) AllReadyH.nil
      have hw3s := hT3.2.size
      refine step_append_lies _ rfl _ _ 38 rfl w1.heap.size 9 i0 (.string ⟨#[]⟩) 1 16 Try.underlying38 hi hz0 hz1 hz2' rfl (by decide) u4 ((s.cols.take j).map colT).length (((s.cols.take j).map colT).map .string) rfl (hT3.1.alloc _) ⟨w3.heap.size, 0, none⟩ 1 1 [.string (a ++ (⟨#[32]⟩ : ByteArray) ++ kwB ((d : Int) + 1))] rfl rfl (World.news_of_block (cs := #[.string (a ++ (⟨#[32]⟩ : ByteArray) ++ kwB ((d : Int) + 1))]) (t := 9) (fr := (0, 0)) (heap_alloc_new w3 _)) (by simp [Value.oneCell']) (by decide) (by rw [hlen]; unfold maxLen; omega) (by rw [hlen]; omega) (by simp; omega) _ rfl ?_
      intro gg cap w4 hown4 hgr _ _
      have hL4 : Below w1.heap.size w1 w4 := grow_step (hT3.2.alloc hT3.2.size _) hgr (fun q hq => (hT3.1.lt q hq).1)
      have hT4 : Tf w1 w4 (.slice (some ⟨gg, 0, none⟩) (((s.cols.take j).map colT).length + 1) cap) ((s.cols.take (j + 1)).map colT) := by
        refine ⟨?_, hL4⟩
        rw [HST.out, List.map_append, List.length_append]
        exact hown4
      have hw4' := bstep hL1 hL4
      refine hK.out _ _ (by exact ⟨Go.Proofs.Ytokbipfkpojflaa.Sl.cell_kept p1 hL4, Go.Proofs.Ytokbipfkpojflaa.Sl.cell_kept (cs_get HC.out HT0.out).1 hw4', Go.Proofs.Ytokbipfkpojflaa.Sl.cell_kept (cs_get HC.out HT0.out).2 hw4'⟩) (fun hH4 => ?_)
      clear hK K
      try simp only [Act.put, List.setIfInBounds_toArray, List.set_cons_zero, List.set_cons_succ]
      (refine wpAnyH_ready (rs := [21]) (by kernel_rfl) (by simp) ?_; refine AllReadyH.cons rfl (fun K hK => ?_) AllReadyH.nil; (try go_simp); refine hK.out _ _ (by assumption) (fun hHeld => ?_); clear hK K; try simp only [Act.put, List.setIfInBounds_toArray, List.set_cons_zero, List.set_cons_succ])
      refine wpAnyH_done (by kernel_rfl) ?_ _
      clear hgr hown4
      have hmin : ((s.cols.take j).map colT).length = min j s.cols.length := by rw [List.length_map, List.length_take]
      rw [hmin] at hT4
      go_wp2
      go_roundw
      case rel => exact ⟨j + 1, by omega, by go_num, hT4⟩
      case measure => simp [intOf]; omega
    · have e1 : s.cols.take j = s.cols := List.take_of_length_le (by rw [← HN.out]; omega)
      rw [e1] at hT
      have hLr := bstep hL1 hT.2
      have r0 := Go.Proofs.Ytokbipfkpojflaa.Sl.cell_kept p0 hT.2
      have r1 := Go.Proofs.Ytokbipfkpojflaa.Sl.cell_kept p1 hT.2
      have r2 := Go.Proofs.Ytokbipfkpojflaa.Sl.cell_kept p2 hT.2
      have r3 := Go.Proofs.Ytokbipfkpojflaa.Sl.cell_kept p3 hT.2
      have hcl : ∀ x ∈ s.cols.map colT, x.size ≤ 40 := by
        intro x hx
        obtain ⟨c, hc, rfl⟩ := List.mem_map.1 hx
        have h1 := (vld_cols HX.out c hc).1
        have h2 := kw_size c.2
        unfold colT
        rw [ByteArray.size_append, ByteArray.size_append]
        show c.1.size + 1 + _ ≤ _
        omega
      have hjs : (jnB (s.cols.map colT)).size ≤ 336 := by
        have h1 := jn_size _ 40 hcl
        rw [List.length_map] at h1
        have h2 : s.cols.length * (40 + 2) ≤ 8 * 42 := Nat.mul_le_mul k3 (Nat.le_refl _)
        omega
      have hnm : (nmT (s.cols.map colT)).size ≤ 338 := by
        unfold nmT
        rw [ByteArray.size_append, ByteArray.size_append]
        show 1 + _ + 1 ≤ 338
        omega
      have HNS := fun W (h : Below wr.heap.size wr W) => (rnames_any (s.cols.map colT) u4 W (by rw [List.length_map]; omega) (fun x hx => by have := hcl x hx; omega) (hT.ss.below h)).mono (P := Try.prog) (R' := fun e w' => e = .returned (.string (nmT (s.cols.map colT))) ∧ Below W.heap.size W w') (by rintro e w' ⟨rfl, rfl⟩; exact ⟨rfl, Below.refl _ _⟩)
      have hnz := vld_nsz HX.out
      have hts := hd_size s hnz hjs
      obtain ⟨q, hq⟩ : ∃ q : Nat, s.key = (q : Int) := ⟨s.key.toNat, by omega⟩
      have hq8 : q ≤ 8 := by omega
      have hq1 : 1 ≤ q := by omega
      have HKT := fun W => rtext_any q hq1 hq8 W
      have HHD := Lib.hid (hd_app s q hq)
      obtain ⟨KB, hKB⟩ : ∃ KB : ByteArray, (⟨#[(48 + (q : Int)).toNat.toUInt8]⟩ : ByteArray) = KB := ⟨_, rfl⟩
      have hks : KB.size = 1 := by rw [← hKB]; rfl
      rw [hKB] at HKT
      have HHD := Lib.hid (hKB ▸ HHD.out)
      clear hKB
      rw [hq] at r2
      have ht0 := cell_regrown r0
      have ht2 := cell_regrown r2
      clear hcl e1 hq p0 p1 p2
      generalize hdT s = T0 at hts HR HHD
      generalize nmT (s.cols.map colT) = NT at HNS HHD hnm
      have hA1 : ¬ 9223372036854775807 < 6 + s.name.size := by omega
      have hA2 : ¬ 9223372036854775807 < 6 + s.name.size + 1 := by omega
      have hA3 : ¬ 9223372036854775807 < 6 + s.name.size + 1 + NT.size := by omega
      have hA4 : ¬ 9223372036854775807 < 6 + s.name.size + 1 + NT.size + 5 := by omega
      have hA5 : ¬ 9223372036854775807 < 6 + s.name.size + 1 + NT.size + 5 + KB.size := by omega
      clear hks
      go_upto_region 8 with fail
      refine wp_region_quiet_below (by kernel_rfl) (by kernel_rfl) ?_
      repeat (go_big_quiet_step (first | (go_at_call 53; with_reducible exact Calls.regrown_of (HNS _ (below_regrown _ _ _))) | (go_at_call 54; with_reducible exact Calls.regrown_of (HKT _))))
      refine wpQuiet_nil ?_
      intro _ hw9
      obtain ⟨⟨dq, osq⟩, hw9⟩ := hw9
      subst hw9
      have hb5 := below_regrown wr dq osq
      have hL5 := bstep hLr hb5
      have r35 := Go.Proofs.Ytokbipfkpojflaa.Sl.cell_kept r3 hb5
      generalize Go.Sort.grow (redrawn wr dq) osq = W5 at hb5 hL5 r35 ⊢
      clear hb5 r0 r1 r2 r3 ht0 ht2 hA1 hA2 hA3 hA4 hA5 hT hLr p3
      go_wp2
      rw [HHD.out]
      go_loopw [6, 7] (fun o i wq => ∃ j : Nat, j ≤ m ∧ i = .int .i64 j ∧ ∃ t : ByteArray, o = .string t ∧ t.size ≤ 400 + j * 300 ∧ Hid ((s.frn.drop j).foldl (fun o f => o ++ frT f) t = R) ∧ Below W5.heap.size W5 wq) (fun _ i _ => m - (intOf i).toNat)
      case atStart => exact ⟨0, Nat.zero_le _, rfl, T0, rfl, by omega, HR, Below.refl _ _⟩
      case round =>
        obtain ⟨j, hj, rfl, t, rfl, hts2, HI, hQ⟩ := hrel
        obtain ⟨wq, rfl⟩ : ∃ wq, wq = wr := ⟨_, rfl⟩
        have hLq := bstep hL5 hQ
        have x3 := Go.Proofs.Ytokbipfkpojflaa.Sl.cell_kept r35 hQ
        by_cases hlt3 : j < m
        · obtain ⟨g, off, cp, e1, hc⟩ := fs_get (HM.out ▸ HF.out) (by rw [← HM.out]; omega)
          rw [← HM.out] at e1
          cases e1
          obtain ⟨f, ht⟩ : ∃ t, s.frn[j]? = some t := ⟨_, List.getElem?_eq_getElem (by rw [← HM.out]; exact hlt3)⟩
          obtain ⟨ta, tc, htc, hss, c0, c1'⟩ := hc j f ht
          obtain ⟨hz1, hz2⟩ := vld_fsz HX.out (List.mem_of_getElem? ht)
          have hz3 := vld_flen HX.out (List.mem_of_getElem? ht)
          have HST := Lib.hid (show (s.frn.drop (j + 1)).foldl (fun o f => o ++ frT f) (t ++ frT f) = R by
            have h := HI.out
            rw [List.drop_eq_getElem_cons (by rw [← HM.out]; exact hlt3), List.foldl_cons, (List.getElem?_eq_some_iff.1 ht).2] at h
            exact h)
          have hfz := fr_size f hz3 hz2 hz1
          have hjz := jn_size f.cols 30 hz2
          have hnz2 : (nmT f.cols).size ≤ 258 := by
            have h5 : f.cols.length * (30 + 2) ≤ 8 * 32 := Nat.mul_le_mul hz3 (Nat.le_refl _)
            unfold nmT
            rw [ByteArray.size_append, ByteArray.size_append]
            show 1 + _ + 1 ≤ 258
            omega
          have hss2 := hss.below hLq
          have HNF := fun d os => (rnames_any f.cols (.slice ta f.cols.length tc) (Go.Sort.grow (redrawn wq d) os) (by omega) (fun x hx => by have := hz2 x hx; omega) (hss2.below (below_regrown wq d os))).mono (P := Try.prog) (R' := fun e w' => e = .returned (.string (nmT f.cols)) ∧ Below (Go.Sort.grow (redrawn wq d) os).heap.size (Go.Sort.grow (redrawn wq d) os) w') (by rintro e w' ⟨rfl, rfl⟩; exact ⟨rfl, Below.refl _ _⟩)
          have HFA := Lib.hid (fr_app t f)
          have t3 := cell_regrown x3
          have t0 := cell_regrown (Go.Proofs.Ytokbipfkpojflaa.Sl.cell_kept c0 hLq)
          have t1 := cell_regrown (Go.Proofs.Ytokbipfkpojflaa.Sl.cell_kept c1' hLq)
          have j0 : (0 : Int) ≤ (j : Int) := by omega
          have j1 : (j : Int) < (m : Int) := by omega
          clear c0 c1' hc HI ht hss hss2 hjz hz2
          generalize f.cols.length = fcl at *
          generalize nmT f.cols = NF at *
          generalize frT f = FT at *
          generalize f.tab = tab at *
          have hx1 : ¬ 9223372036854775807 < t.size + 9 := by omega
          have hx2 : ¬ 9223372036854775807 < t.size + 9 + NF.size := by omega
          have hx3 : ¬ 9223372036854775807 < t.size + 9 + NF.size + 1 := by omega
          have hx4 : ¬ 9223372036854775807 < t.size + 9 + NF.size + 1 + tab.size := by omega
          go_upto_region 12 with fail
          refine wp_region_quiet_below (by kernel_rfl) (by kernel_rfl) ?_
          repeat (go_big_quiet_step (first | (go_at_call 53; with_reducible exact Calls.regrown_of (HNF _ _))))
          refine wpQuiet_nil ?_
          intro _ hw9
          obtain ⟨⟨dq2, osq2⟩, hw9⟩ := hw9
          subst hw9
          have hQ2 := bstep hQ (below_regrown wq dq2 osq2)
          go_wp2
          rw [HFA.out]
          go_roundw
          case rel => exact ⟨j + 1, by omega, by go_num, _, rfl, by rw [ByteArray.size_append]; omega, HST, hQ2⟩
          case measure => simp [intOf]; omega
        · have HE := Lib.hid (show t = R by
            have h := HI.out
            rw [List.drop_of_length_le (by rw [← HM.out]; omega)] at h
            exact h)
          go_wp2
          go_ret2
          exact ⟨by rw [HE.out]; rfl, hLq⟩
theorem rtextS_any (s : Sch) (a1 a2 : Option Addr) (c1 c2 : Nat) (w : World) (hs : Cs w (.slice a1 s.cols.length c1) s.cols) (hf : FsAt w (.slice a2 s.frn.length c2) s.frn) :
    Calls Try.prog 17 #[agS s.name (.slice a1 s.cols.length c1) s.key (.slice a2 s.frn.length c2)] w fun e w' => e = .returned (.tuple #[.string (txtS s).1, .int .i64 (txtS s).2]) ∧ Below w.heap.size w w' := by
  unfold txtS
  by_cases h : vldS s = false
  · rw [if_pos h]
    exact rtext_bad s a1 a2 c1 c2 w hs hf h
  · rw [if_neg h]
    exact rtext_go s a1 a2 _ _ c1 c2 w rfl rfl hs hf (by simpa using h)
end Go.Proofs.Ytokbipfkpojflaa.Sc
