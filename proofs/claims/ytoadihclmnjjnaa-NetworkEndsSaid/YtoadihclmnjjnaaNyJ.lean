/-
  The walk of the law NetworkEnds (layer 46).
-/
import Derived.Test.YtoadihclmnjjnaaNyI
import Derived.Test.YtoadihclmnjjnaaNop
import Derived.Test.YtoadihclmnjjnaaNwVZ
import Derived.Laws.EntriesVeiled
set_option linter.unusedSimpArgs false
set_option linter.unusedVariables false
set_option maxRecDepth 100000
namespace Go.Proofs.Ytoadihclmnjjnaa.Nw
open Go Go.RowKit Go.ChangeShapes Go.WideShapes Go.Proofs.Ytoadihclmnjjnaa.Sl Go.Proofs.Ytoadihclmnjjnaa.Al Go.Lib

theorem new1 (w : World) (x : Value) (t : TypeId) : ∀ W, W = w.alloc (.cells #[x] t) → Below w.heap.size w W ∧ W.cell? ⟨w.heap.size, 0, none⟩ = some x := by
  rintro W rfl
  refine ⟨(Below.refl _ _).alloc (Nat.le_refl _) _, ?_⟩
  rw [cell_of_row _ _ 0 _ _ _ (heap_alloc_new w _)]; rfl
theorem take_all {α : Type} (P : α → Bool) {l : List α} {k : Nat} {x : α} (h : l[k]? = some x) : (l.take (k + 1)).all P = ((l.take k).all P && P x) := by
  rw [List.take_add_one, h]
  simp [List.all_append]
theorem emB_rng {i j d p n : Nat} (hi : i < n) (hj : j < n) (hp : p < 4) : ∀ x ∈ emB i j d p, ∃ (u v : Nat) (s : Int), x = ⟨u, v, s⟩ ∧ u < 2 * n ∧ v < 2 * n ∧ -1 ≤ s ∧ s ≤ 0 := by
  intro x hx
  have e1 : (2 * (i : Int) + ((p / 2 : Nat) : Int)) = ((2 * i + p / 2 : Nat) : Int) := by omega
  have e2 : (2 * (j : Int) + ((p % 2 : Nat) : Int)) = ((2 * j + p % 2 : Nat) : Int) := by omega
  unfold emB at hx
  rw [e1, e2] at hx
  have b1 : 2 * i + p / 2 < 2 * n := by omega
  have b2 : 2 * j + p % 2 < 2 * n := by omega
  repeat' split at hx
  all_goals simp only [List.mem_cons, List.not_mem_nil, or_false] at hx
  · exact ⟨_, _, _, hx, b2, b1, by omega, by omega⟩
  · exact ⟨_, _, _, hx, b2, b1, by omega, by omega⟩
  · exact ⟨_, _, _, hx, b1, b2, by omega, by omega⟩
  · exact ⟨_, _, _, hx, b1, b2, by omega, by omega⟩
  · rcases hx with hx | hx
    · exact ⟨_, _, _, hx, b2, b1, by omega, by omega⟩
    · exact ⟨_, _, _, hx, b1, b2, by omega, by omega⟩
theorem allB_rng {n : Nat} {l : List Rl} (hok : ∀ r ∈ l, OkR n r) : ∀ x ∈ allB n l, ∃ (u v : Nat) (s : Int), x = ⟨u, v, s⟩ ∧ u < 2 * n ∧ v < 2 * n ∧ -1 ≤ s ∧ s ≤ 0 := by
  intro x hx
  unfold allB at hx
  rcases List.mem_append.1 hx with hx | hx
  · unfold bnd0 at hx
    obtain ⟨k, hk, rfl⟩ := List.mem_map.1 hx
    replace hk := List.mem_range.1 hk
    exact ⟨2 * k + 1, 2 * k, -1, by simp, by omega, by omega, by omega, by omega⟩
  · obtain ⟨r, hr, hx⟩ := List.mem_flatMap.1 hx
    obtain ⟨i, j, s, rfl, hi, hj, hs⟩ := hok r hr
    unfold rlB at hx
    obtain ⟨p, hp, hx⟩ := List.mem_flatMap.1 hx
    exact emB_rng hi hj (List.mem_range.1 hp) x hx
theorem allC_rng {n : Nat} {l : List Rl} (hok : ∀ r ∈ l, OkR n r) : ∀ c ∈ allC l, ∃ u v : Nat, c = ((u : Int), (v : Int)) ∧ u < 2 * n ∧ v < 2 * n := by
  intro x hx
  unfold allC at hx
  obtain ⟨r, hr, hx⟩ := List.mem_flatMap.1 hx
  obtain ⟨i, j, s, rfl, hi, hj, hs⟩ := hok r hr
  unfold rlC at hx
  obtain ⟨p, hp, hx⟩ := List.mem_flatMap.1 hx
  replace hp := List.mem_range.1 hp
  unfold emC at hx
  split at hx
  · obtain rfl := List.mem_singleton.1 hx
    exact ⟨2 * i + p / 2, 2 * j + p % 2, by simp only [Prod.mk.injEq]; omega, by omega, by omega⟩
  · simp at hx
theorem chk_any {w : World} {BN BA BE BC g : Nat} {a : List (Int × Int)} {v : Value} (h : EnvE w BN BA BE a v) (h5 : a.length ≤ 5) (hb : a.any badE = false) {p q : Nat} (hp : p < 2 * a.length) (hq : q < 2 * a.length)
    (c0 : w.cell? ⟨BC, 0, none⟩ = some (.int .i64 (p : Int))) (c1 : w.cell? ⟨BC, 1, none⟩ = some (.int .i64 (q : Int))) (hg : w.heap[g]? = some (.cells chL 48 (0, 0))) :
    Calls Try.prog 44 #[.slice (some ⟨g, 0, none⟩) 2 2, .func (.func 47) #[] #[.pointer (some ⟨BE, 0, none⟩), .pointer (some ⟨BC, 0, none⟩)]] w fun e w' => e = .returned (.bool (chcOk a ((p : Int), (q : Int)))) ∧ Below w.heap.size w w' := by
  have e : chcOk a ((p : Int), (q : Int)) = [(-4398046511104, 0), (1, 4398046511104)].any (hasP (endN a q - endN a p)) := by unfold chcOk; simp only [Int.toNat_natCast]
  rw [e]
  exact contains_spn 47 enter_e3 #[.pointer (some ⟨BE, 0, none⟩), .pointer (some ⟨BC, 0, none⟩)] (hasP (endN a q - endN a p)) (fun W => EnvE W BN BA BE a v ∧ W.cell? ⟨BC, 0, none⟩ = some (.int .i64 (p : Int)) ∧ W.cell? ⟨BC, 1, none⟩ = some (.int .i64 (q : Int)))
    (fun W W' h hb => ⟨h.1.below hb, Go.Proofs.Ytoadihclmnjjnaa.Sl.cell_kept h.2.1 hb, Go.Proofs.Ytoadihclmnjjnaa.Sl.cell_kept h.2.2 hb⟩) _ (fun W r _ hw => ends3_any hw.1 h5 hb hp hq hw.2.1 hw.2.2 r) _ w (chL_ps hg) ⟨h, c0, c1⟩
set_option maxHeartbeats 8000000 in
theorem networkEnds_walk (v : Value) (l : List Rl) (v1 : Value) (a : List (Int × Int)) (w : World) (hs : Rs w v l) (hg : ∀ r ∈ l, FitR r) (ha : Ps w v1 a) (hga : ∀ p ∈ a, FitP p) :
    Calls Try.prog 11 #[v, v1] w fun e w' => e = .returned (.bool true) ∧ Below w.heap.size w w' := by
  obtain ⟨ad, c, rfl⟩ := hs.form
  obtain ⟨ad1, c1, rfl⟩ := ha.form
  obtain ⟨q, hq⟩ : ∃ q, q = l.length := ⟨_, rfl⟩
  obtain ⟨m, hm⟩ : ∃ m, m = a.length := ⟨_, rfl⟩
  have HM := Lib.hid hm
  rw [← hq] at hs ⊢
  rw [← hm] at ha ⊢
  have HG := fun W => great_any (m : Int) ad q c W
  have HC := fun W (h : Below w.heap.size w W) => contains_spn 45 enter_e1 #[] badE (fun _ => True) (fun _ _ _ _ => trivial) a (fun W p _ _ => ends1_any p W) _ W (ha.below h) trivial
  have HN := fun W (h : Below w.heap.size w W) => nholds_any l a _ _ W (hs.below h) (ha.below h)
  have HA := Lib.hid ha
  have hL := Below.refl w.heap.size w
  have hmx : (m : Int) ≤ 9223372036854775807 := by have := ha.2; omega
  have HPB := fun (hv : vldN (m : Int) l = false) W (h : Below w.heap.size w W) => points_bad (m : Int) l _ W (hs.below h) hv
  have HPO := fun (hv : vldN (m : Int) l = true) W (h : Below w.heap.size w W) => points_ok m l _ W (hs.below h) hv
  replace HPB := Lib.hid HPB
  replace HPO := Lib.hid HPO
  clear hs ha hg hga hq hm
  go_enter Try.func11, Try.ntmps11
  go_upto_region 1 with fail
  obtain ⟨W0, hW0⟩ : ∃ W0, W0 = w.alloc (.cells #[.slice ad1 m c1] 46) := ⟨_, rfl⟩
  obtain ⟨hL0, cA⟩ := new1 w _ _ W0 hW0
  rw [← hW0]
  replace hL := bstep hL hL0
  clear hW0 hL0
  obtain ⟨BA, hBA⟩ : ∃ b, b = w.heap.size := ⟨_, rfl⟩
  rw [← hBA] at cA ⊢
  clear hBA
  go_upto_region 4 with (go_at_call 12; (with_reducible refine (awake_any _).mono ?_); rintro e w1 ⟨rfl, hb⟩; replace cA := Go.Proofs.Ytoadihclmnjjnaa.Sl.cell_kept cA hb; replace hL := bstep hL hb; clear hb)
  obtain ⟨W1, hW1⟩ : ∃ W1, W1 = w1.alloc (.cells #[.int .i64 (m : Int)] 3) := ⟨_, rfl⟩
  obtain ⟨hL1, cN⟩ := new1 w1 _ _ W1 hW1
  rw [← hW1]
  replace hL := bstep hL hL1
  replace cA := Go.Proofs.Ytoadihclmnjjnaa.Sl.cell_kept cA hL1
  clear hW1 hL1
  generalize w1.heap.size = BN at cN ⊢
  clear w1
  cases hgl : grN (m : Int) q
  · rw [hgl] at HG
    clear hgl
    by_cases h5 : 5 < m
    · have g5 : decide ((5 : Int) < (m : Int)) = true := by simp; omega
      have g5b : decide (5 < m) = true := by simpa using h5
      clear HA
      go_wp2_with ((go_at_call 13; (with_reducible refine (HG _).mono ?_); rintro e w2 ⟨rfl, rfl⟩))
      go_ret
      exact ⟨rfl, hL⟩
    have g5 : decide ((5 : Int) < (m : Int)) = false := by simp; omega
    have g5b : decide (5 < m) = false := by simpa using h5
    have g5c : ¬ (5 : Int) < (m : Int) := by omega
    cases hbe : a.any badE
    · rw [hbe] at HC
      have HBE := Lib.hid hbe
      clear hbe
      cases hv : vldN (m : Int) l
      · have HP := HPB.out hv
        clear HPB HPO HBE HN HA hv
        go_wp2_with (first | (go_at_call 13; (with_reducible refine (HG _).mono ?_); rintro e w2 ⟨rfl, rfl⟩) | (go_at_call 44; (with_reducible refine (HC _ hL).mono ?_); rintro e w3 ⟨rfl, hb⟩; replace cN := Go.Proofs.Ytoadihclmnjjnaa.Sl.cell_kept cN hb; replace cA := Go.Proofs.Ytoadihclmnjjnaa.Sl.cell_kept cA hb; replace hL := bstep hL hb; clear hb) | (go_at_call 38; (with_reducible refine (HP _ hL).mono ?_); rintro e w4 ⟨rfl, hb⟩; replace hL := bstep hL hb; clear hb))
        go_ret
        exact ⟨rfl, hL⟩
      · have HP := HPO.out hv
        obtain ⟨k, hkm, k0, k8, l200, hok⟩ := vld_ok hv
        obtain rfl : m = k := by omega
        have HOK := Lib.hid hok
        have HLB := Lib.hid (ptB_len m l k8 l200)
        have HLC := Lib.hid (ptC_len l l200)
        clear HPB HPO hv hok hkm
        go_upto_region 7 with (first | (go_at_call 13; (with_reducible refine (HG _).mono ?_); rintro e w2 ⟨rfl, rfl⟩) | (go_at_call 44; (with_reducible refine (HC _ hL).mono ?_); rintro e w3 ⟨rfl, hb⟩; replace cN := Go.Proofs.Ytoadihclmnjjnaa.Sl.cell_kept cN hb; replace cA := Go.Proofs.Ytoadihclmnjjnaa.Sl.cell_kept cA hb; replace hL := bstep hL hb; clear hb) | (go_at_call 38; (with_reducible refine (HP _ hL).mono ?_); intro e w4 hpt; obtain ⟨v7, v9, rfl, hb, hB, hC⟩ := hpt.flat; clear hpt; obtain ⟨b7, d7, rfl⟩ := hB.form; obtain ⟨b9, d9, rfl⟩ := hC.form; replace cN := Go.Proofs.Ytoadihclmnjjnaa.Sl.cell_kept cN hb; replace cA := Go.Proofs.Ytoadihclmnjjnaa.Sl.cell_kept cA hb; replace hL := bstep hL hb; clear hb))
        by_cases hx : ptX l = 0
        · have eB : ptB m l = allB m l := by unfold ptB; rw [if_pos hx]
          have eC : ptC l = allC l := by unfold ptC; rw [if_pos hx]
          rw [eB] at hB HLB ⊢
          rw [eC] at hC HLC ⊢
          rw [hx]
          have ho : l.any (fun r => r.s == 0) = false ∧ (l.any fun r => !expr r) = false := by
            unfold ptX at hx
            split at hx
            · cases hx
            · split at hx
              · cases hx
              · rename_i h1 h2
                exact ⟨by simpa using h1, by simpa using h2⟩
          have hlaw := ends_law HBE.out (l := l) (by rw [← HM.out]; exact HOK.out) ho.1 ho.2
          rw [← HM.out] at hlaw
          have hrB := allB_rng HOK.out
          have hrC := allC_rng HOK.out
          clear ho hx eB eC HOK HP
          replace HLB := HLB.out
          replace HLC := HLC.out
          generalize allB m l = LB at *
          generalize allC l = LC at *
          generalize holdsN l a = Z at *
          obtain ⟨N, hN⟩ : ∃ N, N = LB.length := ⟨_, rfl⟩
          obtain ⟨N2, hN2⟩ : ∃ N, N = LC.length := ⟨_, rfl⟩
          have hB0 := Lib.hid hB
          have hC0 := Lib.hid hC
          have HNB := Lib.hid hN
          have HNC := Lib.hid hN2
          rw [← hN] at HLB hB0 ⊢
          rw [← hN2] at HLC hC0 ⊢
          have nB : (N : Int) ≤ 1000000 := by omega
          have nC : (N2 : Int) ≤ 1000000 := by omega
          have HRB := Lib.hid hrB
          have HRC := Lib.hid hrC
          have HLW := Lib.hid hlaw
          have HA1 := Lib.hid (HA.out.below hL)
          clear hB hC hN hN2 HLB HLC hrB hrC hlaw
          go_upto_region 10 with fail
          obtain ⟨W2, hW2⟩ : ∃ W2, W2 = w4.alloc (.cells #[.func (.func 46) #[] #[.pointer (some ⟨BN, 0, none⟩), .pointer (some ⟨BA, 0, none⟩)]] 76) := ⟨_, rfl⟩
          obtain ⟨hL2, cE⟩ := new1 w4 _ _ W2 hW2
          rw [← hW2]
          replace hL := bstep hL hL2
          replace cA := Go.Proofs.Ytoadihclmnjjnaa.Sl.cell_kept cA hL2
          replace cN := Go.Proofs.Ytoadihclmnjjnaa.Sl.cell_kept cN hL2
          replace hB0 := Lib.hid (hB0.out.below hL2)
          replace hC0 := Lib.hid (hC0.out.below hL2)
          have HENV : RowKit.Hid (EnvE W2 BN BA w4.heap.size a (.slice ad1 m c1)) := Lib.hid ⟨by have := HA.out.below hL; exact this, by rw [← HM.out]; exact cN, cA, cE⟩
          clear hW2 hL2 HA1 cA cN cE
          generalize w4.heap.size = BE at *
          have hNB := Below.refl W2.heap.size W2
          go_wp2
          go_loopw [48, 10] (fun iv b wr => ∃ k : Nat, k ≤ N ∧ iv = .int .i64 (k : Int) ∧ b = .bool ((LB.take k).all (bndOk a)) ∧ Below W2.heap.size W2 wr) (fun iv _ _ => N - (RowKit.intOf iv).toNat)
          case atStart => exact ⟨0, Nat.zero_le _, rfl, rfl, Below.refl _ _⟩
          case round =>
            obtain ⟨k, hk, rfl, rfl, hL2⟩ := hrel
            by_cases hlt : k < N
            · obtain ⟨x, hx⟩ : ∃ x, LB[k]? = some x := ⟨_, List.getElem?_eq_getElem (by rw [← HNB.out]; exact hlt)⟩
              obtain ⟨u, z, sm, rfl, hu, hz, hs1, hs2⟩ := HRB.out x (List.mem_of_getElem? hx)
              obtain ⟨g, off, cap, e, hc⟩ := cellsR_get (show Sl wr (.slice b7 N d7) LB.length 3 (cellsR LB) by rw [← HNB.out]; exact hB0.out.below hL2) (by rw [← HNB.out]; omega)
              rw [← HNB.out] at e
              cases e
              obtain ⟨p0, p1, p2⟩ := hc k _ hx
              dsimp only at p0 p1 p2
              have k0 : (0 : Int) ≤ (k : Int) := by omega
              have k1 : (k : Int) < (N : Int) := by omega
              have hta := take_all (bndOk a) hx
              have hbo : bndOk a ⟨(u : Int), (z : Int), sm⟩ = decide (endN a z - endN a u ≤ sm) := by unfold bndOk; simp only [Int.toNat_natCast]
              rw [hbo] at hta
              rw [HM.out] at hu hz g5c
              have HE1 := fun W (h : Below W2.heap.size W2 W) => end_any (HENV.out.below h) (by omega) hu
              have HE2 := fun W (h : Below W2.heap.size W2 W) => end_any (HENV.out.below h) (by omega) hz
              have bu := endN_bd HBE.out hu
              have bz := endN_bd HBE.out hz
              rw [← HM.out] at hu hz g5c
              generalize endN a u = eu at *
              generalize endN a z = ez at *
              generalize (LB.take k).all (bndOk a) = b at *
              have HTA := Lib.hid hta
              obtain ⟨y, hy⟩ : ∃ y, y = ez - eu := ⟨_, rfl⟩
              have t1 : IntKind.i64.wrap (ez - eu) = y := by rw [hy]; exact IntWalk.i64_in _ (by omega)
              rw [← hy] at HTA
              clear hc hx hta hbo hy bu bz hs1 hs2
              go_upto_region 14 with fail
              obtain ⟨V, hV⟩ : ∃ V, V = wr.alloc (.cells #[.int .i64 (u : Int), .int .i64 (z : Int), .int .i64 sm] 68) := ⟨_, rfl⟩
              obtain ⟨hbV, d0, d1, d2⟩ := new3 wr _ _ _ _ V hV
              rw [← hV]
              clear hV p0 p1 p2
              have hLV := bstep hL2 hbV
              clear hbV
              generalize wr.heap.size = BB at *
              have z0 := cell_regrown d0
              have z1 := cell_regrown d1
              have z2 := cell_regrown d2
              have z3 := cell_regrown (HENV.out.below hLV).2.2.2
              replace HE1 := fun W (h : Below V.heap.size V W) => HE1 W (bstep hLV h)
              replace HE2 := fun W (h : Below V.heap.size V W) => HE2 W (bstep hLV h)
              clear d0 d1 d2
              cases b
              · refine wp_region_quiet_below (by kernel_rfl) (by kernel_rfl) ?_
                repeat (go_big_quiet_step (fail))
                refine wpQuiet_nil ?_
                rintro w9 ⟨⟨dq, osq⟩, hw9⟩
                have hL9 : Below W2.heap.size W2 w9 := bstep hLV (by rw [hw9]; exact below_regrown _ dq osq)
                clear hw9 z0 z1 z2 z3
                go_wp2
                go_roundw
                case rel => exact ⟨k + 1, by omega, by go_num, by rw [HTA.out]; rfl, hL9⟩
                case measure => simp [RowKit.intOf]; omega
              · refine wp_region_quiet_below (by kernel_rfl) (by kernel_rfl) ?_
                repeat (go_big_quiet_step (first | (go_at_call 46; with_reducible exact Calls.regrown_of (HE1 _ (below_regrown _ _ _))) | (go_at_call 46; with_reducible exact Calls.regrown_of (HE2 _ (below_regrown _ _ _)))))
                refine wpQuiet_nil ?_
                rintro w9 ⟨⟨dq, osq⟩, hw9⟩
                have hL9 : Below W2.heap.size W2 w9 := bstep hLV (by rw [hw9]; exact below_regrown _ dq osq)
                clear hw9 z0 z1 z2 z3
                go_wp2
                go_roundw
                case rel => exact ⟨k + 1, by omega, by go_num, by rw [HTA.out]; rfl, hL9⟩
                case measure => simp [RowKit.intOf]; omega
            · have hkN : k = N := by omega
              rw [hkN, HNB.out, List.take_length]
              rw [← HNB.out]
              generalize LB.all (bndOk a) = b1 at *
              have hlt2 : ¬ (N : Int) < (N : Int) := by omega
              clear hlt hkN hk
              have HLW1 := Lib.hid HLW.out
              clear HLW
              go_wp2
              go_loopw [70, 10] (fun iv b wr => ∃ k : Nat, k ≤ N2 ∧ iv = .int .i64 (k : Int) ∧ b = .bool (b1 && (LC.take k).all (chcOk a)) ∧ Below W2.heap.size W2 wr) (fun iv _ _ => N2 - (RowKit.intOf iv).toNat)
              case atStart => exact ⟨0, Nat.zero_le _, rfl, by simp, hL2⟩
              case round =>
                obtain ⟨k2, hk2, rfl, rfl, hL3⟩ := hrel
                by_cases hlt3 : k2 < N2
                · obtain ⟨x, hx⟩ : ∃ x, LC[k2]? = some x := ⟨_, List.getElem?_eq_getElem (by rw [← HNC.out]; exact hlt3)⟩
                  obtain ⟨u, z, rfl, hu, hz⟩ := HRC.out x (List.mem_of_getElem? hx)
                  obtain ⟨g, off, cap, e, hc⟩ := Chs.get (show Chs wr (.slice b9 N2 d9) LC from hC0.out.below hL3) (by rw [← HNC.out]; omega)
                  rw [← HNC.out] at e
                  cases e
                  obtain ⟨BG, p0, p1, p2, p3⟩ := hc k2 _ hx
                  dsimp only at p0 p1 p2
                  have k0 : (0 : Int) ≤ (k2 : Int) := by omega
                  have k1 : (k2 : Int) < (N2 : Int) := by omega
                  have hta := take_all (chcOk a) hx
                  have HCK := fun (BC : Nat) W (h : Below W2.heap.size W2 W) (c0 : W.cell? ⟨BC, 0, none⟩ = some (.int .i64 (u : Int))) (c1 : W.cell? ⟨BC, 1, none⟩ = some (.int .i64 (z : Int))) (hg : W.heap[BG]? = some (.cells chL 48 (0, 0))) => chk_any (HENV.out.below h) (by rw [← HM.out]; omega) HBE.out (by rw [← HM.out]; exact hu) (by rw [← HM.out]; exact hz) c0 c1 hg
                  generalize chcOk a ((u : Int), (z : Int)) = bc at *
                  generalize (LC.take k2).all (chcOk a) = b at *
                  have HTA := Lib.hid hta
                  have P3 := Lib.hid p3
                  clear hc hx hta p3
                  go_upto_region 19 with fail
                  obtain ⟨V, hV⟩ : ∃ V, V = wr.alloc (.cells #[.int .i64 (u : Int), .int .i64 (z : Int), .slice (some ⟨BG, 0, none⟩) 2 2] 71) := ⟨_, rfl⟩
                  obtain ⟨hbV, d0, d1, d2⟩ := new3 wr _ _ _ _ V hV
                  rw [← hV]
                  clear hV p0 p1 p2
                  have hLV := bstep hL3 hbV
                  have P4 := Lib.hid ((hbV.block _ (Array.getElem?_eq_some_iff.1 P3.out).1).trans P3.out)
                  clear hbV
                  generalize wr.heap.size = BB at *
                  cases b1
                  · rw [Bool.false_and]
                    go_wp2
                    go_roundw
                    case rel => exact ⟨k2 + 1, by omega, by go_num, rfl, hLV⟩
                    case measure => simp [RowKit.intOf]; omega
                  · rw [Bool.true_and]
                    cases b
                    · go_wp2
                      go_roundw
                      case rel => exact ⟨k2 + 1, by omega, by go_num, by rw [HTA.out]; rfl, hLV⟩
                      case measure => simp [RowKit.intOf]; omega
                    · go_wp2_with (go_at_call 44; (with_reducible refine (HCK BB _ hLV d0 d1 P4.out).mono ?_); rintro e w9 ⟨rfl, hb⟩; replace hLV := bstep hLV hb; clear hb)
                      go_roundw
                      case rel => exact ⟨k2 + 1, by omega, by go_num, by rw [HTA.out]; rfl, hLV⟩
                      case measure => simp [RowKit.intOf]; omega
                · have hkN : k2 = N2 := by omega
                  rw [hkN, HNC.out, List.take_length]
                  rw [← HNC.out]
                  rw [HLW1.out]
                  have hlt4 : ¬ (N2 : Int) < (N2 : Int) := by omega
                  clear hlt3 hkN hk2
                  have hL5 := bstep hL hL3
                  have cA5 := (HENV.out.below hL3).2.2.1
                  go_wp2_with (go_at_call 33; (with_reducible refine (HN _ hL5).mono ?_); rintro e w9 ⟨rfl, hb⟩; replace hL5 := bstep hL5 hb; clear hb)
                  go_ret
                  exact ⟨by simp, hL5⟩
        · have eB : ptB m l = [] := by unfold ptB; rw [if_neg hx]
          have eC : ptC l = [] := by unfold ptC; rw [if_neg hx]
          rw [eB, eC]
          have eL : ([] : List Rl).length = 0 := rfl
          have eL2 : ([] : List (Int × Int)).length = 0 := rfl
          rw [eL, eL2]
          generalize ptX l = x at *
          clear HLB HLC HOK HP HN HA hB hC eB eC eL eL2 HBE
          go_wp2
          go_ret
          exact ⟨rfl, hL⟩
    · rw [hbe] at HC
      clear HPB HPO hbe HN HA
      go_wp2_with (first | (go_at_call 13; (with_reducible refine (HG _).mono ?_); rintro e w2 ⟨rfl, rfl⟩) | (go_at_call 44; (with_reducible refine (HC _ hL).mono ?_); rintro e w3 ⟨rfl, hb⟩; replace cN := Go.Proofs.Ytoadihclmnjjnaa.Sl.cell_kept cN hb; replace cA := Go.Proofs.Ytoadihclmnjjnaa.Sl.cell_kept cA hb; replace hL := bstep hL hb; clear hb))
      go_ret
      exact ⟨rfl, hL⟩
  · rw [hgl] at HG
    clear HPB HPO hgl HN HA HC
    go_wp2_with ((go_at_call 13; (with_reducible refine (HG _).mono ?_); rintro e w2 ⟨rfl, rfl⟩))
    go_ret
    exact ⟨rfl, hL⟩
end Go.Proofs.Ytoadihclmnjjnaa.Nw
