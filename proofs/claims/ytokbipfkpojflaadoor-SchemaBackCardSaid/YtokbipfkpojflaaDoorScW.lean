/-
  The walk of Valid (layer 34).
-/
import Derived.Test.YtokbipfkpojflaaDoorScV
import Derived.Deep.Cut
set_option linter.unusedSimpArgs false
set_option linter.unusedVariables false
namespace Go.Proofs.YtokbipfkpojflaaDoor.Sc
open Go Go.RowKit Go.ChangeShapes Go.WideShapes Go.Proofs.YtokbipfkpojflaaDoor.Sl Go.Proofs.YtokbipfkpojflaaDoor.Va Go.Lib

theorem bx_at (w : World) (cs : Array Value) (T : TypeId) (j : Nat) (u : Value) (hj : cs[j]? = some u) : (w.alloc (.cells cs T)).cell? ⟨w.heap.size, j, none⟩ = some u := by
  rw [cell_of_row _ _ j cs T (0, 0) (heap_alloc_new w _)]; exact hj
theorem box4n {w W : World} {c0 c1 c2 c3 : Value} {t : TypeId} (h : w.alloc (.cells #[c0, c1, c2, c3] t) = W) :
    Below w.heap.size w W ∧ w.heap.size < W.heap.size ∧ W.cell? ⟨w.heap.size, 0, none⟩ = some c0 ∧ W.cell? ⟨w.heap.size, 1, none⟩ = some c1 ∧ W.cell? ⟨w.heap.size, 2, none⟩ = some c2 ∧ W.cell? ⟨w.heap.size, 3, none⟩ = some c3 := by
  subst h
  have k : ∀ j u, #[c0, c1, c2, c3][j]? = some u → (w.alloc (.cells #[c0, c1, c2, c3] t)).cell? ⟨w.heap.size, j, none⟩ = some u := fun j u hu => bx_at w _ _ j u hu
  exact ⟨(Below.refl _ w).alloc (Nat.le_refl _) _, by simp, k 0 _ rfl, k 1 _ rfl, k 2 _ rfl, k 3 _ rfl⟩
theorem box2n {w W : World} {c0 c1 : Value} {t : TypeId} (h : w.alloc (.cells #[c0, c1] t) = W) :
    Below w.heap.size w W ∧ w.heap.size < W.heap.size ∧ W.cell? ⟨w.heap.size, 0, none⟩ = some c0 ∧ W.cell? ⟨w.heap.size, 1, none⟩ = some c1 := by
  subst h
  exact ⟨(Below.refl _ w).alloc (Nat.le_refl _) _, by simp, bx_at w _ _ 0 _ rfl, bx_at w _ _ 1 _ rfl⟩
/-- One foreign key of a slice of them. -/
theorem fs_get {w : World} {s : Value} {l : List Fr} (h : FsAt w s l) (h0 : l.length ≠ 0) : ∃ g off cap, s = .slice (some ⟨g, off, none⟩) l.length cap ∧ ∀ (i : Nat) (f : Fr), l[i]? = some f → ∃ a c, f.cols.length ≤ c ∧ Ss w (.slice a f.cols.length c) f.cols ∧ w.cell? ⟨g, off + i * 2, none⟩ = some (.slice a f.cols.length c) ∧ w.cell? ⟨g, off + i * 2 + 1, none⟩ = some (.string f.tab) := by
  obtain ⟨g, off, cap, rfl, hc⟩ := Nest.get h h0
  refine ⟨g, off, cap, rfl, fun i f hf => ?_⟩
  obtain ⟨r, _, ⟨s, rfl, hs⟩, hcell⟩ := hc i f hf
  obtain ⟨a, c, rfl, hcap⟩ := hs.form
  exact ⟨a, c, hcap, hs, hcell 0 _ rfl, hcell 1 _ rfl⟩
set_option maxRecDepth 20000 in
theorem vd_name (sn : ByteArray) (key : Int) (n m c1 c2 : Nat) (a1 a2 : Option Addr) (w : World) (hn : nmB sn = false) : Calls Tryd.prog 8 #[.agg #[.string sn, .slice a1 n c1, .int .i64 key, .slice a2 m c2]] w fun e w' => e = .returned (.bool false) ∧ Below w.heap.size w w' := by
  have HB := fun W => name_is sn W
  rw [hn] at HB
  go_enter Tryd.func8, Tryd.ntmps8
  go_upto_region 1 with fail
  obtain ⟨W0, hW⟩ : ∃ W0, w.alloc (.cells #[.string sn, .slice a1 n c1, .int .i64 key, .slice a2 m c2] 25) = W0 := ⟨_, rfl⟩
  obtain ⟨hL, hlt, p0, p1, p2, p3⟩ := box4n hW
  rw [hW]
  clear hW
  go_wp2_with (go_at_call 22; with_reducible refine (HB _).mono ?_; rintro e w1 ⟨rfl, rfl⟩)
  go_ret
  exact ⟨rfl, hL⟩
set_option maxRecDepth 20000 in
theorem vd_1 (sn : ByteArray) (key : Int) (n m c1 c2 : Nat) (a1 a2 : Option Addr) (w : World) (hn : nmB sn = true)  (h1 : (n : Int) < 1) : Calls Tryd.prog 8 #[.agg #[.string sn, .slice a1 n c1, .int .i64 key, .slice a2 m c2]] w fun e w' => e = .returned (.bool false) ∧ Below w.heap.size w w' := by
  have HB := fun W => name_is sn W
  rw [hn] at HB
  go_enter Tryd.func8, Tryd.ntmps8
  go_upto_region 1 with fail
  obtain ⟨W0, hW⟩ : ∃ W0, w.alloc (.cells #[.string sn, .slice a1 n c1, .int .i64 key, .slice a2 m c2] 25) = W0 := ⟨_, rfl⟩
  obtain ⟨hL, hlt, p0, p1, p2, p3⟩ := box4n hW
  rw [hW]
  clear hW
  go_wp2_with (go_at_call 22; with_reducible refine (HB _).mono ?_; rintro e w1 ⟨rfl, rfl⟩)
  go_ret
  exact ⟨rfl, hL⟩
set_option maxRecDepth 20000 in
theorem vd_2 (sn : ByteArray) (key : Int) (n m c1 c2 : Nat) (a1 a2 : Option Addr) (w : World) (hn : nmB sn = true) (h1 : (1 : Int) ≤ (n : Int)) (h2 : (8 : Int) < (n : Int)) : Calls Tryd.prog 8 #[.agg #[.string sn, .slice a1 n c1, .int .i64 key, .slice a2 m c2]] w fun e w' => e = .returned (.bool false) ∧ Below w.heap.size w w' := by
  have HB := fun W => name_is sn W
  rw [hn] at HB
  go_enter Tryd.func8, Tryd.ntmps8
  go_upto_region 1 with fail
  obtain ⟨W0, hW⟩ : ∃ W0, w.alloc (.cells #[.string sn, .slice a1 n c1, .int .i64 key, .slice a2 m c2] 25) = W0 := ⟨_, rfl⟩
  obtain ⟨hL, hlt, p0, p1, p2, p3⟩ := box4n hW
  rw [hW]
  clear hW
  go_wp2_with (go_at_call 22; with_reducible refine (HB _).mono ?_; rintro e w1 ⟨rfl, rfl⟩)
  go_ret
  exact ⟨rfl, hL⟩
set_option maxRecDepth 20000 in
theorem vd_3 (sn : ByteArray) (key : Int) (n m c1 c2 : Nat) (a1 a2 : Option Addr) (w : World) (hn : nmB sn = true) (h1 : (1 : Int) ≤ (n : Int)) (h2 : (n : Int) ≤ 8) (h3 : key < 1) : Calls Tryd.prog 8 #[.agg #[.string sn, .slice a1 n c1, .int .i64 key, .slice a2 m c2]] w fun e w' => e = .returned (.bool false) ∧ Below w.heap.size w w' := by
  have HB := fun W => name_is sn W
  rw [hn] at HB
  go_enter Tryd.func8, Tryd.ntmps8
  go_upto_region 1 with fail
  obtain ⟨W0, hW⟩ : ∃ W0, w.alloc (.cells #[.string sn, .slice a1 n c1, .int .i64 key, .slice a2 m c2] 25) = W0 := ⟨_, rfl⟩
  obtain ⟨hL, hlt, p0, p1, p2, p3⟩ := box4n hW
  rw [hW]
  clear hW
  go_wp2_with (go_at_call 22; with_reducible refine (HB _).mono ?_; rintro e w1 ⟨rfl, rfl⟩)
  go_ret
  exact ⟨rfl, hL⟩
set_option maxRecDepth 20000 in
theorem vd_4 (sn : ByteArray) (key : Int) (n m c1 c2 : Nat) (a1 a2 : Option Addr) (w : World) (hn : nmB sn = true) (h1 : (1 : Int) ≤ (n : Int)) (h2 : (n : Int) ≤ 8) (h3 : (1 : Int) ≤ key) (h4 : (n : Int) < key) : Calls Tryd.prog 8 #[.agg #[.string sn, .slice a1 n c1, .int .i64 key, .slice a2 m c2]] w fun e w' => e = .returned (.bool false) ∧ Below w.heap.size w w' := by
  have HB := fun W => name_is sn W
  rw [hn] at HB
  go_enter Tryd.func8, Tryd.ntmps8
  go_upto_region 1 with fail
  obtain ⟨W0, hW⟩ : ∃ W0, w.alloc (.cells #[.string sn, .slice a1 n c1, .int .i64 key, .slice a2 m c2] 25) = W0 := ⟨_, rfl⟩
  obtain ⟨hL, hlt, p0, p1, p2, p3⟩ := box4n hW
  rw [hW]
  clear hW
  go_wp2_with (go_at_call 22; with_reducible refine (HB _).mono ?_; rintro e w1 ⟨rfl, rfl⟩)
  go_ret
  exact ⟨rfl, hL⟩
set_option maxRecDepth 20000 in
theorem vd_5 (sn : ByteArray) (key : Int) (n m c1 c2 : Nat) (a1 a2 : Option Addr) (w : World) (hn : nmB sn = true) (h1 : (1 : Int) ≤ (n : Int)) (h2 : (n : Int) ≤ 8) (h3 : (1 : Int) ≤ key) (h4 : key ≤ (n : Int)) (h5 : (8 : Int) < (m : Int)) : Calls Tryd.prog 8 #[.agg #[.string sn, .slice a1 n c1, .int .i64 key, .slice a2 m c2]] w fun e w' => e = .returned (.bool false) ∧ Below w.heap.size w w' := by
  have HB := fun W => name_is sn W
  rw [hn] at HB
  go_enter Tryd.func8, Tryd.ntmps8
  go_upto_region 1 with fail
  obtain ⟨W0, hW⟩ : ∃ W0, w.alloc (.cells #[.string sn, .slice a1 n c1, .int .i64 key, .slice a2 m c2] 25) = W0 := ⟨_, rfl⟩
  obtain ⟨hL, hlt, p0, p1, p2, p3⟩ := box4n hW
  rw [hW]
  clear hW
  go_wp2_with (go_at_call 22; with_reducible refine (HB _).mono ?_; rintro e w1 ⟨rfl, rfl⟩)
  go_ret
  exact ⟨rfl, hL⟩
set_option maxRecDepth 20000 in
theorem vd_6 (sn : ByteArray) (key : Int) (n m c1 c2 : Nat) (a1 a2 : Option Addr) (w : World) (hn : nmB sn = true) (h1 : (1 : Int) ≤ (n : Int)) (h2 : (n : Int) ≤ 8) (h3 : (1 : Int) ≤ key) (h4 : key ≤ (n : Int)) (h5 : (m : Int) ≤ 8) (l : List Cl) (hl : l.length ≤ 1000000) (hs : Cs w (.slice a1 n c1) l) (hd : distL [] (l.map (·.1)) = false) : Calls Tryd.prog 8 #[.agg #[.string sn, .slice a1 n c1, .int .i64 key, .slice a2 m c2]] w fun e w' => e = .returned (.bool false) ∧ Below w.heap.size w w' := by
  have HB := fun W => name_is sn W
  rw [hn] at HB
  have HN := fun W (h : Below w.heap.size w W) => names_any l (.slice a1 n c1) W hl (hs.below h)
  have HD := fun (v : Value) (W0 W : World) (h : Tf W0 W v (l.map (·.1))) => distinct_any (l.map (·.1)) v W (by simpa using hl) h.ss
  rw [hd] at HD
  clear hs hd
  go_enter Tryd.func8, Tryd.ntmps8
  go_upto_region 1 with fail
  obtain ⟨W0, hW⟩ : ∃ W0, w.alloc (.cells #[.string sn, .slice a1 n c1, .int .i64 key, .slice a2 m c2] 25) = W0 := ⟨_, rfl⟩
  obtain ⟨hL, hlt, p0, p1, p2, p3⟩ := box4n hW
  rw [hW]
  clear hW
  go_wp2_with (first | (go_at_call 22; with_reducible refine (HB _).mono ?_; rintro e w1 ⟨rfl, rfl⟩) | (go_at_call 24; (with_reducible refine (HN _ hL).mono ?_); rintro e w1 ⟨v, rfl, hT⟩) | (go_at_call 23; (with_reducible refine (HD _ _ _ hT).mono ?_); rintro e w2 ⟨rfl, rfl⟩))
  go_ret
  exact ⟨rfl, bstep hL hT.2⟩
/-- The kinds of columns. -/
def kdOk (c : Cl) : Bool := decide (1 ≤ c.2) && decide (c.2 ≤ 4)
theorem all_step {α : Type} (p : α → Bool) (l : List α) (k : Nat) (x : α) (h : l[k]? = some x) : (l.drop k).all p = (p x && (l.drop (k + 1)).all p) := by
  have hk := List.getElem?_eq_some_iff.1 h
  rw [List.drop_eq_getElem_cons hk.1, List.all_cons, hk.2]
theorem all_end {α : Type} (p : α → Bool) (l : List α) (k : Nat) (h : l.length ≤ k) : (l.drop k).all p = true := by
  rw [List.drop_of_length_le h]; rfl
set_option maxRecDepth 20000 in
set_option maxHeartbeats 1000000 in
theorem vd_go (sn : ByteArray) (key : Int) (n m c1 c2 : Nat) (a1 a2 : Option Addr) (w : World) (hn : nmB sn = true) (h1 : (1 : Int) ≤ (n : Int)) (h2 : (n : Int) ≤ 8) (h3 : (1 : Int) ≤ key) (h4 : key ≤ (n : Int)) (h5 : (m : Int) ≤ 8) (l : List Cl) (hnl : n = l.length) (fl : List Fr) (hml : m = fl.length) (hs : Cs w (.slice a1 n c1) l) (hf : FsAt w (.slice a2 m c2) fl) (hd : distL [] (l.map (·.1)) = true) : Calls Tryd.prog 8 #[.agg #[.string sn, .slice a1 n c1, .int .i64 key, .slice a2 m c2]] w fun e w' => e = .returned (.bool (l.all (fun c => decide (1 ≤ c.2) && decide (c.2 ≤ 4)) && fl.all (frB l))) ∧ Below w.heap.size w w' := by
  have hl : l.length ≤ 1000000 := by omega
  have HB := fun W => name_is sn W
  rw [hn] at HB
  have HN := fun W (h : Below w.heap.size w W) => names_any l (.slice a1 n c1) W hl (hs.below h)
  have HD := fun (v : Value) (W0 W : World) (h : Tf W0 W v (l.map (·.1))) => distinct_any (l.map (·.1)) v W (by simpa using hl) h.ss
  rw [hd] at HD
  have HCL := fun x W (h : Below w.heap.size w W) => column_any sn key (.slice a2 m c2) l (.slice a1 n c1) x W hl (hs.below h)
  have HC := Lib.hid hs
  have HF := Lib.hid hf
  have HNL := Lib.hid hnl
  have HML := Lib.hid hml
  obtain ⟨Z, hZ⟩ : ∃ Z, (l.all kdOk && fl.all (frB l)) = Z := ⟨_, rfl⟩
  have HZ := Lib.hid hZ
  rw [show (l.all (fun c => decide (1 ≤ c.2) && decide (c.2 ≤ 4)) && fl.all (frB l)) = Z from hZ]
  clear hs hd hf hnl hml hl hn hZ
  go_enter Tryd.func8, Tryd.ntmps8
  go_upto_region 1 with fail
  obtain ⟨W0, hW⟩ : ∃ W0, w.alloc (.cells #[.string sn, .slice a1 n c1, .int .i64 key, .slice a2 m c2] 25) = W0 := ⟨_, rfl⟩
  obtain ⟨hL, hlt, p0, p1, p2, p3⟩ := box4n hW
  rw [hW]
  clear hW
  go_wp2_with (first | (go_at_call 22; with_reducible refine (HB _).mono ?_; rintro e w1 ⟨rfl, rfl⟩) | (go_at_call 24; (with_reducible refine (HN _ hL).mono ?_); rintro e w1 ⟨v, rfl, hT⟩; (have _h := p0; replace p0 := cell_kept p0 hT.2; replace p1 := cell_kept p1 hT.2; replace p2 := cell_kept p2 hT.2; replace p3 := cell_kept p3 hT.2; have hL1 := bstep hL hT.2; clear _h)) | (go_at_call 23; (with_reducible refine (HD _ _ _ hT).mono ?_); rintro e w2 ⟨rfl, rfl⟩))
  clear hT HD HN HB hL hlt W0
  have hL := hL1
  clear hL1
  go_loopw [5, 52] (fun _ i wr => ∃ k : Nat, k ≤ n ∧ i = .int .i64 k ∧ Hid (((l.drop k).all kdOk && fl.all (frB l)) = Z) ∧ Below w1.heap.size w1 wr) (fun _ i _ => n - (intOf i).toNat)
  case atStart => exact ⟨0, Nat.zero_le _, rfl, Lib.hid HZ.out, Below.refl _ _⟩
  case round =>
    obtain ⟨k, hk, rfl, HI, hR⟩ := hrel
    by_cases hlt2 : k < n
    · obtain ⟨g, off, cp, e1, hc⟩ := HC.out.open (by rw [← HNL.out]; omega)
      simp only [Value.slice.injEq] at e1
      obtain ⟨rfl, _, rfl⟩ := e1
      obtain ⟨⟨a, b⟩, ht⟩ : ∃ t, l[k]? = some t := ⟨_, List.getElem?_eq_getElem (by rw [← HNL.out]; exact hlt2)⟩
      obtain ⟨c0, c1'⟩ := cs_get hc ht
      have d0 := cell_kept c0 (bstep hL hR)
      have d1 := cell_kept c1' (bstep hL hR)
      have k0 : (0 : Int) ≤ (k : Int) := by omega
      have k1 : (k : Int) < (n : Int) := by omega
      have hst := all_step kdOk l k _ ht
      have hZ2 := HI.out
      rw [hst] at hZ2
      clear c0 c1' hc ht hst
      by_cases q1 : b < 1
      · rw [show kdOk (a, b) = false by simp [kdOk]; omega] at hZ2
        have HS := Lib.hid hZ2
        clear hZ2
        go_wp2
        go_ret
        exact ⟨by rw [← HS.out]; rfl, (bstep hL hR).alloc (bstep hL hR).size _⟩
      · by_cases q2 : 4 < b
        · rw [show kdOk (a, b) = false by simp [kdOk]; omega] at hZ2
          have HS := Lib.hid hZ2
          clear hZ2
          go_wp2
          go_ret
          exact ⟨by rw [← HS.out]; rfl, (bstep hL hR).alloc (bstep hL hR).size _⟩
        · rw [show kdOk (a, b) = true by simp [kdOk]; omega, Bool.true_and] at hZ2
          have HS := Lib.hid hZ2
          clear hZ2
          go_wp2
          go_roundw
          case rel => exact ⟨k + 1, by omega, by go_num, HS, hR.alloc hR.size _⟩
          case measure => simp [intOf]; omega
    · have hZ2 := HI.out
      rw [all_end _ _ _ (by rw [← HNL.out]; omega), Bool.true_and] at hZ2
      have HZ2 := Lib.hid hZ2
      replace p0 := cell_kept p0 hR
      replace p1 := cell_kept p1 hR
      replace p2 := cell_kept p2 hR
      replace p3 := cell_kept p3 hR
      replace hL := bstep hL hR
      clear hZ2 hR HI
      generalize w.heap.size = B at p0 p1 p2 p3
      go_wp2
      obtain ⟨Wa, rfl⟩ : ∃ Wa, Wa = wr := ⟨_, rfl⟩
      go_loopw [7, 68] (fun _ i wq => ∃ j : Nat, j ≤ m ∧ i = .int .i64 j ∧ Hid ((fl.drop j).all (frB l) = Z) ∧ Below Wa.heap.size Wa wq) (fun _ i _ => m - (intOf i).toNat)
      case atStart => exact ⟨0, Nat.zero_le _, rfl, Lib.hid HZ2.out, Below.refl _ _⟩
      case round =>
        obtain ⟨j, hj, rfl, HJ, hQ⟩ := hrel
        obtain ⟨wq, rfl⟩ : ∃ wq, wq = wr := ⟨_, rfl⟩
        by_cases hlt3 : j < m
        · obtain ⟨g, off, cp, e1, hc⟩ := fs_get (HML.out ▸ HF.out) (by rw [← HML.out]; omega)
          simp only [Value.slice.injEq] at e1
          obtain ⟨rfl, _, rfl⟩ := e1
          obtain ⟨f, ht⟩ : ∃ t, fl[j]? = some t := ⟨_, List.getElem?_eq_getElem (by rw [← HML.out]; exact hlt3)⟩
          obtain ⟨ta, tc, htc, hss, c0, c1'⟩ := hc j f ht
          have hst := all_step (frB l) fl j _ ht
          have hZ3 := HJ.out
          rw [hst] at hZ3
          obtain ⟨fc, tab⟩ := f
          have hw := bstep hL hQ
          replace hss := hss.below hw
          have d0 := cell_kept c0 hw
          have d1 := cell_kept c1' hw
          have r0 := cell_kept p0 hQ
          have r1 := cell_kept p1 hQ
          have r2 := cell_kept p2 hQ
          have r3 := cell_kept p3 hQ
          dsimp only at htc hss d0 d1
          obtain ⟨q, hq⟩ : ∃ q, q = fc.length := ⟨_, rfl⟩
          have HQ := Lib.hid hq
          have HNM := fun W => name_is tab W
          have HSS := Lib.hid hss
          rw [← hq] at d0 htc
          have j0 : (0 : Int) ≤ (j : Int) := by omega
          have j1 : (j : Int) < (m : Int) := by omega
          have hfr : frB l ⟨fc, tab⟩ = (nmB tab && decide (1 ≤ fc.length) && decide (fc.length ≤ 8) && distL [] fc && fc.all fun c => decide (0 ≤ idxC c 0 l)) := rfl
          rw [hfr, ← hq] at hZ3
          clear c0 c1' hc ht hst hfr hq hss
          generalize nmB tab = nb at HNM hZ3
          cases nb
          · have HS := Lib.hid (show false = Z by rw [← hZ3]; rfl)
            clear hZ3
            go_wp2_with (go_at_call 22; with_reducible refine (HNM _).mono ?_; rintro e w1 ⟨rfl, rfl⟩)
            go_ret
            exact ⟨by rw [← HS.out]; rfl, hw.alloc hw.size _⟩
          · by_cases q1 : (q : Int) < 1
            · have HS := Lib.hid (show false = Z by rw [← hZ3, decide_eq_false (show ¬ 1 ≤ q by omega)]; rfl)
              clear hZ3
              go_wp2_with (go_at_call 22; with_reducible refine (HNM _).mono ?_; rintro e w1 ⟨rfl, rfl⟩)
              go_ret
              exact ⟨by rw [← HS.out]; rfl, hw.alloc hw.size _⟩
            · by_cases q2 : (8 : Int) < (q : Int)
              · have HS := Lib.hid (show false = Z by rw [← hZ3, decide_eq_false (show ¬ q ≤ 8 by omega)]; simp)
                clear hZ3
                go_wp2_with (go_at_call 22; with_reducible refine (HNM _).mono ?_; rintro e w1 ⟨rfl, rfl⟩)
                go_ret
                exact ⟨by rw [← HS.out]; rfl, hw.alloc hw.size _⟩
              · rw [decide_eq_true (show 1 ≤ q by omega), decide_eq_true (show q ≤ 8 by omega), Bool.true_and, Bool.true_and, Bool.true_and] at hZ3
                have HDI := fun W (h : Below wq.heap.size wq W) => distinct_any fc (.slice ta q tc) W (by rw [← HQ.out]; omega) (HQ.out ▸ HSS.out.below h)
                generalize distL [] fc = db at HDI hZ3
                cases db
                · have HS := Lib.hid (show false = Z by rw [← hZ3]; rfl)
                  clear hZ3
                  go_wp2_with (first | (go_at_call 22; with_reducible refine (HNM _).mono ?_; rintro e w1 ⟨rfl, rfl⟩) | (go_at_call 23; (with_reducible refine (HDI _ (by go_grown)).mono ?_); rintro e w2 ⟨rfl, rfl⟩))
                  go_ret
                  exact ⟨by rw [← HS.out]; rfl, hw.alloc hw.size _⟩
                · have HS := Lib.hid hZ3
                  clear hZ3
                  go_wp2_with (first | (go_at_call 22; with_reducible refine (HNM _).mono ?_; rintro e w1 ⟨rfl, rfl⟩) | (go_at_call 23; (with_reducible refine (HDI _ (by go_grown)).mono ?_); rintro e w2 ⟨rfl, rfl⟩))
                  obtain ⟨W2, hW2⟩ : ∃ W2, wq.alloc (.cells #[.slice ta q tc, .string tab] 50) = W2 := ⟨_, rfl⟩
                  obtain ⟨hL2, hlt4, u0, u1⟩ := box2n hW2
                  rw [hW2]
                  clear hW2 d0 d1 HNM HDI
                  replace r0 := cell_kept r0 hL2
                  replace r1 := cell_kept r1 hL2
                  replace r2 := cell_kept r2 hL2
                  replace r3 := cell_kept r3 hL2
                  replace hw := bstep hw hL2
                  have hQ2 := bstep hQ hL2
                  have SS := Lib.hid (HSS.out.below hL2)
                  clear HSS hQ hL2 hlt4 HF
                  generalize wq.heap.size = G at u0 u1 ⊢
                  go_wp2
                  go_loopw [9, 97] (fun _ i wt => ∃ t : Nat, t ≤ q ∧ i = .int .i64 t ∧ Hid (((fc.drop t).all (fun c => decide (0 ≤ idxC c 0 l)) && (fl.drop (j + 1)).all (frB l)) = Z) ∧ Below W2.heap.size W2 wt) (fun _ i _ => q - (intOf i).toNat)
                  case atStart => exact ⟨0, Nat.zero_le _, rfl, Lib.hid HS.out, Below.refl _ _⟩
                  case round =>
                    obtain ⟨t, ht, rfl, HT, hE⟩ := hrel
                    by_cases hlt5 : t < q
                    · obtain ⟨g5, o5, cp5, e5, hc5⟩ := SS.out.1.open (by rw [← HQ.out]; omega)
                      simp only [Value.slice.injEq] at e5
                      obtain ⟨rfl, _, rfl⟩ := e5
                      obtain ⟨cn, hcn⟩ : ∃ x, fc[t]? = some x := ⟨_, List.getElem?_eq_getElem (by rw [← HQ.out]; exact hlt5)⟩
                      have v0 := cell_kept (ss_get hc5 hcn) hE
                      have s0 := cell_kept r0 hE
                      have s1 := cell_kept r1 hE
                      have s2 := cell_kept r2 hE
                      have s3 := cell_kept r3 hE
                      have hZ4 := HT.out
                      rw [all_step _ fc t cn hcn] at hZ4
                      have HCI := fun W (h : Below w.heap.size w W) => HCL cn W h
                      have t0 : (0 : Int) ≤ (t : Int) := by omega
                      have t1 : (t : Int) < (q : Int) := by omega
                      clear hc5 hcn
                      by_cases hq5 : 0 ≤ idxC cn 0 l
                      · have HS5 := Lib.hid (show ((fc.drop (t + 1)).all (fun c => decide (0 ≤ idxC c 0 l)) && (fl.drop (j + 1)).all (frB l)) = Z by rw [← hZ4, decide_eq_true hq5, Bool.true_and])
                        clear hZ4
                        generalize idxC cn 0 l = z at HCI hq5
                        go_wp2_with (go_at_call 25; with_reducible refine (HCI _ (bstep hw hE)).mono ?_; rintro e w5 ⟨rfl, hb5⟩)
                        go_roundw
                        case rel => exact ⟨t + 1, by omega, by go_num, HS5, bstep hE hb5⟩
                        case measure => simp [intOf]; omega
                      · have HS5 := Lib.hid (show false = Z by rw [← hZ4, decide_eq_false hq5]; rfl)
                        clear hZ4
                        generalize idxC cn 0 l = z at HCI hq5
                        go_wp2_with (go_at_call 25; with_reducible refine (HCI _ (bstep hw hE)).mono ?_; rintro e w5 ⟨rfl, hb5⟩)
                        go_ret
                        exact ⟨by rw [← HS5.out]; rfl, bstep (bstep hw hE) hb5⟩
                    · have HS6 := Lib.hid (show (fl.drop (j + 1)).all (frB l) = Z by rw [← HT.out, all_end (fun c => decide (0 ≤ idxC c 0 l)) fc t (by rw [← HQ.out]; omega), Bool.true_and])
                      go_wp2
                      go_roundw
                      case rel => exact ⟨j + 1, by omega, by go_num, HS6, bstep hQ2 hE⟩
                      case measure => simp [intOf]; omega
        · have HS := HJ.out
          rw [all_end _ _ _ (by rw [← HML.out]; omega)] at HS
          have HS2 := Lib.hid HS
          clear HS
          go_wp2
          go_ret
          exact ⟨by rw [← HS2.out]; rfl, bstep hL hQ⟩
theorem valid_any (s : Sch) (a1 a2 : Option Addr) (c1 c2 : Nat) (w : World) (hs : Cs w (.slice a1 s.cols.length c1) s.cols) (hf : FsAt w (.slice a2 s.frn.length c2) s.frn) :
    Calls Tryd.prog 8 #[.agg #[.string s.name, .slice a1 s.cols.length c1, .int .i64 s.key, .slice a2 s.frn.length c2]] w fun e w' => e = .returned (.bool (vldS s)) ∧ Below w.heap.size w w' := by
  obtain ⟨sn, l, key, fl⟩ := s
  dsimp only at hs hf ⊢
  unfold vldS
  dsimp only
  by_cases hn : nmB sn = true
  · by_cases h1 : l.length < 1
    · rw [hn, decide_eq_false (show ¬ 1 ≤ l.length by omega)]
      exact vd_1 sn key _ _ c1 c2 a1 a2 w hn (by omega)
    by_cases h2 : 8 < l.length
    · rw [hn, decide_eq_true (show 1 ≤ l.length by omega), decide_eq_false (show ¬ l.length ≤ 8 by omega)]
      exact vd_2 sn key _ _ c1 c2 a1 a2 w hn (by omega) (by omega)
    rw [hn, decide_eq_true (show 1 ≤ l.length by omega), decide_eq_true (show l.length ≤ 8 by omega)]
    by_cases h3 : key < 1
    · rw [decide_eq_false (show ¬ 1 ≤ key by omega)]
      exact vd_3 sn key _ _ c1 c2 a1 a2 w hn (by omega) (by omega) h3
    by_cases h4 : (l.length : Int) < key
    · rw [decide_eq_true (show 1 ≤ key by omega), decide_eq_false (show ¬ key ≤ l.length by omega)]
      exact vd_4 sn key _ _ c1 c2 a1 a2 w hn (by omega) (by omega) (by omega) h4
    rw [decide_eq_true (show 1 ≤ key by omega), decide_eq_true (show key ≤ l.length by omega)]
    by_cases h5 : 8 < fl.length
    · rw [decide_eq_false (show ¬ fl.length ≤ 8 by omega)]
      exact vd_5 sn key _ _ c1 c2 a1 a2 w hn (by omega) (by omega) (by omega) (by omega) (by omega)
    rw [decide_eq_true (show fl.length ≤ 8 by omega)]
    cases hd : distL [] (l.map (·.1))
    · exact vd_6 sn key _ _ c1 c2 a1 a2 w hn (by omega) (by omega) (by omega) (by omega) (by omega) l (by omega) hs hd
    · exact vd_go sn key _ _ c1 c2 a1 a2 w hn (by omega) (by omega) (by omega) (by omega) (by omega) l rfl fl rfl hs hf hd
  · have hn2 : nmB sn = false := by simpa using hn
    rw [hn2]
    exact vd_name sn key _ _ c1 c2 a1 a2 w hn2
end Go.Proofs.YtokbipfkpojflaaDoor.Sc
