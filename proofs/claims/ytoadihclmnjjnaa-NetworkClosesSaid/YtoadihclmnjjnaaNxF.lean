/-
  The walk of the law NetworkCloses (layer 46).
-/
import Derived.Test.YtoadihclmnjjnaaNxE
import Derived.Test.YtoadihclmnjjnaaNop
import Derived.Test.YtoadihclmnjjnaaNwZ
set_option linter.unusedSimpArgs false
set_option linter.unusedVariables false
set_option maxRecDepth 100000
namespace Go.Proofs.Ytoadihclmnjjnaa.Nw
open Go Go.RowKit Go.ChangeShapes Go.WideShapes Go.Proofs.Ytoadihclmnjjnaa.Sl Go.Lib

/-- What Close returns, in one form. -/
theorem CoE.flat {n : Nat} {l : List Rl} {w w' : World} {e : Ending} (h : CoE n l w e w') : ∃ (a : Option Addr) (m c : Nat) (x : Int), e = .returned (.tuple #[.slice a m c, .int .i64 x]) ∧ Below w.heap.size w w' ∧
    ∃ X ok, ClR n (matN l) X ok ∧ (ok = true → x = 0 ∧ m = n ∧ ∃ B R, a = some ⟨B, 0, none⟩ ∧ Mx w' B R n X) ∧ (ok = false → x = 17 ∧ m = 0) := by
  obtain ⟨hb, X, ok, hX, hT, hF⟩ := h
  cases ok
  · exact ⟨none, 0, 0, 17, hF rfl, hb, X, false, hX, nofun, fun _ => ⟨rfl, rfl⟩⟩
  · obtain ⟨B, R, he, hM, _⟩ := hT rfl
    exact ⟨_, _, _, _, he, hb, X, true, hX, fun _ => ⟨rfl, rfl, B, R, rfl, hM⟩, nofun⟩
theorem RcE.flat {n : Nat} {M : Mt} {w w' : World} {e : Ending} (h : RcE n M w e w') : ∃ (a : Option Addr) (m c : Nat) (b : Bool), e = .returned (.tuple #[.slice a m c, .bool b]) ∧ Below w.heap.size w w' ∧
    ∃ X, ClR n M X b ∧ (b = true → m = n ∧ ∃ B R, a = some ⟨B, 0, none⟩ ∧ Mx w' B R n X) := by
  obtain ⟨hb, ok, X, hX, hT, hF⟩ := h
  cases ok
  · exact ⟨none, 0, 0, false, hF rfl, hb, X, hX, nofun⟩
  · obtain ⟨B, R, he, hM, _⟩ := hT rfl
    exact ⟨_, _, _, _, he, hb, X, hX, fun _ => ⟨rfl, B, R, rfl, hM⟩⟩

set_option maxHeartbeats 4000000 in
theorem networkCloses_walk (n : Int) (v : Value) (l : List Rl) (w : World) (hn : (Lit.int .i64 n).wf = true) (hs : Rs w v l) (hg : ∀ r ∈ l, FitR r) : Calls Try.prog 4 #[.int .i64 n, v] w fun e w' => e = .returned (.bool true) ∧ Below w.heap.size w w' := by
  obtain ⟨ad, c, rfl⟩ := hs.form
  obtain ⟨q, hq⟩ : ∃ q, q = l.length := ⟨_, rfl⟩
  have HQ := Lib.hid hq
  rw [← hq] at hs ⊢
  have HG := fun W => great_any n ad q c W
  have HRV := fun W (h : Below w.heap.size w W) => rvalid_any n l _ W (hs.below h)
  have HNV := fun W (h : Below w.heap.size w W) => nvalid_any n l _ W (hs.below h)
  cases hgl : grN n q
  · rw [hgl] at HG
    cases hv : vldN n l
    · rw [hv] at HRV HNV
      have HC := fun W (h : Below w.heap.size w W) => close_bad n l _ W (hs.below h) hv
      clear hs hq hgl hg hv
      go_enter Try.func4, Try.ntmps4
      go_wp2_with (first | (go_at_call 12; (with_reducible refine (awake_any _).mono ?_); rintro e w1 ⟨rfl, hL⟩) | (go_at_call 13; (with_reducible refine (HG _).mono ?_); rintro e w2 ⟨rfl, rfl⟩) | (go_at_call 15; (with_reducible refine (HRV _ (by assumption)).mono ?_); rintro e w3 ⟨rfl, rfl⟩) | (go_at_call 18; (with_reducible refine (HC _ (by assumption)).mono ?_); rintro e w4 ⟨rfl, hb4⟩; replace hL := bstep hL hb4; clear hb4) | (go_at_call 19; (with_reducible refine (HNV _ (by assumption)).mono ?_); rintro e w5 ⟨rfl, hb5⟩; replace hL := bstep hL hb5; clear hb5))
      go_ret
      exact ⟨rfl, hL⟩
    · rw [hv] at HRV HNV
      obtain ⟨k, rfl, k0, k8, l200, hok⟩ := vld_ok hv
      have HC := fun W (h : Below w.heap.size w W) => close_ok k l _ W (hs.below h) hv
      have HM := fun W (h : Below w.heap.size w W) => rmatrix_start k l ad q c W k0 k8 HQ.out (hs.below h) (by have := HQ.out; omega) hok
      have hbd : BdM k (rMat l) := by rw [rMat_eq]; exact bd_matN k l
      have HBD := Lib.hid hbd
      have hk6 : k ≤ 1000000 := by omega
      clear hs hq hgl hg hv hbd
      go_enter Try.func4, Try.ntmps4
      go_upto_region 11 with (first | (go_at_call 12; (with_reducible refine (awake_any _).mono ?_); rintro e w1 ⟨rfl, hL⟩) | (go_at_call 13; (with_reducible refine (HG _).mono ?_); rintro e w2 ⟨rfl, rfl⟩) | (go_at_call 15; (with_reducible refine (HRV _ (by assumption)).mono ?_); rintro e w3 ⟨rfl, rfl⟩) | (go_at_call 18; (with_reducible refine (HC _ (by assumption)).mono ?_); intro e w4 hco; obtain ⟨a1, m1, c1, x1, rfl, hb4, X, ok, hX, hT, hF⟩ := hco.flat; clear hco; have HX := Lib.hid hX; have HT := Lib.hid hT; have HF := Lib.hid hF; clear hX hT hF; replace hL := bstep hL hb4; clear hb4) | (go_at_call 19; (with_reducible refine (HNV _ (by assumption)).mono ?_); rintro e w5 ⟨rfl, hb5⟩; have hd4 := hb5; replace hL := bstep hL hb5; clear hb5))
      go_upto_region 12 with (first | (go_at_call 21; (with_reducible refine (table_any _).mono ?_); rintro e w6 ⟨tv, rfl, hTb, hb6⟩; have hd5 := bstep hd4 hb6; replace hL := bstep hL hb6; clear hb6 hd4) | (go_at_call 22; (with_reducible refine (HM _ (by assumption)).mono ?_); rintro e w7 ⟨B7, R7, rfl, hM7, _, _, hb7⟩; have hd6 := bstep hd5 hb7; replace hL := bstep hL hb7; replace hTb := hTb.below hb7; clear hb7 hd5) | (go_at_call 20; (with_reducible refine (rclose_any _ _ _ _ _ _ _ k0 hk6 hTb hM7 HBD.out).mono ?_); intro e w8 hrc; obtain ⟨a2, m2, c2, b2, rfl, hb8, Y, hY, hU⟩ := hrc.flat; clear hrc hTb hM7; have HY := Lib.hid hY; have HU := Lib.hid hU; clear hY hU; have hd7 := bstep hd6 hb8; replace hL := bstep hL hb8; clear hb8 hd6))
      obtain ⟨rfl, hXY⟩ := ClR.eq HX.out (by have := HY.out; rw [rMat_eq] at this; exact this)
      cases ok
      · obtain ⟨rfl, rfl⟩ := HF.out rfl
        clear HT HF HU HX HY hXY HM HC HNV HRV
        go_wp2
        go_ret
        exact ⟨rfl, hL⟩
      · obtain ⟨rfl, rfl, B1, R1, rfl, hM1⟩ := HT.out rfl
        obtain ⟨rfl, B2, R2, rfl, hM2⟩ := HU.out rfl
        have hMM := hM1.below hd7
        have hM3 := hM2.congr (M' := X) (hXY rfl)
        have HE := eq_mats _ B1 B2 c1 c2 R1 R2 X _ hk6 hMM hM3
        clear HT HF HU HX HY hXY HM HC HNV HRV hM1 hM2 hM3 hMM
        go_wp2_with (go_at_call 23; (with_reducible refine HE.mono ?_); rintro e w9 ⟨rfl, hb9⟩; replace hL := bstep hL hb9; clear hb9)
        go_ret
        exact ⟨rfl, hL⟩
  · rw [hgl] at HG
    clear HRV HNV hs hq hgl hg
    go_enter Try.func4, Try.ntmps4
    go_wp2_with (first | (go_at_call 12; (with_reducible refine (awake_any _).mono ?_); rintro e w1 ⟨rfl, hL⟩) | (go_at_call 13; (with_reducible refine (HG _).mono ?_); rintro e w2 ⟨rfl, rfl⟩))
    go_ret
    exact ⟨rfl, hL⟩
end Go.Proofs.Ytoadihclmnjjnaa.Nw
