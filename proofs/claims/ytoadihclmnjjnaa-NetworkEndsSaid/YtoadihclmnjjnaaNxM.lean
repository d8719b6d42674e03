/-
  Networks: intervals in memory, slices.ContainsFunc at them and at rows, Holds (layer 46). Written by gen_nxm.py.
-/
import Derived.Test.YtoadihclmnjjnaaNwL
import Derived.Test.YtoadihclmnjjnaaNop
import Derived.Lib.QuietBelow
set_option linter.unusedSimpArgs false
set_option linter.unusedVariables false
set_option maxRecDepth 100000
namespace Go.Proofs.Ytoadihclmnjjnaa.Nw
open Go Go.RowKit Go.ChangeShapes Go.WideShapes Go.Deep Go.Proofs.Ytoadihclmnjjnaa.Sl Go.Proofs.Ytoadihclmnjjnaa.Al Go.Lib Go.Proofs.Ytoadihclmnjjnaa.Opn

def cellsP (l : List (Int × Int)) : List Value := l.flatMap fun p => [.int .i64 p.1, .int .i64 p.2]
theorem cellsP_len : ∀ l : List (Int × Int), (cellsP l).length = l.length * 2
  | [] => rfl
  | p :: l => by have := cellsP_len l; unfold cellsP at this ⊢; rw [List.flatMap_cons, List.length_append, this]; simp; omega
theorem cellsP_at : ∀ (l : List (Int × Int)) (k : Nat) (p : Int × Int), l[k]? = some p → (cellsP l)[k * 2]? = some (.int .i64 p.1) ∧ (cellsP l)[k * 2 + 1]? = some (.int .i64 p.2)
  | [], k, p, h => by simp at h
  | q :: l, 0, p, h => by
    simp at h; subst h
    exact ⟨rfl, rfl⟩
  | q :: l, k + 1, p, h => by
    have := cellsP_at l k p (by simpa using h)
    have e : cellsP (q :: l) = .int .i64 q.1 :: .int .i64 q.2 :: cellsP l := rfl
    rw [e, show (k + 1) * 2 = k * 2 + 2 by omega]
    exact this
/-- The slice s holds the intervals l. -/
def Ps (w : World) (s : Value) (l : List (Int × Int)) : Prop := Sl w s l.length 2 (cellsP l) ∧ l.length ≤ 9223372036854775807
theorem Ps.below {w w' : World} {s : Value} {l : List (Int × Int)} (h : Ps w s l) (hb : Below w.heap.size w w') : Ps w' s l := ⟨h.1.below hb, h.2⟩
theorem Ps.form {w : World} {s : Value} {l : List (Int × Int)} (h : Ps w s l) : ∃ ad cap, s = .slice ad l.length cap := h.1.form
theorem Ps.get {w : World} {s : Value} {l : List (Int × Int)} (h : Ps w s l) (h0 : l.length ≠ 0) : ∃ g off cap, s = .slice (some ⟨g, off, none⟩) l.length cap ∧ ∀ (k : Nat) (p : Int × Int), l[k]? = some p →
    w.cell? ⟨g, off + k * 2, none⟩ = some (.int .i64 p.1) ∧ w.cell? ⟨g, off + k * 2 + 1, none⟩ = some (.int .i64 p.2) := by
  obtain ⟨g, off, cap, rfl, hc⟩ := h.1.open h0
  refine ⟨g, off, cap, rfl, fun k p hp => ?_⟩
  obtain ⟨h1, h2⟩ := cellsP_at l k p hp
  exact ⟨hc _ _ h1, hc _ _ h2⟩
def FitP (p : Int × Int) : Prop := fitI p.1 ∧ fitI p.2
section
variable {H : Type} {enc : TypeId × Value → H} {w : World} {base : Nat} {spare : Nat → Bool} {held : Bool}
theorem cspan : Try.prog.cellsOf 48 = 2 := by kernel_rfl
theorem trod_spn {n : Nat} {cs : List Value} {y : DataW H × List MemPlace} (h : DataW.trod enc Try.prog w base spare held n 48 cs = some y) : ∃ p : Int × Int, cs = [.int .i64 p.1, .int .i64 p.2] ∧ FitP p := by
  obtain ⟨y0, y1, n, _, hl, h0, h1⟩ := trod_struct2 Try.underlying48 h
  rw [cspan] at hl
  obtain ⟨a, b, rfl⟩ : ∃ a b, cs = [a, b] := by
    match cs, hl with
    | [a, b], _ => exact ⟨a, b, rfl⟩
  simp only [ci, List.drop_zero, List.take_succ_cons, List.take_zero, List.drop_succ_cons] at h0 h1
  obtain ⟨z0, rfl, hz0⟩ := trod_cell Try.underlying3 h0
  obtain ⟨z1, rfl, hz1⟩ := trod_cell Try.underlying3 h1
  exact ⟨(z0, z1), rfl, wf_fit hz0, wf_fit hz1⟩
set_option maxRecDepth 100000 in
theorem open_spans {v : Value} {d : DataW H} {p : List MemPlace} {r : Reach} {b0 : Nat} (hv : Value.okWide Try.prog w r b0 46 v) (h : DataW.Trod enc Try.prog w base spare held 46 v d p) :
    ∃ l : List (Int × Int), Ps w v l ∧ ∀ u ∈ l, FitP u := by
  obtain ⟨a, len, cap, rfl⟩ := okWide_slice Try.underlying46 hv
  obtain ⟨fuel, hf⟩ := h
  obtain ⟨ad, cap2, l, hcs, hl, hm, hs, hg⟩ := open_l (fun p : Int × Int => [.int .i64 p.1, .int .i64 p.2]) FitP Try.underlying46 cspan (by decide) (fun n cs y _ h => trod_spn h) hf
  simp [Value.cells] at hcs
  obtain ⟨rfl, rfl, rfl⟩ := hcs
  rw [← List.flatMap_def] at hs
  exact ⟨l, ⟨hs, Nat.le_trans hl (Nat.le_trans hm (Nat.le_of_eq maxLen_is))⟩, hg⟩
end
theorem idx_spn (N : Nat) (HE : ∀ (args : Array Value) (w : World), (callFunc N args).run Try.prog w = .ok (.enter N args) w) (cps : Array Value) (p : Int × Int → Bool) (I : World → Prop) (hI : ∀ W W', I W → Below W.heap.size W W' → I W')
    (l : List (Int × Int)) (HP : ∀ (W : World) (r : Int × Int), r ∈ l → I W → Calls Try.prog N (#[.agg #[.int .i64 r.1, .int .i64 r.2]] ++ cps) W fun e w' => e = .returned (.bool (p r)) ∧ Below W.heap.size W w')
    (s : Value) (w : World) (hs : Ps w s l) (hw : I w) :
    Calls Try.prog 82 #[s, .func (.func N) #[] cps] w fun e w' => e = .returned (.int .i64 (idxP p 0 l)) ∧ Below w.heap.size w w' := by
  have HI0 := Lib.hid hw
  have HP0 := Lib.hid HP
  have HII := Lib.hid hI
  clear hw HP hI
  by_cases h0 : l.length = 0
  · obtain ⟨ad, cap, rfl⟩ := hs.form
    have hn2 : l = [] := List.length_eq_zero_iff.1 h0
    subst hn2
    show Calls Try.prog 82 #[.slice ad 0 cap, _] w fun e w' => e = .returned (.int .i64 (-1)) ∧ Below w.heap.size w w'
    go_enter Try.func82, Try.ntmps82
    go_wp2
    refine wp_loop_rounds 1 ?_
    rw [rounds_succ]
    go_wp2
    go_ret
    exact ⟨rfl, Below.refl _ _⟩
  · obtain ⟨g, off, cap, rfl, hc⟩ := hs.get h0
    have hl := hs.2
    obtain ⟨n, hnn⟩ : ∃ n, n = l.length := ⟨_, rfl⟩
    obtain ⟨Z, hZ⟩ : ∃ Z, idxP p 0 l = Z := ⟨_, rfl⟩
    have HN := Lib.hid hnn
    have HZ := Lib.hid hZ
    have HC := Lib.hid hc
    rw [← hnn] at h0 hl ⊢
    rw [hZ]
    clear hc hs hnn hZ
    go_enter Try.func82, Try.ntmps82
    go_wp2
    go_loopw [8] (fun i wr => ∃ k : Nat, k ≤ n ∧ i = .int .i64 k ∧ Hid (idxP p k (l.drop k) = Z) ∧ Below w.heap.size w wr) (fun i _ => n - (RowKit.intOf i).toNat)
    case atStart => exact ⟨0, Nat.zero_le _, rfl, Lib.hid HZ.out, Below.refl _ _⟩
    case round =>
      obtain ⟨k, hk, rfl, HI, hL⟩ := hrel
      by_cases hlt : k < n
      · obtain ⟨x, ht⟩ : ∃ t, l[k]? = some t := ⟨_, List.getElem?_eq_getElem (by rw [← HN.out]; exact hlt)⟩
        have hst := idxP_step p l k _ ht
        rw [HI.out] at hst
        obtain ⟨z0, z1⟩ := HC.out k x ht
        have d0 := Go.Proofs.Ytoadihclmnjjnaa.Sl.cell_kept z0 hL
        have d1 := Go.Proofs.Ytoadihclmnjjnaa.Sl.cell_kept z1 hL
        have HB := HP0.out wr x (List.mem_of_getElem? ht) (HII.out _ _ HI0.out hL)
        have k0 : (0 : Int) ≤ (k : Int) := by omega
        have k1 : (k : Int) < (n : Int) := by omega
        clear ht z0 z1
        generalize p x = px at HB hst
        obtain ⟨xi, xj⟩ := x
        dsimp only at HB d0 d1
        cases px
        · have HS2 : Hid (idxP p (k + 1) (l.drop (k + 1)) = Z) := Lib.hid (by rw [if_neg (by simp)] at hst; exact hst.symm)
          clear hst
          go_wp2_with (with_reducible refine HB.mono ?_; rintro e w1 ⟨rfl, hb⟩; have hL2 := bstep hL hb; clear hb)
          go_roundw
          case rel => exact ⟨k + 1, by omega, by go_num, HS2, hL2⟩
          case measure => simp [RowKit.intOf]; omega
        · have HS2 : Hid (Z = k) := Lib.hid (by rw [if_pos rfl] at hst; exact hst)
          clear hst
          go_wp2_with (with_reducible refine HB.mono ?_; rintro e w1 ⟨rfl, hb⟩; have hL2 := bstep hL hb; clear hb)
          go_ret
          exact ⟨by rw [HS2.out]; rfl, hL2⟩
      · go_wp2
        go_ret
        exact ⟨by show Ending.returned (.int .i64 (-1)) = _; rw [← HI.out, List.drop_of_length_le (by rw [← HN.out]; omega)]; rfl, hL⟩
theorem contains_spn (N : Nat) (HE : ∀ (args : Array Value) (w : World), (callFunc N args).run Try.prog w = .ok (.enter N args) w) (cps : Array Value) (p : Int × Int → Bool) (I : World → Prop) (hI : ∀ W W', I W → Below W.heap.size W W' → I W')
    (l : List (Int × Int)) (HP : ∀ (W : World) (r : Int × Int), r ∈ l → I W → Calls Try.prog N (#[.agg #[.int .i64 r.1, .int .i64 r.2]] ++ cps) W fun e w' => e = .returned (.bool (p r)) ∧ Below W.heap.size W w')
    (s : Value) (w : World) (hs : Ps w s l) (hw : I w) :
    Calls Try.prog 44 #[s, .func (.func N) #[] cps] w fun e w' => e = .returned (.bool (l.any p)) ∧ Below w.heap.size w w' := by
  have HX := idx_spn N HE cps p I hI l HP s w hs hw
  have HZ := Lib.hid (idxP_pos p l)
  obtain ⟨ad, cap, rfl⟩ := hs.form
  clear hs hw HP HE hI
  generalize l.length = n at *
  generalize l.any p = Z at *
  generalize idxP p 0 l = x at *
  go_enter Try.func44, Try.ntmps44
  go_wp2_with (go_at_call 82; (with_reducible refine HX.mono ?_); rintro e w1 ⟨rfl, hb1⟩)
  go_ret
  exact ⟨by show Ending.returned (.bool (decide (0 ≤ x))) = _; rw [HZ.out], hb1⟩

/-- The law's matrix at a matrix. -/
theorem mat1_any (n : Nat) (BN : Nat) (ad : Option Addr) (c : Nat) (w : World) (hc : w.cell? ⟨BN, 0, none⟩ = some (.int .i64 (n : Int))) : Calls Try.prog 74 #[.slice ad n c, .pointer (some ⟨BN, 0, none⟩)] w fun e w' => e = .returned (.bool false) ∧ w = w' := by
  go_enter Try.func74, Try.ntmps74
  go_wp2
  go_ret
  exact ⟨rfl, rfl⟩
set_option maxHeartbeats 4000000 in
theorem idx_rows (n B BN c : Nat) (R : Nat → Nat) (M : Mt) (w : World) (hn : n ≤ 1000000) (hM : Mx w B R n M) (hc : w.cell? ⟨BN, 0, none⟩ = some (.int .i64 (n : Int))) :
    Calls Try.prog 93 #[.slice (some ⟨B, 0, none⟩) n c, .func (.func 74) #[] #[.pointer (some ⟨BN, 0, none⟩)]] w fun e w' => e = .returned (.int .i64 (-1)) ∧ w = w' := by
  have HM := Lib.hid hM
  clear hM
  go_enter Try.func93, Try.ntmps93
  go_wp2
  go_loopw [8] (fun iv wr => ∃ k, k ≤ n ∧ iv = .int .i64 (k : Int) ∧ w = wr) (fun iv _ => n - (RowKit.intOf iv).toNat)
  case atStart => exact ⟨0, Nat.zero_le _, rfl, rfl⟩
  case round =>
    obtain ⟨k, hk, rfl, rfl⟩ := hrel
    by_cases hkn : k < n
    · have k0 : (0 : Int) ≤ (k : Int) := by omega
      have k1 : (k : Int) < (n : Int) := by omega
      obtain ⟨ck, hck, d1⟩ := HM.out.cap hkn
      go_wp2_with (go_at_call 74; (with_reducible refine (mat1_any n BN _ _ _ hc).mono ?_); rintro e w1 ⟨rfl, rfl⟩)
      go_roundw
      case rel => exact ⟨k + 1, by omega, by go_num, trivial⟩
      case measure => simp [RowKit.intOf]; omega
    · obtain rfl : k = n := by omega
      go_wp2
      go_ret
      exact ⟨rfl, rfl⟩
theorem contains_rows (n B BN c : Nat) (R : Nat → Nat) (M : Mt) (w : World) (hn : n ≤ 1000000) (hM : Mx w B R n M) (hc : w.cell? ⟨BN, 0, none⟩ = some (.int .i64 (n : Int))) :
    Calls Try.prog 73 #[.slice (some ⟨B, 0, none⟩) n c, .func (.func 74) #[] #[.pointer (some ⟨BN, 0, none⟩)]] w fun e w' => e = .returned (.bool false) ∧ w = w' := by
  have HX := idx_rows n B BN c R M w hn hM hc
  clear hM hc
  go_enter Try.func73, Try.ntmps73
  go_wp2_with (go_at_call 93; (with_reducible refine HX.mono ?_); rintro e w1 ⟨rfl, rfl⟩)
  go_ret
  exact ⟨rfl, rfl⟩
theorem lmatrix_any (n B c : Nat) (R : Nat → Nat) (M : Mt) (w : World) (hn : n ≤ 1000000) (hM : Mx w B R n M) :
    Calls Try.prog 34 #[.int .i64 (n : Int), .slice (some ⟨B, 0, none⟩) n c] w fun e w' => e = .returned (.bool true) ∧ Below w.heap.size w w' := by
  have HX := fun W (h : Below w.heap.size w W) (hc : W.cell? ⟨w.heap.size, 0, none⟩ = some (.int .i64 (n : Int))) => contains_rows n B w.heap.size c R M W hn (hM.below h) hc
  clear hM
  go_enter Try.func34, Try.ntmps34
  go_wp2_with (go_at_call 73; (with_reducible refine (HX _ (by go_grown) (by simp)).mono ?_); rintro e w1 ⟨rfl, rfl⟩)
  go_ret
  exact ⟨rfl, by go_grown⟩

end Go.Proofs.Ytoadihclmnjjnaa.Nw
