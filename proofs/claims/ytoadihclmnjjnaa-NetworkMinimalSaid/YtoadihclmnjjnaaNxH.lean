/-
  Networks: the closure of the law NetworkMinimal (layer 46).
-/
import Derived.Test.YtoadihclmnjjnaaNxG
import Derived.Test.YtoadihclmnjjnaaNwZ
import Derived.Test.YtoadihclmnjjnaaNop
set_option linter.unusedSimpArgs false
set_option linter.unusedVariables false
set_option maxRecDepth 100000
namespace Go.Proofs.Ytoadihclmnjjnaa.Nw
open Go Go.RowKit Go.ChangeShapes Go.WideShapes Go.Proofs.Ytoadihclmnjjnaa.Sl Go.Proofs.Ytoadihclmnjjnaa.Al Go.Lib

theorem Is.below {w w' : World} {s : Value} {ks : List Nat} (h : Is w s ks) (hb : Below w.heap.size w w') : Is w' s ks := Sl.below h hb
/-- The first q places of ks, but that at z. -/
def pkL (ks : List Nat) (z : Int) : Nat → List Nat
  | 0 => []
  | q + 1 => if (q : Int) = z then pkL ks z q else pkL ks z q ++ [ks.getD q 0]
theorem pkL_len (ks : List Nat) (z : Int) : ∀ q, (pkL ks z q).length ≤ q
  | 0 => Nat.le_refl _
  | q + 1 => by
    have := pkL_len ks z q
    unfold pkL
    split
    · omega
    · rw [List.length_append, List.length_singleton]; omega
theorem pkL_mem (ks : List Nat) (z : Int) (x : Nat) : ∀ q, q ≤ ks.length → (x ∈ pkL ks z q ↔ ∃ i, i < q ∧ (i : Int) ≠ z ∧ ks[i]? = some x)
  | 0, _ => by
    constructor
    · intro h; cases h
    · rintro ⟨i, h, _⟩; omega
  | q + 1, hq => by
    have ih := pkL_mem ks z x q (by omega)
    have hget : ks[q]? = some (ks.getD q 0) := by rw [List.getD_eq_getElem?_getD, List.getElem?_eq_getElem (show q < ks.length by omega)]; rfl
    unfold pkL
    split
    · rename_i e
      rw [ih]
      constructor
      · rintro ⟨i, h1, h2, h3⟩; exact ⟨i, by omega, h2, h3⟩
      · rintro ⟨i, h1, h2, h3⟩; exact ⟨i, by omega, h2, h3⟩
    · rename_i e
      rw [List.mem_append, ih, List.mem_singleton]
      constructor
      · rintro (⟨i, h1, h2, h3⟩ | rfl)
        · exact ⟨i, by omega, h2, h3⟩
        · exact ⟨q, by omega, e, hget⟩
      · rintro ⟨i, h1, h2, h3⟩
        by_cases e2 : i = q
        · subst e2
          rw [hget] at h3
          cases h3
          exact Or.inr rfl
        · exact Or.inl ⟨i, by omega, h2, h3⟩
theorem selL_app (l : List Rl) (a : List Nat) (k : Nat) : selL l (a ++ [k]) = selL l a ++ [l.getD k default] := by
  unfold selL
  rw [List.map_append]; rfl
/-- What pick returns. -/
def PkE (l : List Rl) (ks : List Nat) (z : Int) (w : World) (e : Ending) (w' : World) : Prop := ∃ v, e = .returned v ∧ Rf w w' v (selL l (pkL ks z ks.length))
set_option maxHeartbeats 4000000 in
theorem pick_any (BK BL : Nat) (l : List Rl) (s kv : Value) (ks : List Nat) (z : Int) (w : World) (hs : Rs w s l) (hl : l.length ≤ 200) (hks : Is w kv ks) (hkl : ks.length ≤ 200) (hk : ∀ k ∈ ks, k < l.length)
    (c1 : w.cell? ⟨BK, 0, none⟩ = some kv) (c2 : w.cell? ⟨BL, 0, none⟩ = some s) :
    Calls Try.prog 17 #[.int .i64 z, .pointer (some ⟨BK, 0, none⟩), .pointer (some ⟨BL, 0, none⟩)] w (PkE l ks z w) := by
  obtain ⟨ad, cap, rfl⟩ := hs.form
  obtain ⟨ad2, cap2, rfl⟩ := hks.form
  obtain ⟨m, hm⟩ : ∃ m, m = ks.length := ⟨_, rfl⟩
  obtain ⟨L, hL⟩ : ∃ L, L = l.length := ⟨_, rfl⟩
  have HS := Lib.hid hs
  have HKS := Lib.hid hks
  have HM := Lib.hid hm
  have HL := Lib.hid hL
  have HKL := Lib.hid hk
  have hm2 : m ≤ 200 := by omega
  have hL2 : (L : Int) ≤ 200 := by omega
  rw [← hm] at c1
  rw [← hL] at c2
  have hb1 := block_of_cell c1
  have hb2 := block_of_cell c2
  unfold PkE
  rw [← hm]
  clear hs hks hm hL hk hl hkl
  go_enter Try.func17, Try.ntmps17
  go_wp2
  go_loopw [5, 10] (fun v iv wr => ∃ q, q ≤ m ∧ iv = .int .i64 (q : Int) ∧ Rf w wr v (selL l (pkL ks z q))) (fun _ iv _ => m - (RowKit.intOf iv).toNat)
  case atStart => exact ⟨0, Nat.zero_le _, rfl, Rf.nil w⟩
  case round =>
    obtain ⟨q, hq, rfl, hR⟩ := hrel
    by_cases hqm : q < m
    · obtain ⟨g, off, cp, e1, hcl⟩ := HKS.out.open (by rw [← HM.out]; omega)
      rw [← HM.out] at e1
      cases e1
      obtain ⟨k, ht⟩ : ∃ t, ks[q]? = some t := ⟨_, List.getElem?_eq_getElem (by rw [← HM.out]; exact hqm)⟩
      have y0 := Go.Proofs.Ytoadihclmnjjnaa.Sl.cell_kept (is_get hcl ht) hR.2
      have hkk := HKL.out k (List.mem_of_getElem? ht)
      obtain ⟨gl, ol, cl, e2, hcr⟩ := HS.out.get (by omega)
      rw [← HL.out] at e2
      cases e2
      obtain ⟨x, hx⟩ : ∃ x, l[k]? = some x := ⟨_, List.getElem?_eq_getElem hkk⟩
      have hxd : l.getD k default = x := by rw [List.getD_eq_getElem?_getD, hx]; rfl
      obtain ⟨z0, z1, z2⟩ := hcr k x hx
      have z0 := Go.Proofs.Ytoadihclmnjjnaa.Sl.cell_kept z0 hR.2
      have z1 := Go.Proofs.Ytoadihclmnjjnaa.Sl.cell_kept z1 hR.2
      have z2 := Go.Proofs.Ytoadihclmnjjnaa.Sl.cell_kept z2 hR.2
      have y2 := Go.Proofs.Ytoadihclmnjjnaa.Sl.cell_kept c2 hR.2
      have k0 : (0 : Int) ≤ (k : Int) := by omega
      have k1 : (k : Int) < (L : Int) := by rw [HL.out]; omega
      have q0 : (0 : Int) ≤ (q : Int) := by omega
      have q1 : (q : Int) < (m : Int) := by omega
      have hkd : ks.getD q 0 = k := by rw [List.getD_eq_getElem?_getD, ht]; rfl
      have hlen : (selL l (pkL ks z q)).length ≤ 1000000 := by have := pkL_len ks z q; unfold selL; rw [List.length_map]; omega
      by_cases hz : (q : Int) = z
      · subst hz
        have HST := Lib.hid (show pkL ks (q : Int) (q + 1) = pkL ks (q : Int) q from if_pos rfl)
        have gz : ((q : Int) != (q : Int)) = false := by simp
        clear hcl hcr ht hx hxd hkk hkd
        go_wp2
        go_roundw
        case rel => exact ⟨q + 1, by omega, by go_num, by rw [HST.out]; exact hR⟩
        case measure => simp [RowKit.intOf]; omega
      · have hst : selL l (pkL ks z (q + 1)) = selL l (pkL ks z q) ++ [x] := by
          rw [show pkL ks z (q + 1) = pkL ks z q ++ [ks.getD q 0] from if_neg hz, selL_app, hkd, hxd]
        have HST := Lib.hid hst
        have gz : ((q : Int) != z) = true := by simp; exact hz
        clear hcl hcr ht hx hxd hkk hkd hst hz
        go_wp2_with (at_builtin; refine wp_rel hR rfl (.tmp 18) (.tmp 23) rfl rfl 30 rfl (by simp) x hlen ?_; intro v1 w1 hR1)
        go_roundw
        case rel => exact ⟨q + 1, by omega, by go_num, by rw [HST.out]; exact hR1⟩
        case measure => simp [RowKit.intOf]; omega
    · obtain rfl : q = m := by omega
      go_wp2
      go_ret
      exact ⟨_, rfl, hR⟩
end Go.Proofs.Ytoadihclmnjjnaa.Nw
