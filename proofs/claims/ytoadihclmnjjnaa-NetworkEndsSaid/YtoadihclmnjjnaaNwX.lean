/-
  Networks: a matrix that is made row by row; copyOf (layer 46).
-/
import Derived.Test.YtoadihclmnjjnaaNwM
import Derived.Test.YtoadihclmnjjnaaShelf
import Derived.Laws.MakeOwn
set_option linter.unusedSimpArgs false
set_option linter.unusedVariables false
set_option maxRecDepth 100000
namespace Go.Proofs.Ytoadihclmnjjnaa.Nw
open Go Go.RowKit Go.ChangeShapes Go.WideShapes Go.Proofs.Ytoadihclmnjjnaa.Sl Go.Proofs.Ytoadihclmnjjnaa.Al Go.Lib

theorem infoI : (Try.prog.info? 3).map (fun i => (i.zero, i.size, i.bytes)) = some (some (.int .i64 0), 1, 8) := by kernel_rfl
theorem infoSl : (Try.prog.info? 25).map (fun i => (i.zero, i.size, i.bytes)) = some (some (.slice none 0 0), 1, 24) := by kernel_rfl
theorem made_one (u : Value) (n : Nat) : madeCells #[u] (n * 1) = Array.replicate n u := by
  rw [Nat.mul_one]
  apply Array.ext
  · simp [madeCells]
  · intro i h1 h2
    simp [madeCells, Nat.mod_one]
theorem mk_rows (n : Nat) (hn : n ≤ 1000000) (w : World) : (Instr.makeSlice 32 (.int .i64 (n : Int)) (.int .i64 (n : Int))).run Try.prog w = .ok (.slice (some ⟨w.heap.size, 0, none⟩) n n) (w.alloc (.cells (Array.replicate n (.slice none 0 0)) 25)) := by
  obtain ⟨i0, hi, hz0, hz1, hz2⟩ := info_parts infoSl
  have h := run_make (P := Try.prog) w 32 25 i0 (.slice none 0 0) Try.underlying32 hi hz0 .i64 .i64 n n (by omega) (Int.le_refl _) (by rw [hz2]; omega) (by omega)
  rw [Int.toNat_natCast, hz1] at h
  rw [h, show Value.cells (.slice none 0 0) = #[.slice none 0 0] from rfl, made_one]
theorem mk_ints (n : Nat) (hn : n ≤ 1000000) (w : World) : (Instr.makeSlice 25 (.int .i64 (n : Int)) (.int .i64 (n : Int))).run Try.prog w = .ok (.slice (some ⟨w.heap.size, 0, none⟩) n n) (w.alloc (.cells (Array.replicate n (.int .i64 0)) 3)) := by
  obtain ⟨i0, hi, hz0, hz1, hz2⟩ := info_parts infoI
  have h := run_make (P := Try.prog) w 25 3 i0 (.int .i64 0) Try.underlying25 hi hz0 .i64 .i64 n n (by omega) (Int.le_refl _) (by rw [hz2]; omega) (by omega)
  rw [Int.toNat_natCast, hz1] at h
  rw [h, show Value.cells (.int .i64 0) = #[.int .i64 0] from rfl, made_one]
/-- A matrix whose first i rows are there. -/
structure Px (w : World) (B : Nat) (R : Nat → Nat) (n i : Nat) (M : Mt) : Prop where
  top : ∃ cs t, w.heap[B]? = some (.cells cs t (0, 0)) ∧ n ≤ cs.size ∧ ∀ k, k < i → ∃ c, n ≤ c ∧ cs[k]? = some (.slice (some ⟨R k, 0, none⟩) n c)
  row : ∀ k, k < i → Rw w (R k) n (M k)
  off : ∀ k, k < i → R k ≠ B
  inj : ∀ j k, j < i → k < i → R j = R k → j = k
theorem Px.mx {w : World} {B : Nat} {R : Nat → Nat} {n : Nat} {M : Mt} (h : Px w B R n n M) : Mx w B R n M := by
  refine ⟨?_, h.row, h.off, h.inj⟩
  obtain ⟨cs, t, h1, _, h2⟩ := h.top
  exact ⟨cs, t, h1, h2⟩
theorem Px.start (w : World) (n : Nat) (u : Value) (t : TypeId) (M : Mt) (R : Nat → Nat) : Px (w.alloc (.cells (Array.replicate n u) t)) w.heap.size R n 0 M :=
  ⟨⟨_, t, heap_alloc_new w _, by simp, fun k hk => by omega⟩, fun k hk => by omega, fun k hk => by omega, fun j k hj => by omega⟩
theorem Px.ltB {w : World} {B : Nat} {R : Nat → Nat} {n i : Nat} {M : Mt} (h : Px w B R n i M) : B < w.heap.size := by
  obtain ⟨cs, t, hh, _⟩ := h.top
  exact (Array.getElem?_eq_some_iff.1 hh).1
theorem Px.ltR {w : World} {B : Nat} {R : Nat → Nat} {n i : Nat} {M : Mt} (h : Px w B R n i M) {k : Nat} (hk : k < i) : R k < w.heap.size := (h.row k hk).lt
theorem Px.keep {S : Nat → Prop} {w w' : World} {B : Nat} {R : Nat → Nat} {n i : Nat} {M : Mt} (h : Px w B R n i M) (hd : Md S w w') (hB : ¬ S B) (hR : ∀ k, k < i → ¬ S (R k)) : Px w' B R n i M := by
  refine ⟨?_, fun k hk => (h.row k hk).congr (hd.block _ (h.ltR hk) (hR k hk)) fun _ _ => rfl, h.off, h.inj⟩
  obtain ⟨cs, t, hh, hc⟩ := h.top
  exact ⟨cs, t, (hd.block _ h.ltB hB).trans hh, hc⟩
theorem Px.below {w w' : World} {B : Nat} {R : Nat → Nat} {n i : Nat} {M : Mt} (h : Px w B R n i M) (hb : Below w.heap.size w w') : Px w' B R n i M := h.keep (S := fun _ => False) (Md.of_below hb) (fun h => h) (fun _ _ h => h)
theorem Px.any {w : World} {B : Nat} {R : Nat → Nat} {n i : Nat} {M : Mt} (h : Px w B R n i M) {k : Nat} (hk : k < n) : ∃ u, w.cell? ⟨B, k, none⟩ = some u := by
  obtain ⟨cs, t, hh, hs, _⟩ := h.top
  exact ⟨cs[k], by rw [cell_of_row _ _ k _ _ _ hh]; exact Array.getElem?_eq_getElem (by omega)⟩
theorem Px.frozen {w : World} {B : Nat} {R : Nat → Nat} {n i : Nat} {M : Mt} (h : Px w B R n i M) (k : Nat) : w.frozen? ⟨B, k, none⟩ = false := by
  obtain ⟨cs, t, hh, hc⟩ := h.top
  simp [World.frozen?, hh]
theorem Px.put {w : World} {B : Nat} {R : Nat → Nat} {n i g c : Nat} {M : Mt} (h : Px w B R n i M) (hi : i < n) (hr : Rw w g n (M i)) (hg : g ≠ B) (hn : ∀ k, k < i → R k ≠ g) (hc : n ≤ c) :
    Px (w.setCell ⟨B, i, none⟩ (.slice (some ⟨g, 0, none⟩) n c)) B (fun k => if k = i then g else R k) n (i + 1) M := by
  refine ⟨?_, fun k hk => ?_, fun k hk => ?_, fun j k hj hk e => ?_⟩
  · obtain ⟨cs, t, hh, hs, hcs⟩ := h.top
    have hlt := (Array.getElem?_eq_some_iff.1 hh).1
    have he := (Array.getElem?_eq_some_iff.1 hh).2
    have his : i < cs.size := by omega
    refine ⟨cs.set i (.slice (some ⟨g, 0, none⟩) n c) his, t, ?_, by simpa using hs, fun k hk => ?_⟩
    · unfold World.setCell
      simp [hh, his, hlt, Array.getElem_modify, he, Array.setIfInBounds]
    · by_cases e : k = i
      · subst e
        exact ⟨c, hc, by simp⟩
      · obtain ⟨c', h1, h2⟩ := hcs k (by omega)
        exact ⟨c', h1, by rw [Array.getElem?_set, if_neg (Ne.symm e), h2]; simp [e]⟩
  · by_cases e : k = i
    · subst e
      rw [if_pos rfl]
      exact hr.congr (Below.heap_setCell _ _ _ _ hg) fun _ _ => rfl
    · rw [if_neg e]
      exact (h.row k (by omega)).congr (Below.heap_setCell _ _ _ _ (h.off k (by omega))) fun _ _ => rfl
  · by_cases e : k = i
    · rw [if_pos e]; exact hg
    · rw [if_neg e]; exact h.off k (by omega)
  · by_cases e1 : j = i
    · by_cases e2 : k = i
      · omega
      · rw [if_pos e1, if_neg e2] at e
        exact absurd e.symm (hn k (by omega))
    · by_cases e2 : k = i
      · rw [if_neg e1, if_pos e2] at e
        exact absurd e (hn j (by omega))
      · rw [if_neg e1, if_neg e2] at e
        exact h.inj j k (by omega) (by omega) e
theorem Rw.of_owns {w : World} {base n : Nat} {t : TypeId} {v : Value} {xs : List Value} {f : Nat → Nat} (h : w.ownsRow base t 1 v n xs) (hn : 0 < n) (hf : ∀ j, j < n → xs[j]? = some (.int .i64 ((f j : Nat) : Int))) :
    ∃ g cap, v = .slice (some ⟨g, 0, none⟩) n cap ∧ base ≤ g ∧ n ≤ cap ∧ Rw w g n f := by
  obtain ⟨h1, ⟨_, rfl⟩ | ⟨g, cap, cur, rfl, hb, hh, hc, hm, hs, ht⟩⟩ := h
  · omega
  · refine ⟨g, cap, rfl, hb, hc, cur, t, hh, fun j hj => ?_⟩
    have := hf j hj
    rw [← ht, Nat.mul_one, List.getElem?_take, if_pos hj, Array.getElem?_toList] at this
    exact this
/-- The numbers of a row. -/
def rowZ (n : Nat) (f : Nat → Nat) : List Int := (List.range n).map fun j => ((f j : Nat) : Int)
theorem rowZ_len (n : Nat) (f : Nat → Nat) : (rowZ n f).length = n := by simp [rowZ]
theorem rowZ_get (n : Nat) (f : Nat → Nat) (j : Nat) (hj : j < n) : (rowZ n f).getD j 0 = ((f j : Nat) : Int) := by
  simp [rowZ, List.getD_eq_getElem?_getD, hj]
theorem clone_row (g n c : Nat) (f : Nat → Nat) (w : World) (hn : 0 < n) (hn2 : n ≤ 1000000) (h : Rw w g n f) : Calls Try.prog 55 #[.slice (some ⟨g, 0, none⟩) n c] w fun e w' => ∃ q cap, e = .returned (.slice (some ⟨q, 0, none⟩) n cap) ∧ w.heap.size ≤ q ∧ n ≤ cap ∧ Rw w' q n f ∧ Below w.heap.size w w' := by
  refine (Try.slices_Clone_int g 0 n c (rowZ n f) w (by rw [rowZ_len]; exact Nat.le_refl _) (by omega) (fun j hj => by
    rw [rowZ_len] at hj
    rw [rowZ_get n f j hj, Nat.zero_add]
    exact h.cell hj)).mono ?_
  rintro e w' ⟨v, rfl, ho, _, hb⟩
  obtain ⟨q, cap, rfl, h1, h2, h3⟩ := Rw.of_owns (f := f) ho hn (fun j hj => by
    rw [List.take_of_length_le (by rw [rowZ_len]; exact Nat.le_refl _)]
    simp [rowZ, hj])
  exact ⟨q, cap, rfl, h1, h2, h3, hb⟩
set_option maxHeartbeats 4000000 in
theorem copy_any (B c n : Nat) (R : Nat → Nat) (M : Mt) (w : World) (hn : 0 < n) (hn2 : n ≤ 1000000) (hM : Mx w B R n M) :
    Calls Try.prog 83 #[.slice (some ⟨B, 0, none⟩) n c] w fun e w' => ∃ B' R', e = .returned (.slice (some ⟨B', 0, none⟩) n n) ∧ Mx w' B' R' n M ∧ w.heap.size ≤ B' ∧ (∀ i, i < n → w.heap.size ≤ R' i) ∧ Below w.heap.size w w' := by
  have HM0 := Lib.hid hM
  have HMK := fun W => mk_rows n hn2 W
  clear hM
  go_enter Try.func83, Try.ntmps83
  go_wp2
  go_loopw [11] (fun kv wr => ∃ k R', k ≤ n ∧ kv = .int .i64 (k : Int) ∧ Px wr w.heap.size R' n k M ∧ (∀ i, i < k → w.heap.size < R' i) ∧ Below w.heap.size w wr ∧ w.heap.size < wr.heap.size) (fun kv _ => n - (RowKit.intOf kv).toNat)
  case atStart => exact ⟨0, fun _ => 0, Nat.zero_le _, rfl, Px.start w n _ _ M _, fun i hi => by omega, by go_grown, by simp⟩
  case round =>
    obtain ⟨k, R', hk, rfl, hP, hR, hL, hs⟩ := hrel
    by_cases hkn : k < n
    · have hk0 : (0 : Int) ≤ (k : Int) := by omega
      have hk1 : (k : Int) < (n : Int) := by omega
      have hM := HM0.out.below hL
      obtain ⟨ck, hck, c1⟩ := hM.cap hkn
      have HCL := fun W (h : Rw W (R k) n (M k)) => clone_row (R k) n ck (M k) W hn hn2 h
      have HR := Lib.hid (hM.row k hkn)
      have HP := Lib.hid hP
      clear hM hP
      go_wp2_with (go_at_call 55; (with_reducible refine (HCL _ HR.out).mono ?_); rintro e w1 ⟨q, cap, rfl, hq, hcap, hrw, hb1⟩; have hP1 := HP.out.below hb1; obtain ⟨u0, x0⟩ := hP1.any hkn; have f0 := hP1.frozen k; have HP1 := Lib.hid hP1; have HRW := Lib.hid hrw; have hlt := hP1.ltB; clear hP1 hrw)
      go_roundw
      case rel =>
        refine ⟨k + 1, (fun j => if j = k then q else R' j), by omega, by go_num, HP1.out.put hkn HRW.out (by omega) (fun j hj e => ?_) hcap, fun j hj => ?_, (bstep hL hb1).setCell (Nat.le_refl _) _, by simpa [World.setCell] using hlt⟩
        · have := HP.out.ltR hj; omega
        · by_cases e : j = k
          · simp only [e, if_true]; omega
          · simp only [e, if_false]; exact hR j (by omega)
      case measure => simp [RowKit.intOf]; omega
    · obtain rfl : k = n := by omega
      have HP := Lib.hid hP
      clear hP
      go_wp2
      go_ret
      exact ⟨w.heap.size, R', rfl, HP.out.mx, Nat.le_refl _, fun i hi => by have := hR i hi; omega, hL⟩
end Go.Proofs.Ytoadihclmnjjnaa.Nw
