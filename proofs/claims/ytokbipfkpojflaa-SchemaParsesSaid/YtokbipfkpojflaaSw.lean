/-
  The reference's Valid is the program's (plain law, layer 34).
-/
import Derived.Test.YtokbipfkpojflaaSv
set_option linter.unusedSimpArgs false
set_option linter.unusedVariables false
namespace Go.Proofs.Ytokbipfkpojflaa.Sc
open Go Go.RowKit Go.Proofs.Ytokbipfkpojflaa.Sl Go.Proofs.Ytokbipfkpojflaa.Va Go.Lib

theorem has_iff (zs : List ByteArray) (s : ByteArray) : Lib.containsS zs s = true ↔ s ∈ zs := by
  unfold Lib.containsS
  rw [decide_eq_true_eq]
  exact Lib.idxOfS_nonneg_iff zs s
theorem idx_at (x : ByteArray) : ∀ (l : List Cl) (k i : Nat) (c : Cl), l[i]? = some c → c.1 = x → (idxC x k l = ((k + i : Nat) : Int) ↔ x ∉ (l.take i).map (·.1))
  | [], k, i, c, h, _ => by simp at h
  | d :: l, k, i, c, h, hx => by
    unfold idxC
    by_cases hd : d.1 = x
    · rw [if_pos hd]
      cases i with
      | zero => simp
      | succ i =>
        constructor
        · intro e; omega
        · intro e
          exact absurd (by simp [hd]) e
    · rw [if_neg hd]
      cases i with
      | zero =>
        simp at h
        rw [h] at hd
        exact absurd hx hd
      | succ i =>
        have := idx_at x l (k + 1) i c (by simpa using h) hx
        rw [show k + (i + 1) = k + 1 + i by omega, this]
        have hd2 : ¬ x = d.1 := fun e => hd e.symm
        simp [hd2]
theorem rcol_dist (l : List Cl) : ∀ (d i : Nat), l.length - i = d → rcolG l i (l.drop i) = (distL ((l.map (·.1)).take i) ((l.map (·.1)).drop i) && (l.drop i).all fun c => decide (1 ≤ c.2) && decide (c.2 ≤ 4)) := by
  intro d
  induction d with
  | zero =>
    intro i hd
    rw [List.drop_of_length_le (by omega), List.drop_of_length_le (by rw [List.length_map]; omega)]
    rfl
  | succ d ih =>
    intro i hd
    have hi : i < l.length := by omega
    have hc : l[i]? = some l[i] := List.getElem?_eq_getElem hi
    have hn : (l.map (·.1))[i]? = some l[i].1 := by rw [List.getElem?_map, hc]; rfl
    rw [rcolG_step l l i _ hc, distL_step _ i _ hn, all_stp _ l i _ hc, ih (i + 1) (by omega)]
    have key : decide (idxC l[i].1 0 l = (i : Int)) = !Lib.containsS ((l.map (·.1)).take i) l[i].1 := by
      have h := idx_at l[i].1 l 0 i _ hc rfl
      rw [Nat.zero_add, List.map_take] at h
      rw [Bool.eq_iff_iff, decide_eq_true_eq, h, Bool.not_eq_true', ← Bool.not_eq_true, has_iff]
    unfold rcolB
    rw [key]
    generalize nmB l[i].1 = a
    generalize Lib.containsS ((l.map (·.1)).take i) l[i].1 = b
    generalize decide (1 ≤ l[i].2) = e
    generalize decide (l[i].2 ≤ 4) = f
    generalize distL ((l.map (·.1)).take (i + 1)) ((l.map (·.1)).drop (i + 1)) = g
    generalize (l.drop (i + 1)).all (fun c => decide (1 ≤ c.2) && decide (c.2 ≤ 4)) = h
    cases a <;> cases b <;> cases e <;> cases f <;> cases g <;> cases h <;> rfl
theorem idx_mem (x : ByteArray) : ∀ (l : List Cl) (k : Nat), 0 ≤ idxC x k l → x ∈ l.map (·.1)
  | [], k, h => by simp [idxC] at h
  | d :: l, k, h => by
    unfold idxC at h
    by_cases hd : d.1 = x
    · simp [hd]
    · rw [if_neg hd] at h
      have := idx_mem x l (k + 1) h
      rw [List.map_cons]
      exact List.mem_cons_of_mem _ this
theorem rfr_dist (cols : List Cl) (hc : ∀ c ∈ cols, nmB c.1 = true) : ∀ (l seen : List ByteArray), rfrG cols seen l = (distL seen l && l.all fun c => decide (0 ≤ idxC c 0 cols))
  | [], seen => rfl
  | c :: l, seen => by
    unfold rfrG distL
    rw [rfr_dist cols hc l (seen ++ [c]), List.all_cons]
    by_cases h : 0 ≤ idxC c 0 cols
    · have hn : nmB c = true := by
        obtain ⟨d, hd, e⟩ := List.mem_map.1 (idx_mem c cols 0 h)
        rw [← e]; exact hc d hd
      rw [decide_eq_true h, hn]
      generalize Lib.containsS seen c = b
      generalize distL (seen ++ [c]) l = g
      cases b <;> cases g <;> rfl
    · rw [decide_eq_false h]
      simp
theorem rvld_is (s : Sch) : rvldS s = vldS s := by
  have e1 := rcol_dist s.cols s.cols.length 0 (by omega)
  simp only [List.drop_zero, List.take_zero] at e1
  unfold rvldS vldS rhdS
  rw [e1]
  by_cases hd : distL [] (s.cols.map (·.1)) = true
  · have hc : ∀ c ∈ s.cols, nmB c.1 = true := by
      have key : ∀ (l seen : List ByteArray), distL seen l = true → ∀ x ∈ l, nmB x = true := by
        intro l
        induction l with
        | nil => intro seen h x hx; simp at hx
        | cons y l ih =>
          intro seen h x hx
          unfold distL at h
          simp only [Bool.and_eq_true] at h
          rcases List.mem_cons.1 hx with rfl | hx
          · exact h.1.1
          · exact ih _ h.2 x hx
      exact fun c hc => key _ _ hd c.1 (List.mem_map_of_mem hc)
    have e2 : s.frn.all (rfrB s.cols) = s.frn.all (frB s.cols) := by
      congr 1
      funext f
      unfold rfrB frB
      rw [rfr_dist s.cols hc f.cols []]
      simp only [Bool.and_assoc]
    rw [e2]
    simp only [Bool.and_assoc]
  · rw [Bool.not_eq_true] at hd
    rw [hd]
    simp
theorem rvalid_any (s : Sch) (a1 a2 : Option Addr) (c1 c2 : Nat) (w : World) (hs : Cs w (.slice a1 s.cols.length c1) s.cols) (hf : FsAt w (.slice a2 s.frn.length c2) s.frn) :
    Calls Try.prog 13 #[agS s.name (.slice a1 s.cols.length c1) s.key (.slice a2 s.frn.length c2)] w fun e w' => e = .returned (.bool (vldS s)) ∧ Below w.heap.size w w' := by
  rw [← rvld_is]
  unfold rvldS
  cases h : rhdS s
  · rw [Bool.false_and, Bool.false_and]
    exact rvalid_hd s.name s.key a1 a2 _ _ c1 c2 w h
  · rw [Bool.true_and]
    exact rvalid_go s.name s.key a1 a2 _ _ c1 c2 s.cols s.frn w rfl rfl hs hf h
end Go.Proofs.Ytokbipfkpojflaa.Sc
