/-
  slices.Clone and slices.Delete at schemas (layer 34).
-/
import Derived.Test.YtokbipfkpojflaaScX
import Derived.Deep.Upon
import Derived.Lib.AppendZeros
import Derived.Lib.SliceRun
import Derived.Lib.SlBuf
import Derived.Deep.RegionLaw
set_option linter.unusedSimpArgs false
set_option linter.unusedVariables false
namespace Go.Proofs.Ytokbipfkpojflaa.Sc
open Go Go.RowKit Go.ChangeShapes Go.WideShapes Go.Proofs.Ytokbipfkpojflaa.Sl Go.Lib
open Go.Proofs.Ytokbipfkpojflaa.Va (Cl flatC Cs)

theorem infoS4 : (Try.prog.info? 28).map (fun i => (i.zero, i.size, i.bytes)) = some (some (.agg #[.string ⟨#[]⟩, .slice none 0 0, .int .i64 0, .slice none 0 0]), 4, 72) := by kernel_rfl
/-- A row of cells that was made behind W0. -/
structure ClF (W0 W : World) (g n cap : Nat) (xs : List Value) : Prop where
  hg : W0.heap.size ≤ g
  cell : ∀ j u, xs[j]? = some u → W.cell? ⟨g, j, none⟩ = some u
  fz : ∀ j, j < xs.length → W.frozen? ⟨g, j, none⟩ = false
  len : xs.length = n * 4
  cap : n ≤ cap ∧ cap ≤ maxLen
  one : ∀ u ∈ xs, u.oneCell' = true
  b : Below W0.heap.size W0 W
theorem run_app_sch (w : World) (g : Nat) (ad : Option Addr) (c : Nat) (ty : TypeId) : (Builtin.append_ #[22, 22] ty #[.slice (some ⟨g, 0, none⟩) 0 0, .slice ad 0 c]).run Try.prog w = .ok (.slice (some ⟨g, 0, none⟩) 0 0) w := by
  obtain ⟨i0, hi, hz0, hz1, hz2⟩ := info_parts infoS4
  refine run_append_nothing w _ _ ty _ i0 Try.underlying22 hi _ 0 0 (Nat.le_refl _) _ ⟨.inl ⟨_, Try.underlying22⟩, fun w' => ?_, ?_, ?_, by simp, nofun⟩
  · simp [Builtin.lenOf]
  · cases ad <;> simp [Builtin.firstCells, loadCells, loadCellsFrom]
  · cases ad <;> simp [Builtin.firstCells, loadCells, loadCellsFrom]
/-- append([]T{}, l...). -/
theorem wp_copysch {ops : Array Oper} {rest : List Oper} {o : Oper} {a : Act} {Q : Exit → Act → World → Prop} {w : World} {g off c n : Nat} {xs : List Value} (hc : ∀ j u, xs[j]? = some u → w.cell? ⟨g, off + j, none⟩ = some u) (hn : xs.length = n * 4) (h0 : n ≠ 0) (hl : n ≤ 1000000) (h1 : ∀ u ∈ xs, u.oneCell' = true) (hgd : o.guard = none) (s x : Operand)
    (ho : o.op = .call { callee := .builtin .append, args := #[s, x], argTypes := #[22, 22] }) (hs : a.eval s = .slice (some ⟨w.heap.size, 0, none⟩) 0 0) (hx : a.eval x = .slice (some ⟨g, off, none⟩) n c)
    (h : ∀ g2 cap2 w', ClF w w' g2 n cap2 xs → wpList Try.prog ops Q rest (a.put o.dst (.slice (some ⟨g2, 0, none⟩) n cap2)) w') : wpList Try.prog ops Q (o :: rest) a (w.alloc (.cells #[] 28)) := by
  obtain ⟨i0, hi, hz0, hz1, hz2⟩ := info_parts infoS4
  have hown : (w.alloc (.cells #[] 28)).ownsRow w.heap.size 28 4 (.slice (some ⟨w.heap.size, 0, none⟩) 0 0) 0 [] := ⟨rfl, .inr ⟨w.heap.size, 0, #[], rfl, Nat.le_refl _, heap_alloc_new w _, Nat.le_refl _, Nat.zero_le _, rfl, rfl⟩⟩
  have hbA : Below w.heap.size w (w.alloc (.cells #[] 28)) := (Below.refl _ _).alloc (Nat.le_refl _) _
  refine wpList_append_lies _ hgd s x _ ho w.heap.size _ i0 _ 4 72 Try.underlying22 hi hz0 hz1 hz2 rfl (by decide) _ 0 [] hs hown ⟨g, off, none⟩ n c xs hx hn (fun j u hu => ?_) h1 (by omega) (by unfold maxLen; omega) (by omega) (by simp) (w.heap.size + 1) (by simp) ?_
  · have hadd : (⟨g, off, none⟩ : Addr).add j = ⟨g, off + j, none⟩ := by unfold Addr.add; split <;> simp_all
    rw [hadd]
    exact Go.Proofs.Ytokbipfkpojflaa.Sl.cell_kept (hc j u hu) hbA
  · intro q cap w' h2 h3 _ _
    rw [List.nil_append] at h2
    rw [Nat.zero_add] at h2 ⊢
    obtain ⟨_, ⟨h4, h5⟩ | ⟨g2, cap2, cur, h4, h5, h6, h7, h8, h9, h10⟩⟩ := h2
    · exact absurd h5 h0
    · rw [Value.slice.injEq] at h4
      obtain ⟨h4, _, rfl⟩ := h4
      have hq : q = g2 := by cases h4; rfl
      subst hq
      have hcur : ∀ j u, xs[j]? = some u → cur[j]? = some u := fun j u hu => by
        rw [← h10, List.getElem?_take] at hu
        split at hu
        · simpa using hu
        · cases hu
      refine h q _ w' ⟨h5, fun j u hu => ?_, fun j hj => ?_, hn, ⟨h7, h8⟩, h1, hbA.grown h3 (by simp) (fun k hk => by cases hk; exact Nat.le_refl _)⟩
      · rw [cell_of_row _ _ j _ _ _ h6]; exact hcur j u hu
      · simp [World.frozen?, h6]
theorem sch_one {w : World} {rows : List (List Value)} {l : List Sch} (hl : rows.length = l.length) (h : ∀ (i : Nat) (r : List Value) (x : Sch), rows[i]? = some r → l[i]? = some x → ScAt w r x) : ∀ u ∈ rows.flatten, u.oneCell' = true := by
  intro u hu
  obtain ⟨r, hr, hu2⟩ := List.mem_flatten.1 hu
  obtain ⟨i, hi, e⟩ := List.mem_iff_getElem.1 hr
  obtain ⟨a1, c1, a2, c2, e2, _⟩ := (h i r (l[i]'(by omega)) (by rw [List.getElem?_eq_getElem hi, e]) (List.getElem?_eq_getElem (by omega))).shape
  rw [e2] at hu2
  simp at hu2
  rcases hu2 with rfl | rfl | rfl | rfl <;> rfl
theorem flat_len4 : ∀ (rows : List (List Value)), (∀ r ∈ rows, r.length = 4) → rows.flatten.length = rows.length * 4
  | [], _ => rfl
  | r :: rows, h => by rw [List.flatten_cons, List.length_append, h r (by simp), flat_len4 rows (fun r hr => h r (by simp [hr])), List.length_cons]; omega
/-- slices.Clone at schemas that lie in a row. -/
theorem clone_rows (g off n c : Nat) (xs : List Value) (w : World) (hc : ∀ j u, xs[j]? = some u → w.cell? ⟨g, off + j, none⟩ = some u) (hn : xs.length = n * 4) (h0 : n ≠ 0) (hl : n ≤ 1000000) (h1 : ∀ u ∈ xs, u.oneCell' = true) : Calls Try.prog 24 #[.slice (some ⟨g, off, none⟩) n c] w fun e w' => ∃ (g2 cap : Nat), e = .returned (.slice (some ⟨g2, 0, none⟩) n cap) ∧ ClF w w' g2 n cap xs := by
  have q2 : ∀ (w : World) (a : Option Addr) (n c n' c' : Nat), (binOp .eql 22 (.slice a n c) (.slice none n' c')).run Try.prog w = .ok (.bool a.isNone) w := fun w a n c n' c' => Lib.run_eql_slice_nil w _ _ a n c n' c' Try.underlying22
  have HC := Lib.hid hc
  have HN := Lib.hid hn
  have H0 := Lib.hid h0
  have HL := Lib.hid hl
  have H1 := Lib.hid h1
  clear hc hn h0 h1
  go_enter Try.func24, Try.ntmps24
  go_wp2_with (at_builtin; go_must (refine wp_copysch HC.out HN.out H0.out HL.out H1.out rfl (.tmp 5) (.tmp 6) rfl rfl rfl ?_); intro g2 cap2 w1 hR1)
  go_ret
  exact ⟨g2, cap2, rfl, hR1⟩
theorem flat_erase : ∀ (rows : List (List Value)) (i : Nat), (∀ r ∈ rows, r.length = 4) → (rows.eraseIdx i).flatten = rows.flatten.take (i * 4) ++ rows.flatten.drop ((i + 1) * 4)
  | [], i, _ => by simp
  | r :: rows, 0, h => by
    have hr := h r (by simp)
    rw [List.eraseIdx_cons_zero, List.flatten_cons, Nat.zero_mul, List.take_zero, List.nil_append, List.drop_append, List.drop_of_length_le (by omega), List.nil_append, show (0 + 1) * 4 - r.length = 0 by omega, List.drop_zero]
  | r :: rows, i + 1, h => by
    have hr := h r (by simp)
    have e1 : (r ++ rows.flatten).take ((i + 1) * 4) = r ++ rows.flatten.take (i * 4) := by
      rw [show (i + 1) * 4 = r.length + i * 4 by omega, List.take_length_add_append]
    have e2 : (r ++ rows.flatten).drop ((i + 1 + 1) * 4) = rows.flatten.drop ((i + 1) * 4) := by
      rw [show (i + 1 + 1) * 4 = r.length + (i + 1) * 4 by omega, List.drop_length_add_append]
    rw [List.eraseIdx_cons_succ, List.flatten_cons, flat_erase rows i (fun r hr => h r (by simp [hr])), List.flatten_cons, e1, e2, List.append_assoc]
theorem ls_of_cells {w W : World} {g n c : Nat} {rows : List (List Value)} {l : List Sch} (hc : ∀ j u, rows.flatten[j]? = some u → W.cell? ⟨g, j, none⟩ = some u) (h1 : rows.length = l.length) (hn : n = l.length) (hcap : n ≤ c) (h3 : ∀ r ∈ rows, r.length = 4) (h4 : ∀ (i : Nat) (r : List Value) (x : Sch), rows[i]? = some r → l[i]? = some x → ScAt w r x) (hb : Below w.heap.size w W) : LsAt W (.slice (some ⟨g, 0, none⟩) n c) l := by
  subst hn
  refine ⟨rows, h1, ⟨Sl.mk (by rw [flat_len4 rows h3, h1]) (fun j u hu => by rw [Nat.zero_add]; exact hc j u hu), Cap.mk hcap⟩, h3, fun i r x hr hx => (h4 i r x hr hx).below hb⟩
/-- clear of one schema. -/
theorem run_clear4 (w : World) (ty : TypeId) (b o c : Nat) (hc : ∀ j, j < 4 → (w.cell? ⟨b, o + j, none⟩).isSome = true) (hf : ∀ j, j < 4 → w.frozen? ⟨b, o + j, none⟩ = false) :
    (Builtin.clear_ #[22] ty #[.slice (some ⟨b, o, none⟩) 1 c]).run Try.prog w = .ok (.tuple #[]) (w.setCells b o [.string ⟨#[]⟩, .slice none 0 0, .int .i64 0, .slice none 0 0]) := by
  have hv : ∀ w, (zeroValue 28).run Try.prog w = .ok (.agg #[.string ⟨#[]⟩, .slice none 0 0, .int .i64 0, .slice none 0 0]) w := fun w => Try.zeroValue28 w
  have hst := run_storeCells_cells (P := Try.prog) b o [.string ⟨#[]⟩, .slice none 0 0, .int .i64 0, .slice none 0 0] 0 w (by simpa using hc) (by simpa using hf) (by intro v hv'; simp at hv'; rcases hv' with rfl | rfl | rfl | rfl <;> rfl)
  simp only [Nat.add_zero] at hst
  have hzc : (Builtin.zeroCells (Value.cells (.agg #[.string ⟨#[]⟩, .slice none 0 0, .int .i64 0, .slice none 0 0])) 1).toList = [.string ⟨#[]⟩, .slice none 0 0, .int .i64 0, .slice none 0 0] := by kernel_rfl
  simp [Builtin.clear_, run_underlying Try.underlying22, hv, hzc, hst]
set_option maxRecDepth 100000 in
set_option maxHeartbeats 4000000 in
/-- slices.Delete of one schema. -/
theorem delete_sch (W0 W : World) (g n cap i : Nat) (xs : List Value) (h : ClF W0 W g n cap xs) (hi : i < n) (hl : n ≤ 1000000) : Calls Try.prog 29 #[.slice (some ⟨g, 0, none⟩) n cap, .int .i64 (i : Nat), .int .i64 ((i : Int) + 1)] W fun e w' => e = .returned (.slice (some ⟨g, 0, none⟩) (n - 1) cap) ∧ (∀ j u, (xs.take (i * 4) ++ xs.drop ((i + 1) * 4))[j]? = some u → w'.cell? ⟨g, j, none⟩ = some u) ∧ Below W0.heap.size W0 w' := by
  obtain ⟨i0, hi0, hz0, hz1, hz2⟩ := info_parts infoS4
  have hne : ((i : Int) == (i : Int) + 1) = false := by simp; omega
  have hnc : n ≤ cap := h.cap.1
  have hic : i ≤ cap := by have := h.cap.1; omega
  have hjc : i + 1 ≤ cap := by have := h.cap.1; omega
  have hcm : cap ≤ 9223372036854775807 := h.cap.2
  obtain ⟨news, hnews⟩ : ∃ news, news = xs.drop ((i + 1) * 4) := ⟨_, rfl⟩
  have hlx := h.len
  have hlen : news.length = (n - (i + 1)) * 4 := by rw [hnews, List.length_drop]; omega
  have hget : ∀ j u, news[j]? = some u → W.drew.cell? ⟨g, (i + 1) * 4 + j, none⟩ = some u := fun j u hu => by
    rw [hnews, List.getElem?_drop] at hu
    exact h.cell _ u hu
  obtain ⟨A, hA, hsrc⟩ : ∃ A : Addr, (if cap = i + 1 then (some ⟨g, 0, none⟩ : Option Addr) else some ⟨g, (i + 1) * 4, none⟩) = some A ∧ Hid (∀ t u, news[t]? = some u → W.drew.cell? (A.add t) = some u) := by
    by_cases hc : cap = i + 1
    · refine ⟨⟨g, 0, none⟩, by simp [hc], Lib.hid fun t u hu => ?_⟩
      have h0 : news.length = 0 := by rw [hlen]; omega
      rw [List.length_eq_zero_iff.1 h0] at hu
      simp at hu
    · refine ⟨⟨g, (i + 1) * 4, none⟩, by simp [hc], Lib.hid fun t u hu => ?_⟩
      rw [Addr.add_lit]
      exact hget t u hu
  have s1 : Hid (news.length = (n - (i + 1)) * 4) := Lib.hid hlen
  have s2 : Hid (∀ u ∈ news, u.oneCell' = true) := Lib.hid fun u hu => h.one u (by rw [hnews] at hu; exact List.mem_of_mem_drop hu)
  have hold : ∀ j, j < xs.length → (W.drew.cell? ⟨g, j, none⟩).isSome = true ∧ W.drew.frozen? ⟨g, j, none⟩ = false := fun j hj => by
    refine ⟨?_, h.fz j hj⟩
    show (W.cell? _).isSome = true
    rw [h.cell j _ (List.getElem?_eq_getElem hj)]
    rfl
  have s3 : Hid (∀ t, t < news.length → (W.drew.cell? ⟨g, 0 + i * 4 + t, none⟩).isSome = true ∧ W.drew.frozen? ⟨g, 0 + i * 4 + t, none⟩ = false) := Lib.hid fun t ht => by
    rw [hlen] at ht
    rw [Nat.zero_add]
    exact hold _ (by omega)
  obtain ⟨W1, hW1⟩ : ∃ W1, W1 = W.drew.setCells g (0 + i * 4) news := ⟨_, rfl⟩
  have hsome1 : ∀ j, j < xs.length → (W1.cell? ⟨g, j, none⟩).isSome = true ∧ W1.frozen? ⟨g, j, none⟩ = false := fun j hj => by
    rw [hW1]
    exact ⟨World.isSome_setCells g news _ _ _ (hold j hj).1, by rw [World.frozen?_setCells]; exact (hold j hj).2⟩
  have hm1 : i + (n - (i + 1)) = n - 1 := by omega
  have hcl : ∀ ty, (Builtin.clear_ #[22] ty #[.slice (some ⟨g, (i + (n - (i + 1))) * 4, none⟩) (n - (i + (n - (i + 1)))) (cap - (i + (n - (i + 1))))]).run Try.prog W1 = .ok (.tuple #[]) (W1.setCells g ((i + (n - (i + 1))) * 4) [.string ⟨#[]⟩, .slice none 0 0, .int .i64 0, .slice none 0 0]) := fun ty => by
    rw [show n - (i + (n - (i + 1))) = 1 by omega]
    exact run_clear4 W1 ty g _ _ (fun j hj => (hsome1 _ (by omega)).1) (fun j hj => (hsome1 _ (by omega)).2)
  have hnc2 : ¬ cap = i + (n - (i + 1)) := by omega
  have mixed : Try.prog.follows .mixedOrders = true := by kernel_rfl
  have hin : i + 1 ≤ n := hi
  have hinz : 0 ≤ (i : Int) + 1 ∧ (i : Int) + 1 ≤ (n : Int) := by omega
  have hW := Lib.hid hW1
  have HF := Lib.hid h
  have HX := Lib.hid hlx
  have HNW := Lib.hid hnews
  have HM := Lib.hid hm1
  have HG := Lib.hid hget
  have HO := Lib.hid hold
  clear h hlx hnews hm1 hget hold hW1 hsome1 hlen
  go_enter Try.func29, Try.ntmps29
  go_wp2_with fail
  go_region_law_o (refine step_append_room rfl (.tmp 22) (.tmp 25) 22 rfl 28 i0 4 Try.underlying22 hi0 hz1 g 0 i cap (by simp [Act.eval, Act.put]) A (n - (i + 1)) (cap - (i + 1)) news (by simp [Act.eval, Act.put]) s1.out hsrc.out s2.out (by omega) s3.out ?_; rw [← hW.out])
  go_wp2
  go_ret
  rw [HM.out]
  refine ⟨rfl, fun j u hu => ?_, ?_⟩
  · have hj := (List.getElem?_eq_some_iff.1 hu).1
    have hxl := HX.out
    rw [List.length_append, List.length_take, List.length_drop] at hj
    rw [World.cell?_setCells_out _ _ _ _ _ (fun _ _ => .inl (by show j < _; omega)), hW.out, Nat.zero_add]
    by_cases hji : j < i * 4
    · rw [World.cell?_setCells_out _ _ _ _ _ (fun _ _ => .inl (by show j < _; omega))]
      rw [List.getElem?_append_left (by rw [List.length_take]; omega), List.getElem?_take] at hu
      rw [if_pos hji] at hu
      exact HF.out.cell j u hu
    · rw [List.getElem?_append_right (by rw [List.length_take]; omega), List.length_take, show min (i * 4) xs.length = i * 4 by omega, ← HNW.out] at hu
      have hjn := (List.getElem?_eq_some_iff.1 hu).1
      have h2 := World.cell?_setCells_in g news (i * 4) W.drew (fun t ht => by have := (s3.out t ht).1; rwa [Nat.zero_add] at this) (j - i * 4) hjn
      rw [show i * 4 + (j - i * 4) = j by omega] at h2
      rw [h2, (List.getElem?_eq_some_iff.1 hu).2]
  · refine Go.Lib.below_setCells g HF.out.hg _ _ ?_
    rw [hW.out]
    exact Go.Lib.below_setCells g HF.out.hg _ _ HF.out.b.drew
end Go.Proofs.Ytokbipfkpojflaa.Sc
