/-
  Row of the schema layer: its closures, slices.IndexFunc, ContainsFunc, EqualFunc, Clone at values (layer 34).
-/
import Derived.Test.YtokbipfkpojflaaScA
import Derived.Test.YtokbipfkpojflaaVaF
import Derived.Deep.Upon
import Derived.Lib.AppendZeros
set_option linter.unusedSimpArgs false
set_option linter.unusedVariables false
namespace Go.Proofs.Ytokbipfkpojflaa.Sc
open Go Go.RowKit Go.ChangeShapes Go.WideShapes Go.Proofs.Ytokbipfkpojflaa.Sl Go.Lib
open Go.Proofs.Ytokbipfkpojflaa.Va (Cl flatC Cs cs_get V3 Vs flatV flatV_len vs_get badV validV allV valid_any idxV idxV_step idxV_pos any_bad agV SzL rowV)

theorem row1_any (k n : Int) (s : ByteArray) (w : World) : Calls Try.prog 86 #[agV k n s] w fun e w' => e = .returned (.bool (badV (k, n, s))) ∧ Below w.heap.size w w' := by
  unfold badV
  have HC := fun W => Va.valid_any (k, n, s) W
  generalize validV (k, n, s) = b at HC ⊢
  go_enter Try.func86, Try.ntmps86
  go_wp2_with (go_at_call 87; ((with_reducible refine (HC _).mono ?_); rintro e w1 ⟨rfl, hL⟩))
  go_ret
  exact ⟨rfl, (by have hB := bstep (w := w) (by go_grown) hL; have hs := hB.size; go_grown)⟩
set_option maxRecDepth 20000 in
theorem idx_row (l : List V3) (s : Value) (w : World) (hl : l.length ≤ 2000000) (hs : Vs w s l) :
    Calls Try.prog 102 #[s, .func (.func 86) #[] #[]] w fun e w' => e = .returned (.int .i64 (idxV badV 0 l)) ∧ Below w.heap.size w w' := by
  by_cases h0 : l.length = 0
  · obtain ⟨ad, cap, rfl⟩ := hs.form
    have hn : l = [] := List.length_eq_zero_iff.1 h0
    subst hn
    show Calls Try.prog 102 #[.slice ad 0 cap, _] w fun e w' => e = .returned (.int .i64 (-1)) ∧ Below w.heap.size w w'
    go_enter Try.func102, Try.ntmps102
    go_wp2
    refine wp_loop_rounds 1 ?_
    rw [rounds_succ]
    go_wp2
    go_ret
    exact ⟨rfl, Below.refl _ _⟩
  · obtain ⟨g, off, cap, rfl, hc⟩ := hs.open h0
    obtain ⟨n, hn⟩ : ∃ n, n = l.length := ⟨_, rfl⟩
    obtain ⟨Z, hZ⟩ : ∃ Z, idxV badV 0 l = Z := ⟨_, rfl⟩
    have HN := Lib.hid hn
    have HZ := Lib.hid hZ
    have HC := Lib.hid hc
    rw [← hn] at hl h0 ⊢
    rw [hZ]
    clear hc hs hn hZ
    go_enter Try.func102, Try.ntmps102
    go_wp2
    go_loopw [8] (fun i wr => ∃ k : Nat, k ≤ n ∧ i = .int .i64 k ∧ Hid (idxV badV k (l.drop k) = Z) ∧ Below w.heap.size w wr) (fun i _ => n - (intOf i).toNat)
    case atStart => exact ⟨0, Nat.zero_le _, rfl, Lib.hid HZ.out, Below.refl _ _⟩
    case round =>
      obtain ⟨k, hk, rfl, HI, hL⟩ := hrel
      by_cases hlt : k < n
      · obtain ⟨⟨a, b, t⟩, ht⟩ : ∃ t, l[k]? = some t := ⟨_, List.getElem?_eq_getElem (by rw [← HN.out]; exact hlt)⟩
        have hst := idxV_step badV l k _ ht
        rw [HI.out] at hst
        obtain ⟨c0, c1, c2⟩ := vs_get HC.out ht
        have d0 := Go.Proofs.Ytokbipfkpojflaa.Sl.cell_kept c0 hL
        have d1 := Go.Proofs.Ytokbipfkpojflaa.Sl.cell_kept c1 hL
        have d2 := Go.Proofs.Ytokbipfkpojflaa.Sl.cell_kept c2 hL
        have HB := fun W => row1_any a b t W
        generalize badV (a, b, t) = bb at HB hst
        have HS := Lib.hid hst
        have k0 : (0 : Int) ≤ (k : Int) := by omega
        have k1 : (k : Int) < (n : Int) := by omega
        clear ht hst c0 c1 c2
        cases bb
        · go_wp2_with (go_at_call 86; with_reducible refine (HB _).mono ?_; rintro e w1 ⟨rfl, hb⟩; have hL2 := bstep hL hb; clear hb)
          go_roundw
          case rel => exact ⟨k + 1, by omega, by go_num, Lib.hid (by have := HS.out; rw [if_neg (by simp)] at this; exact this.symm), hL2⟩
          case measure => simp [intOf]; omega
        · go_wp2_with (go_at_call 86; with_reducible refine (HB _).mono ?_; rintro e w1 ⟨rfl, hb⟩; have hL2 := bstep hL hb; clear hb)
          go_ret
          exact ⟨by rw [HS.out]; rfl, hL2⟩
      · go_wp2
        go_ret
        exact ⟨by show Ending.returned (.int .i64 (-1)) = _; rw [← HI.out, List.drop_of_length_le (by rw [← HN.out]; omega)]; rfl, hL⟩
theorem has_row (l : List V3) (s : Value) (w : World) (hl : l.length ≤ 2000000) (hs : Vs w s l) :
    Calls Try.prog 85 #[s, .func (.func 86) #[] #[]] w fun e w' => e = .returned (.bool (!allV l)) ∧ Below w.heap.size w w' := by
  have HC := fun W h => idx_row l s W hl h
  rw [← any_bad, ← idxV_pos]
  generalize idxV badV 0 l = z at HC ⊢
  go_enter Try.func85, Try.ntmps85
  go_wp2_with (go_at_call 102; ((with_reducible refine (HC _ hs).mono ?_); rintro e w1 ⟨rfl, hL⟩))
  go_ret
  exact ⟨rfl, (by have hB := bstep (w := w) (by go_grown) hL; have hs := hB.size; go_grown)⟩
/-- Kinds of columns and of values are the same. -/
def eqK (cs : List Cl) (l : List V3) : Bool := decide (cs.map (·.2) = l.map (·.1))
theorem eqK_step (cs : List Cl) (l : List V3) (k : Nat) (c : Cl) (v : V3) (h1 : cs[k]? = some c) (h2 : l[k]? = some v) : eqK (cs.drop k) (l.drop k) = (decide (c.2 = v.1) && eqK (cs.drop (k + 1)) (l.drop (k + 1))) := by
  have e1 := List.getElem?_eq_some_iff.1 h1
  have e2 := List.getElem?_eq_some_iff.1 h2
  rw [List.drop_eq_getElem_cons e1.1, List.drop_eq_getElem_cons e2.1, e1.2, e2.2]
  unfold eqK
  by_cases h : c.2 = v.1 <;> simp [h]
theorem eqK_len (cs : List Cl) (l : List V3) (h : ¬ cs.length = l.length) : eqK cs l = false := by
  unfold eqK
  refine decide_eq_false (fun e => h ?_)
  have := congrArg List.length e
  simpa using this
theorem row2_any (c : ByteArray) (x : Int) (k n : Int) (s : ByteArray) (w : World) : Calls Try.prog 89 #[.agg #[.string c, .int .i64 x], agV k n s] w fun e w' => e = .returned (.bool (decide (x = k))) ∧ Below w.heap.size w w' := by
  by_cases h : x = k
  · subst h
    go_enter Try.func89, Try.ntmps89
    go_wp2
    go_ret
    exact ⟨by simp, by go_grown⟩
  · have hne : (x == k) = false := by simpa using h
    go_enter Try.func89, Try.ntmps89
    go_wp2
    go_ret
    exact ⟨by simp [h], by go_grown⟩
set_option maxRecDepth 20000 in
set_option maxHeartbeats 1000000 in
theorem eqr_any (cs : List Cl) (l : List V3) (a b : Value) (w : World) (hl : cs.length ≤ 1000000) (ha : Cs w a cs) (hb : Vs w b l) :
    Calls Try.prog 88 #[a, b, .func (.func 89) #[] #[]] w fun e w' => e = .returned (.bool (eqK cs l)) ∧ Below w.heap.size w w' := by
  by_cases hz : cs.length = l.length
  · by_cases h0 : cs.length = 0
    · have e1 : cs = [] := List.length_eq_zero_iff.1 h0
      have e2 : l = [] := List.length_eq_zero_iff.1 (hz ▸ h0)
      subst e1 e2
      obtain ⟨ad, cap, rfl⟩ := ha.form
      obtain ⟨bd, bcap, rfl⟩ := hb.form
      show Calls Try.prog 88 #[.slice ad 0 cap, .slice bd 0 bcap, _] w fun e w' => e = .returned (.bool true) ∧ Below w.heap.size w w'
      clear ha hb hz h0 hl
      go_enter Try.func88, Try.ntmps88
      go_wp2
      refine wp_loop_rounds 1 ?_
      rw [rounds_succ]
      go_wp2
      go_ret
      exact ⟨rfl, Below.refl _ _⟩
    · obtain ⟨g, off, cap, rfl, hc⟩ := ha.open h0
      obtain ⟨g2, off2, cap2, rfl, hc2⟩ := hb.open (hz ▸ h0)
      rw [← hz]
      obtain ⟨n, hn⟩ : ∃ n, n = cs.length := ⟨_, rfl⟩
      obtain ⟨Z, hZ⟩ : ∃ Z, eqK cs l = Z := ⟨_, rfl⟩
      have HN := Lib.hid hn
      have HZ := Lib.hid hZ
      have HE := Lib.hid hz
      have HC := Lib.hid hc
      have HC2 := Lib.hid hc2
      rw [← hn] at hl h0 ⊢
      rw [hZ]
      clear hc hc2 ha hb hn hZ hz
      go_enter Try.func88, Try.ntmps88
      go_wp2
      go_loopw [17] (fun i wr => ∃ k : Nat, k ≤ n ∧ i = .int .i64 k ∧ Hid (eqK (cs.drop k) (l.drop k) = Z) ∧ Below w.heap.size w wr) (fun i _ => n - (intOf i).toNat)
      case atStart => exact ⟨0, Nat.zero_le _, rfl, Lib.hid HZ.out, Below.refl _ _⟩
      case round =>
        obtain ⟨k, hk, rfl, HI, hL⟩ := hrel
        by_cases hlt : k < n
        · obtain ⟨⟨c, x⟩, ht⟩ : ∃ t, cs[k]? = some t := ⟨_, List.getElem?_eq_getElem (by rw [← HN.out]; exact hlt)⟩
          obtain ⟨⟨q, m, t⟩, ht2⟩ : ∃ t, l[k]? = some t := ⟨_, List.getElem?_eq_getElem (by rw [← HE.out, ← HN.out]; exact hlt)⟩
          have hst := eqK_step cs l k _ _ ht ht2
          rw [HI.out] at hst
          obtain ⟨c0, c1⟩ := cs_get HC.out ht
          obtain ⟨x0, x1, x2⟩ := vs_get HC2.out ht2
          have d0 := Go.Proofs.Ytokbipfkpojflaa.Sl.cell_kept c0 hL
          have d1 := Go.Proofs.Ytokbipfkpojflaa.Sl.cell_kept c1 hL
          have y0 := Go.Proofs.Ytokbipfkpojflaa.Sl.cell_kept x0 hL
          have y1 := Go.Proofs.Ytokbipfkpojflaa.Sl.cell_kept x1 hL
          have y2 := Go.Proofs.Ytokbipfkpojflaa.Sl.cell_kept x2 hL
          have hsz := hL.size
          have hbl := block_of_cell d0
          have hbl2 := block_of_cell y0
          have HB := fun W => row2_any c x q m t W
          dsimp only at hst
          generalize decide (x = q) = bb at HB hst
          have HS := Lib.hid hst
          have k0 : (0 : Int) ≤ (k : Int) := by omega
          have k1 : (k : Int) < (n : Int) := by omega
          clear ht ht2 hst c0 c1 x0 x1 x2
          cases bb
          · go_wp2_with (go_at_call 89; (with_reducible refine (HB _).mono ?_); rintro e w1 ⟨rfl, hb⟩; have hL2 : Below w.heap.size w w1 := bstep (by go_grown) hb; clear hb)
            go_ret
            exact ⟨by rw [HS.out]; rfl, hL2⟩
          · go_wp2_with (go_at_call 89; (with_reducible refine (HB _).mono ?_); rintro e w1 ⟨rfl, hb⟩; have hL2 : Below w.heap.size w w1 := bstep (by go_grown) hb; clear hb)
            go_roundw
            case rel => exact ⟨k + 1, by omega, by go_num, Lib.hid (by have := HS.out; rw [Bool.true_and] at this; exact this.symm), hL2⟩
            case measure => simp [intOf]; omega
        · go_wp2
          go_ret
          refine ⟨?_, hL⟩
          have := HI.out
          rw [List.drop_of_length_le (by rw [← HN.out]; omega), List.drop_of_length_le (by rw [← HE.out, ← HN.out]; omega)] at this
          rw [← this]; rfl
  · obtain ⟨ad, cap, rfl⟩ := ha.form
    obtain ⟨bd, bcap, rfl⟩ := hb.form
    rw [eqK_len cs l hz]
    have hz2 : ((cs.length : Int) == (l.length : Int)) = false := by simpa using (show ¬ (cs.length : Int) = (l.length : Int) by omega)
    have hz3 : ¬ (cs.length : Int) = (l.length : Int) := by omega
    generalize cs.length = n at *
    generalize l.length = m at *
    clear ha hb
    go_enter Try.func88, Try.ntmps88
    go_wp2
    go_ret
    exact ⟨rfl, Below.refl _ _⟩
/-- A slice of values that was made in this call. -/
def Vf (W0 w : World) (v : Value) (l : List V3) : Prop := w.ownsRow W0.heap.size 72 3 v l.length (flatV l) ∧ Below W0.heap.size W0 w
theorem Vf.vs {W0 w : World} {v : Value} {l : List V3} (h : Vf W0 w v l) : Vs w v l := Sl.of_owns h.1
theorem infoV : (Try.prog.info? 72).map (fun i => (i.zero, i.size, i.bytes)) = some (some (.agg #[.int .i64 0, .int .i64 0, .string ⟨#[]⟩]), 3, 32) := by kernel_rfl
theorem run_app_empty (w : World) (g : Nat) (ad : Option Addr) (c : Nat) (ty : TypeId) : (Builtin.append_ #[66, 66] ty #[.slice (some ⟨g, 0, none⟩) 0 0, .slice ad 0 c]).run Try.prog w = .ok (.slice (some ⟨g, 0, none⟩) 0 0) w := by
  obtain ⟨i0, hi, hz0, hz1, hz2⟩ := info_parts infoV
  refine run_append_nothing w _ _ ty _ i0 Try.underlying66 hi _ 0 0 (Nat.le_refl _) _ ⟨.inl ⟨_, Try.underlying66⟩, fun w' => ?_, ?_, ?_, by simp, nofun⟩
  · simp [Builtin.lenOf]
  · cases ad <;> simp [Builtin.firstCells, loadCells, loadCellsFrom]
  · cases ad <;> simp [Builtin.firstCells, loadCells, loadCellsFrom]
/-- append([]T{}, l...). -/
theorem wp_copyval {ops : Array Oper} {rest : List Oper} {o : Oper} {a : Act} {Q : Exit → Act → World → Prop} {w : World} {v : Value} {l : List V3} (hr : Vs w v l) (hl : l.length ≤ 1000000) (hgd : o.guard = none) (s x : Operand)
    (ho : o.op = .call { callee := .builtin .append, args := #[s, x], argTypes := #[66, 66] }) (hs : a.eval s = .slice (some ⟨w.heap.size, 0, none⟩) 0 0) (hx : a.eval x = v)
    (h : ∀ v' w', Vf w w' v' l → wpList Try.prog ops Q rest (a.put o.dst v') w') : wpList Try.prog ops Q (o :: rest) a (w.alloc (.cells #[] 72)) := by
  obtain ⟨i0, hi, hz0, hz1, hz2⟩ := info_parts infoV
  have hown : (w.alloc (.cells #[] 72)).ownsRow w.heap.size 72 3 (.slice (some ⟨w.heap.size, 0, none⟩) 0 0) 0 [] := ⟨rfl, .inr ⟨w.heap.size, 0, #[], rfl, Nat.le_refl _, heap_alloc_new w _, Nat.le_refl _, Nat.zero_le _, rfl, rfl⟩⟩
  have hbA : Below w.heap.size w (w.alloc (.cells #[] 72)) := (Below.refl _ _).alloc (Nat.le_refl _) _
  by_cases h0 : l.length = 0
  · obtain ⟨ad, c, rfl⟩ := hr.form
    rw [h0] at hx
    obtain rfl := List.length_eq_zero_iff.1 h0
    exact Lib.wpList_append_run _ hgd s x _ _ ho _ _ hs hx _ _ (run_app_empty _ w.heap.size ad c o.type) (h _ _ ⟨hown, hbA⟩)
  · obtain ⟨g, off, c, rfl, hc⟩ := (hr.below hbA).open h0
    refine wpList_append_lies _ hgd s x _ ho w.heap.size _ i0 _ 3 32 Try.underlying66 hi hz0 hz1 hz2 rfl (by decide) _ 0 [] hs hown ⟨g, off, none⟩ l.length c (flatV l) hx (flatV_len l) (fun j u hu => ?_) (fun u hu => ?_) (by omega) (by unfold maxLen; omega) (by omega) (by simp) (w.heap.size + 1) (by simp) ?_
    · have hadd : (⟨g, off, none⟩ : Addr).add j = ⟨g, off + j, none⟩ := by unfold Addr.add; split <;> simp_all
      rw [hadd]
      exact hc j u hu
    · obtain ⟨r, hr1, hu2⟩ := List.mem_flatten.1 hu
      obtain ⟨x, _, rfl⟩ := List.mem_map.1 hr1
      simp only [rowV, List.mem_cons, List.not_mem_nil, or_false] at hu2
      rcases hu2 with rfl | rfl | rfl <;> rfl
    · intro q cap w' h2 h3 _ _
      rw [List.nil_append] at h2
      rw [Nat.zero_add] at h2 ⊢
      exact h _ w' ⟨h2, hbA.grown h3 (by simp) (fun k hk => by cases hk; exact Nat.le_refl _)⟩
/-- slices.Clone at values. -/
theorem clone_vals (l : List V3) (s : Value) (w : World) (hs : Vs w s l) (hl : l.length ≤ 1000000) : Calls Try.prog 84 #[s] w fun e w' => ∃ v, e = .returned v ∧ Vs w' v l ∧ Below w.heap.size w w' := by
  obtain ⟨ad, c, rfl⟩ := hs.form
  have q2 : ∀ (w : World) (a : Option Addr) (n c n' c' : Nat), (binOp .eql 66 (.slice a n c) (.slice none n' c')).run Try.prog w = .ok (.bool a.isNone) w := fun w a n c n' c' => Lib.run_eql_slice_nil w _ _ a n c n' c' Try.underlying66
  cases ad with
  | none =>
    have h0 : l.length = 0 := by
      rcases Nat.eq_zero_or_pos l.length with h | h
      · exact h
      · obtain ⟨g, off, c2, h2, _⟩ := hs.open (by omega)
        cases h2
    obtain rfl := List.length_eq_zero_iff.1 h0
    simp only [List.length_nil] at hs ⊢
    clear hs hl h0
    go_enter Try.func84, Try.ntmps84
    go_wp2
    go_ret
    exact ⟨_, rfl, Sl.mk0 _ _ _ _, Below.refl _ _⟩
  | some ad =>
    obtain ⟨q, hq⟩ : ∃ q, q = l.length := ⟨_, rfl⟩
    have HS := Lib.hid hs
    rw [← hq] at HS ⊢
    have HLN := Lib.hid hl
    clear hs hl hq
    go_enter Try.func84, Try.ntmps84
    go_wp2_with (at_builtin; go_must (refine wp_copyval HS.out HLN.out rfl (.tmp 5) (.tmp 6) rfl rfl rfl ?_); intro v1 w1 hR1)
    go_ret
    exact ⟨_, rfl, hR1.vs, hR1.2⟩
end Go.Proofs.Ytokbipfkpojflaa.Sc
