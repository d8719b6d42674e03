/-
  Networks: the reference's Implied, and slices.Clone at constraints (layer 46).
-/
import Derived.Test.YtoadihclmnjjnaaNxG
import Derived.Test.YtoadihclmnjjnaaNxJ
import Derived.Test.YtoadihclmnjjnaaNwU
import Derived.Deep.Upon
import Derived.Lib.AppendZeros
import Derived.Shelf.Slices.Clone
set_option linter.unusedSimpArgs false
set_option linter.unusedVariables false
set_option maxRecDepth 100000
namespace Go.Proofs.Ytoadihclmnjjnaa.Nw
open Go Go.RowKit Go.ChangeShapes Go.WideShapes Go.Proofs.Ytoadihclmnjjnaa.Sl Go.Proofs.Ytoadihclmnjjnaa.Al Go.Lib

theorem run_app_empty (w : World) (g : Nat) (ad : Option Addr) (c : Nat) (ty : TypeId) : (Builtin.append_ #[22, 22] ty #[.slice (some ⟨g, 0, none⟩) 0 0, .slice ad 0 c]).run Try.prog w = .ok (.slice (some ⟨g, 0, none⟩) 0 0) w := by
  obtain ⟨i0, hi, hz0, hz1, hz2⟩ := info_parts infoR
  refine run_append_nothing w _ _ ty _ i0 Try.underlying22 hi _ 0 0 (Nat.le_refl _) _ ⟨.inl ⟨_, Try.underlying22⟩, fun w' => ?_, ?_, ?_, by simp, nofun⟩
  · simp [Builtin.lenOf]
  · cases ad <;> simp [Builtin.firstCells, loadCells, loadCellsFrom]
  · cases ad <;> simp [Builtin.firstCells, loadCells, loadCellsFrom]
/-- append([]T{}, l...). -/
theorem wp_copyrel {ops : Array Oper} {rest : List Oper} {o : Oper} {a : Act} {Q : Exit → Act → World → Prop} {w : World} {v : Value} {l : List Rl} (hr : Rs w v l) (hl : l.length ≤ 1000000) (hgd : o.guard = none) (s x : Operand)
    (ho : o.op = .call { callee := .builtin .append, args := #[s, x], argTypes := #[22, 22] }) (hs : a.eval s = .slice (some ⟨w.heap.size, 0, none⟩) 0 0) (hx : a.eval x = v)
    (h : ∀ v' w', Rf w w' v' l → wpList Try.prog ops Q rest (a.put o.dst v') w') : wpList Try.prog ops Q (o :: rest) a (w.alloc (.cells #[] 30)) := by
  obtain ⟨i0, hi, hz0, hz1, hz2⟩ := info_parts infoR
  have hown : (w.alloc (.cells #[] 30)).ownsRow w.heap.size 30 3 (.slice (some ⟨w.heap.size, 0, none⟩) 0 0) 0 [] := ⟨rfl, .inr ⟨w.heap.size, 0, #[], rfl, Nat.le_refl _, heap_alloc_new w _, Nat.le_refl _, Nat.zero_le _, rfl, rfl⟩⟩
  have hbA : Below w.heap.size w (w.alloc (.cells #[] 30)) := (Below.refl _ _).alloc (Nat.le_refl _) _
  by_cases h0 : l.length = 0
  · obtain ⟨ad, c, rfl⟩ := hr.form
    rw [h0] at hx
    obtain rfl := List.length_eq_zero_iff.1 h0
    exact Lib.wpList_append_run _ hgd s x _ _ ho _ _ hs hx _ _ (run_app_empty _ w.heap.size ad c o.type) (h _ _ ⟨hown, hbA⟩)
  · obtain ⟨g, off, c, rfl, hc⟩ := (hr.below hbA).1.open h0
    refine wpList_append_lies _ hgd s x _ ho w.heap.size _ i0 _ 3 24 Try.underlying22 hi hz0 hz1 hz2 rfl (by decide) _ 0 [] hs hown ⟨g, off, none⟩ l.length c (cellsR l) hx (cellsR_len l) (fun j u hu => ?_) (fun u hu => ?_) (by omega) (by unfold maxLen; omega) (by omega) (by simp) (w.heap.size + 1) (by simp) ?_
    · have hadd : (⟨g, off, none⟩ : Addr).add j = ⟨g, off + j, none⟩ := by unfold Addr.add; split <;> simp_all
      rw [hadd]
      exact hc j u hu
    · obtain ⟨r, _, hu2⟩ := List.mem_flatMap.1 hu
      simp only [relC, List.mem_cons, List.not_mem_nil, or_false] at hu2
      rcases hu2 with rfl | rfl | rfl <;> rfl
    · intro q cap w' h2 h3 _ _
      rw [List.nil_append] at h2
      rw [Nat.zero_add] at h2 ⊢
      exact h _ w' ⟨h2, hbA.grown h3 (by simp) (fun k hk => by cases hk; exact Nat.le_refl _)⟩
theorem rcon2 (n : Nat) (l : List Rl) (v : Value) (w : World) (hn : 0 < n) (hn8 : n ≤ 8) (hs : Rs w v l) (hl : l.length ≤ 1000000) (hok : ∀ r ∈ l, OkR n r) : Calls Try.prog 16 #[.int .i64 (n : Int), v] w (RnE (SatL n l) w) := by
  obtain ⟨ad, c, rfl⟩ := hs.form
  exact rconsistent_any n l ad _ c w hn hn8 rfl hs hl hok
theorem ok_one {n : Nat} {l : List Rl} (hok : ∀ r ∈ l, OkR n r) {i j c : Nat} (hi : i < n) (hj : j < n) (hc : c < 13) : ∀ r ∈ l ++ [oneR i j c], OkR n r := fun r hr => by
  rcases List.mem_append.1 hr with h | h
  · exact hok r h
  · obtain rfl := List.mem_singleton.1 h
    exact ⟨i, j, 2 ^ c, rfl, hi, hj, pow13_lt c hc⟩
set_option maxHeartbeats 8000000 in
theorem rimplied_any (n : Nat) (l : List Rl) (i j : Nat) (s : Value) (w : World) (hn : 0 < n) (hn8 : n ≤ 8) (hi : i < n) (hj : j < n) (hs : Rs w s l) (hl : l.length ≤ 1000) (hok : ∀ r ∈ l, OkR n r) :
    Calls Try.prog 27 #[.int .i64 (n : Int), s, .int .i64 (i : Int), .int .i64 (j : Int)] w fun e w' => ∃ out : Nat, ImO n l i j 13 out ∧ e = .returned (.int .i64 (out : Int)) ∧ Below w.heap.size w w' := by
  have HCN := fun c (hc : c < 13) v W (h : Rs W v (l ++ [oneR i j c])) => rcon2 n _ v W hn hn8 h (by rw [List.length_append]; simp; omega) (ok_one hok hi hj hc)
  obtain ⟨ad, c, rfl⟩ := hs.form
  obtain ⟨q, hq⟩ : ∃ q, q = l.length := ⟨_, rfl⟩
  have HS := Lib.hid hs
  have HL := Lib.hid hl
  rw [← hq] at HS ⊢
  clear hs hok hl hq
  go_enter Try.func27, Try.ntmps27
  go_wp2
  go_loopw [9, 10] (fun ov rv wr => ∃ out r : Nat, r ≤ 13 ∧ ov = .int .i64 (out : Int) ∧ rv = .int .i64 (r : Int) ∧ Hid (ImO n l i j r out) ∧ Below w.heap.size w wr) (fun _ rv _ => 13 - (RowKit.intOf rv).toNat)
  case atStart => exact ⟨0, 0, by omega, rfl, rfl, Lib.hid (ImO.zero n l i j), Below.refl _ _⟩
  case round =>
    obtain ⟨out, r, hr, rfl, rfl, hI, hL⟩ := hrel
    by_cases hr13 : r < 13
    · have r0 : (0 : Int) ≤ (r : Int) := by omega
      have r1 : (r : Int) < 13 := by omega
      have hp1 := wrap_pw r (by omega)
      have hs1 := HS.out.below hL
      have hor : bits .or .i64 (out : Int) ((pw r : Nat) : Int) = ((out ||| 2 ^ r : Nat) : Int) := Bt.bits_or _ _ (by have := hI.out.lt hr; omega) (by have := pow_lt r (by omega); unfold pw; omega)
      have HS1 := Lib.hid hs1
      have HK := HCN r hr13
      have HLN := Lib.hid (show l.length ≤ 1000000 by have := HL.out; omega)
      have HLN2 := Lib.hid (show (l ++ [oneR i j r]).length ≤ 1000000 by have := HL.out; rw [List.length_append]; simp; omega)
      clear hs1
      go_wp2_with (first | (at_builtin; refine wp_copyrel HS1.out HLN.out rfl (.tmp 16) (.tmp 17) rfl rfl rfl ?_; intro v1 w1 hR1) | (at_builtin; refine wp_rel hR1 rfl (.tmp 18) (.tmp 25) rfl rfl 30 rfl (by simp) (oneR i j r) HLN.out ?_; intro v2 w2 hR2; have hRs := hR2.rs HLN2.out) | (go_at_call 16; (with_reducible refine (HK _ _ hRs).mono ?_); rintro e w3 ⟨b, rfl, hbi, hb3⟩; have hL3 := bstep hL (bstep hR2.2 hb3); have HBI := Lib.hid hbi; clear hbi hRs hR1 hR2 hb3; cases b))
      · have hn : ¬ SatL n (l ++ [oneR i j r]) := fun h => by have := HBI.out.2 h; cases this
        have HN := Lib.hid hn
        clear hn HBI
        go_roundw
        case rel => exact ⟨out, r + 1, by omega, rfl, by go_num, Lib.hid (hI.out.no HN.out), hL3⟩
        case measure => simp [RowKit.intOf]; omega
      · have hn : SatL n (l ++ [oneR i j r]) := HBI.out.1 trivial
        have HN := Lib.hid hn
        clear hn HBI
        go_roundw
        case rel => exact ⟨out ||| 2 ^ r, r + 1, by omega, rfl, by go_num, Lib.hid (hI.out.yes HN.out), hL3⟩
        case measure => simp [RowKit.intOf]; omega
    · obtain rfl : r = 13 := by omega
      go_wp2
      go_ret
      exact ⟨out, hI.out, rfl, hL⟩
/-- slices.Clone at constraints. -/
theorem clone_rels (l : List Rl) (s : Value) (w : World) (hs : Rs w s l) (hl : l.length ≤ 1000000) : Calls Try.prog 28 #[s] w fun e w' => ∃ v, e = .returned v ∧ Rf w w' v l := by
  obtain ⟨ad, c, rfl⟩ := hs.form
  have q2 : ∀ (w : World) (a : Option Addr) (n c n' c' : Nat), (binOp .eql 22 (.slice a n c) (.slice none n' c')).run Try.prog w = .ok (.bool a.isNone) w := fun w a n c n' c' => Lib.run_eql_slice_nil w _ _ a n c n' c' Try.underlying22
  cases ad with
  | none =>
    have h0 : l.length = 0 := by
      rcases Nat.eq_zero_or_pos l.length with h | h
      · exact h
      · obtain ⟨g, off, c2, h2, _⟩ := hs.1.open (by omega)
        cases h2
    obtain rfl := List.length_eq_zero_iff.1 h0
    have HF := Lib.hid (Rf.nil w)
    simp only [List.length_nil] at hs ⊢
    clear hs hl h0
    go_enter Try.func28, Try.ntmps28
    go_wp2
    go_ret
    exact ⟨_, rfl, HF.out⟩
  | some ad =>
    obtain ⟨q, hq⟩ : ∃ q, q = l.length := ⟨_, rfl⟩
    have HS := Lib.hid hs
    rw [← hq] at HS ⊢
    have HLN := Lib.hid hl
    clear hs hl hq
    go_enter Try.func28, Try.ntmps28
    go_wp2_with (at_builtin; go_must (refine wp_copyrel HS.out HLN.out rfl (.tmp 5) (.tmp 6) rfl rfl rfl ?_); intro v1 w1 hR1)
    go_ret
    exact ⟨_, rfl, hR1⟩
end Go.Proofs.Ytoadihclmnjjnaa.Nw
